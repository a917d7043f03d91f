/-
HistoryAlike: for any numbers and any topology the law returns true, and the topology reads afterwards as it did.
Conditions: none.
-/
import Derived.Test.YtjfajpoknnifcaaGreatRows
import Derived.Test.YtjfajpoknnifcaaGreatAlp
import Derived.Test.YtjfajpoknnifcaaGreatOpen
import Derived.WalkKit
import Derived.ProofKit
import Derived.OpenShut
import Derived.ChangeOld
import Derived.Carry
namespace Go.Proofs.YtjfajpoknnifcaaGreat
open Go Go.ChangeShapes Go.WideShapes Go.ChangeAt Go.RowKit
set_option maxRecDepth 100000
set_option linter.unusedVariables false
set_option linter.unusedSimpArgs false
theorem ownK : ownKnob Tryz.prog.godebug = none := by kernel_rfl
theorem rd_3 : Reads Tryz.prog 3 (α := Int) (π := Unit) (fun x _ => (encI .i64) x) (fun x => fits .i64 x) (fun _ _ => []) := reads_int Tryz.underlying3
theorem rd_49 : Reads Tryz.prog 49 (α := List Int) (π := Option Addr × Nat × Nat) (fun _ p => [.slice p.1 p.2.1 p.2.2]) (fun xs => ∀ x ∈ xs, fits .i64 x) (fun xs p => [RoL (encI .i64) p.1 p.2.1 xs]) := reads_slice (enc := (encI .i64)) (sz := 1) Tryz.underlying49 (by kernel_rfl) rfl (encI_len .i64) rd_3
theorem rd_148 : Reads Tryz.prog 148 (α := MApiLink) (π := Unit) (fun x _ => encMApiLink x) (fun x => (fits .i64 x.Dev ∧ fits .i64 x.Port ∧ fits .i64 x.Peer ∧ fits .i64 x.PeerPort)) (fun _ _ => []) := ⟨fun e W sp hd fuel cs X h => by
  obtain ⟨xs, n, _, _, hl, hlen, hf⟩ := DataW.trod_struct Tryz.underlying148 h
  have hc : cs.length = 4 := by rw [hl]; kernel_rfl
  have h0 := hf 0 _ rfl
  obtain ⟨y0, hy0⟩ : ∃ y, xs[0]? = some y := ⟨_, List.getElem?_eq_getElem (by rw [hlen]; exact Nat.le_of_ble_eq_true rfl)⟩
  rw [hy0] at h0
  obtain ⟨x0, p0, e0, o0, q0⟩ := (rd_3).rd e W sp hd n _ _ h0
  replace e0 : (cs.drop 0).take 1 = _ := e0
  have h1 := hf 1 _ rfl
  obtain ⟨y1, hy1⟩ : ∃ y, xs[1]? = some y := ⟨_, List.getElem?_eq_getElem (by rw [hlen]; exact Nat.le_of_ble_eq_true rfl)⟩
  rw [hy1] at h1
  obtain ⟨x1, p1, e1, o1, q1⟩ := (rd_3).rd e W sp hd n _ _ h1
  replace e1 : (cs.drop 1).take 1 = _ := e1
  have h2 := hf 2 _ rfl
  obtain ⟨y2, hy2⟩ : ∃ y, xs[2]? = some y := ⟨_, List.getElem?_eq_getElem (by rw [hlen]; exact Nat.le_of_ble_eq_true rfl)⟩
  rw [hy2] at h2
  obtain ⟨x2, p2, e2, o2, q2⟩ := (rd_3).rd e W sp hd n _ _ h2
  replace e2 : (cs.drop 2).take 1 = _ := e2
  have h3 := hf 3 _ rfl
  obtain ⟨y3, hy3⟩ : ∃ y, xs[3]? = some y := ⟨_, List.getElem?_eq_getElem (by rw [hlen]; exact Nat.le_of_ble_eq_true rfl)⟩
  rw [hy3] at h3
  obtain ⟨x3, p3, e3, o3, q3⟩ := (rd_3).rd e W sp hd n _ _ h3
  replace e3 : (cs.drop 3).take 1 = _ := e3
  refine ⟨⟨x0, x1, x2, x3⟩, (), ?_, ⟨o0, o1, o2, o3⟩, ?_⟩
  · have hs : cs = (cs.drop 0).take 1 ++ (cs.drop 1).take 1 ++ (cs.drop 2).take 1 ++ (cs.drop 3).take 1 := by
      apply List.ext_getElem?
      intro i
      simp only [List.getElem?_append, List.getElem?_take, List.getElem?_drop, List.length_take, List.length_drop, List.length_append, hc]
      repeat' split
      all_goals first | (congr 1; omega) | (rw [List.getElem?_eq_none (by omega)])
    rw [hs, e0, e1, e2, e3]; rfl
  · intro w Ps H
    exact H⟩
theorem rd_50 : Reads Tryz.prog 50 (α := List MApiLink) (π := Option Addr × Nat × Nat) (fun _ p => [.slice p.1 p.2.1 p.2.2]) (fun xs => ∀ x ∈ xs, (fits .i64 x.Dev ∧ fits .i64 x.Port ∧ fits .i64 x.Peer ∧ fits .i64 x.PeerPort)) (fun xs p => [RoL encMApiLink p.1 p.2.1 xs]) := reads_slice (enc := encMApiLink) (sz := 4) Tryz.underlying50 (by kernel_rfl) rfl encMApiLink_len rd_148
theorem rd_4 : Reads Tryz.prog 4 (α := Bool) (π := Unit) (fun x _ => encB x) (fun _ => True) (fun _ _ => []) := reads_bool Tryz.underlying4
theorem rd_35 : Reads Tryz.prog 35 (α := Int) (π := Unit) (fun x _ => (encI .u32) x) (fun x => fits .u32 x) (fun _ _ => []) := reads_int Tryz.underlying35
theorem rd_68 : Reads Tryz.prog 68 (α := MApiPrefix) (π := Unit) (fun x _ => encMApiPrefix x) (fun x => (fits .u32 x.Addr ∧ fits .i64 x.Bits)) (fun _ _ => []) := ⟨fun e W sp hd fuel cs X h => by
  obtain ⟨xs, n, _, _, hl, hlen, hf⟩ := DataW.trod_struct Tryz.underlying68 h
  have hc : cs.length = 2 := by rw [hl]; kernel_rfl
  have h0 := hf 0 _ rfl
  obtain ⟨y0, hy0⟩ : ∃ y, xs[0]? = some y := ⟨_, List.getElem?_eq_getElem (by rw [hlen]; exact Nat.le_of_ble_eq_true rfl)⟩
  rw [hy0] at h0
  obtain ⟨x0, p0, e0, o0, q0⟩ := (rd_35).rd e W sp hd n _ _ h0
  replace e0 : (cs.drop 0).take 1 = _ := e0
  have h1 := hf 1 _ rfl
  obtain ⟨y1, hy1⟩ : ∃ y, xs[1]? = some y := ⟨_, List.getElem?_eq_getElem (by rw [hlen]; exact Nat.le_of_ble_eq_true rfl)⟩
  rw [hy1] at h1
  obtain ⟨x1, p1, e1, o1, q1⟩ := (rd_3).rd e W sp hd n _ _ h1
  replace e1 : (cs.drop 1).take 1 = _ := e1
  refine ⟨⟨x0, x1⟩, (), ?_, ⟨o0, o1⟩, ?_⟩
  · have hs : cs = (cs.drop 0).take 1 ++ (cs.drop 1).take 1 := by
      apply List.ext_getElem?
      intro i
      simp only [List.getElem?_append, List.getElem?_take, List.getElem?_drop, List.length_take, List.length_drop, List.length_append, hc]
      repeat' split
      all_goals first | (congr 1; omega) | (rw [List.getElem?_eq_none (by omega)])
    rw [hs, e0, e1]; rfl
  · intro w Ps H
    exact H⟩
theorem rd_36 : Reads Tryz.prog 36 (α := Int) (π := Unit) (fun x _ => (encI .u16) x) (fun x => fits .u16 x) (fun _ _ => []) := reads_int Tryz.underlying36
theorem rd_70 : Reads Tryz.prog 70 (α := MApiRange) (π := Unit) (fun x _ => encMApiRange x) (fun x => (fits .u16 x.Low ∧ fits .u16 x.High)) (fun _ _ => []) := ⟨fun e W sp hd fuel cs X h => by
  obtain ⟨xs, n, _, _, hl, hlen, hf⟩ := DataW.trod_struct Tryz.underlying70 h
  have hc : cs.length = 2 := by rw [hl]; kernel_rfl
  have h0 := hf 0 _ rfl
  obtain ⟨y0, hy0⟩ : ∃ y, xs[0]? = some y := ⟨_, List.getElem?_eq_getElem (by rw [hlen]; exact Nat.le_of_ble_eq_true rfl)⟩
  rw [hy0] at h0
  obtain ⟨x0, p0, e0, o0, q0⟩ := (rd_36).rd e W sp hd n _ _ h0
  replace e0 : (cs.drop 0).take 1 = _ := e0
  have h1 := hf 1 _ rfl
  obtain ⟨y1, hy1⟩ : ∃ y, xs[1]? = some y := ⟨_, List.getElem?_eq_getElem (by rw [hlen]; exact Nat.le_of_ble_eq_true rfl)⟩
  rw [hy1] at h1
  obtain ⟨x1, p1, e1, o1, q1⟩ := (rd_36).rd e W sp hd n _ _ h1
  replace e1 : (cs.drop 1).take 1 = _ := e1
  refine ⟨⟨x0, x1⟩, (), ?_, ⟨o0, o1⟩, ?_⟩
  · have hs : cs = (cs.drop 0).take 1 ++ (cs.drop 1).take 1 := by
      apply List.ext_getElem?
      intro i
      simp only [List.getElem?_append, List.getElem?_take, List.getElem?_drop, List.length_take, List.length_drop, List.length_append, hc]
      repeat' split
      all_goals first | (congr 1; omega) | (rw [List.getElem?_eq_none (by omega)])
    rw [hs, e0, e1]; rfl
  · intro w Ps H
    exact H⟩
theorem rd_72 : Reads Tryz.prog 72 (α := MApiFilter) (π := Unit) (fun x _ => encMApiFilter x) (fun x => ((fits .u32 x.Dst.Addr ∧ fits .i64 x.Dst.Bits) ∧ (fits .u32 x.Src.Addr ∧ fits .i64 x.Src.Bits) ∧ fits .i64 x.Proto ∧ (fits .u16 x.SPort.Low ∧ fits .u16 x.SPort.High) ∧ (fits .u16 x.DPort.Low ∧ fits .u16 x.DPort.High))) (fun _ _ => []) := ⟨fun e W sp hd fuel cs X h => by
  obtain ⟨xs, n, _, _, hl, hlen, hf⟩ := DataW.trod_struct Tryz.underlying72 h
  have hc : cs.length = 9 := by rw [hl]; kernel_rfl
  have h0 := hf 0 _ rfl
  obtain ⟨y0, hy0⟩ : ∃ y, xs[0]? = some y := ⟨_, List.getElem?_eq_getElem (by rw [hlen]; exact Nat.le_of_ble_eq_true rfl)⟩
  rw [hy0] at h0
  obtain ⟨x0, p0, e0, o0, q0⟩ := (rd_68).rd e W sp hd n _ _ h0
  replace e0 : (cs.drop 0).take 2 = _ := e0
  have h1 := hf 1 _ rfl
  obtain ⟨y1, hy1⟩ : ∃ y, xs[1]? = some y := ⟨_, List.getElem?_eq_getElem (by rw [hlen]; exact Nat.le_of_ble_eq_true rfl)⟩
  rw [hy1] at h1
  obtain ⟨x1, p1, e1, o1, q1⟩ := (rd_68).rd e W sp hd n _ _ h1
  replace e1 : (cs.drop 2).take 2 = _ := e1
  have h2 := hf 2 _ rfl
  obtain ⟨y2, hy2⟩ : ∃ y, xs[2]? = some y := ⟨_, List.getElem?_eq_getElem (by rw [hlen]; exact Nat.le_of_ble_eq_true rfl)⟩
  rw [hy2] at h2
  obtain ⟨x2, p2, e2, o2, q2⟩ := (rd_3).rd e W sp hd n _ _ h2
  replace e2 : (cs.drop 4).take 1 = _ := e2
  have h3 := hf 3 _ rfl
  obtain ⟨y3, hy3⟩ : ∃ y, xs[3]? = some y := ⟨_, List.getElem?_eq_getElem (by rw [hlen]; exact Nat.le_of_ble_eq_true rfl)⟩
  rw [hy3] at h3
  obtain ⟨x3, p3, e3, o3, q3⟩ := (rd_70).rd e W sp hd n _ _ h3
  replace e3 : (cs.drop 5).take 2 = _ := e3
  have h4 := hf 4 _ rfl
  obtain ⟨y4, hy4⟩ : ∃ y, xs[4]? = some y := ⟨_, List.getElem?_eq_getElem (by rw [hlen]; exact Nat.le_of_ble_eq_true rfl)⟩
  rw [hy4] at h4
  obtain ⟨x4, p4, e4, o4, q4⟩ := (rd_70).rd e W sp hd n _ _ h4
  replace e4 : (cs.drop 7).take 2 = _ := e4
  refine ⟨⟨x0, x1, x2, x3, x4⟩, (), ?_, ⟨o0, o1, o2, o3, o4⟩, ?_⟩
  · have hs : cs = (cs.drop 0).take 2 ++ (cs.drop 2).take 2 ++ (cs.drop 4).take 1 ++ (cs.drop 5).take 2 ++ (cs.drop 7).take 2 := by
      apply List.ext_getElem?
      intro i
      simp only [List.getElem?_append, List.getElem?_take, List.getElem?_drop, List.length_take, List.length_drop, List.length_append, hc]
      repeat' split
      all_goals first | (congr 1; omega) | (rw [List.getElem?_eq_none (by omega)])
    rw [hs, e0, e1, e2, e3, e4]; rfl
  · intro w Ps H
    exact H⟩
theorem rd_114 : Reads Tryz.prog 114 (α := MApiACE) (π := Unit) (fun x _ => encMApiACE x) (fun x => (fits .i64 x.Dev ∧ fits .i64 x.Port ∧ True ∧ True ∧ ((fits .u32 x.F.Dst.Addr ∧ fits .i64 x.F.Dst.Bits) ∧ (fits .u32 x.F.Src.Addr ∧ fits .i64 x.F.Src.Bits) ∧ fits .i64 x.F.Proto ∧ (fits .u16 x.F.SPort.Low ∧ fits .u16 x.F.SPort.High) ∧ (fits .u16 x.F.DPort.Low ∧ fits .u16 x.F.DPort.High)))) (fun _ _ => []) := ⟨fun e W sp hd fuel cs X h => by
  obtain ⟨xs, n, _, _, hl, hlen, hf⟩ := DataW.trod_struct Tryz.underlying114 h
  have hc : cs.length = 13 := by rw [hl]; kernel_rfl
  have h0 := hf 0 _ rfl
  obtain ⟨y0, hy0⟩ : ∃ y, xs[0]? = some y := ⟨_, List.getElem?_eq_getElem (by rw [hlen]; exact Nat.le_of_ble_eq_true rfl)⟩
  rw [hy0] at h0
  obtain ⟨x0, p0, e0, o0, q0⟩ := (rd_3).rd e W sp hd n _ _ h0
  replace e0 : (cs.drop 0).take 1 = _ := e0
  have h1 := hf 1 _ rfl
  obtain ⟨y1, hy1⟩ : ∃ y, xs[1]? = some y := ⟨_, List.getElem?_eq_getElem (by rw [hlen]; exact Nat.le_of_ble_eq_true rfl)⟩
  rw [hy1] at h1
  obtain ⟨x1, p1, e1, o1, q1⟩ := (rd_3).rd e W sp hd n _ _ h1
  replace e1 : (cs.drop 1).take 1 = _ := e1
  have h2 := hf 2 _ rfl
  obtain ⟨y2, hy2⟩ : ∃ y, xs[2]? = some y := ⟨_, List.getElem?_eq_getElem (by rw [hlen]; exact Nat.le_of_ble_eq_true rfl)⟩
  rw [hy2] at h2
  obtain ⟨x2, p2, e2, o2, q2⟩ := (rd_4).rd e W sp hd n _ _ h2
  replace e2 : (cs.drop 2).take 1 = _ := e2
  have h3 := hf 3 _ rfl
  obtain ⟨y3, hy3⟩ : ∃ y, xs[3]? = some y := ⟨_, List.getElem?_eq_getElem (by rw [hlen]; exact Nat.le_of_ble_eq_true rfl)⟩
  rw [hy3] at h3
  obtain ⟨x3, p3, e3, o3, q3⟩ := (rd_4).rd e W sp hd n _ _ h3
  replace e3 : (cs.drop 3).take 1 = _ := e3
  have h4 := hf 4 _ rfl
  obtain ⟨y4, hy4⟩ : ∃ y, xs[4]? = some y := ⟨_, List.getElem?_eq_getElem (by rw [hlen]; exact Nat.le_of_ble_eq_true rfl)⟩
  rw [hy4] at h4
  obtain ⟨x4, p4, e4, o4, q4⟩ := (rd_72).rd e W sp hd n _ _ h4
  replace e4 : (cs.drop 4).take 9 = _ := e4
  refine ⟨⟨x0, x1, x2, x3, x4⟩, (), ?_, ⟨o0, o1, o2, o3, o4⟩, ?_⟩
  · have hs : cs = (cs.drop 0).take 1 ++ (cs.drop 1).take 1 ++ (cs.drop 2).take 1 ++ (cs.drop 3).take 1 ++ (cs.drop 4).take 9 := by
      apply List.ext_getElem?
      intro i
      simp only [List.getElem?_append, List.getElem?_take, List.getElem?_drop, List.length_take, List.length_drop, List.length_append, hc]
      repeat' split
      all_goals first | (congr 1; omega) | (rw [List.getElem?_eq_none (by omega)])
    rw [hs, e0, e1, e2, e3, e4]; rfl
  · intro w Ps H
    exact H⟩
theorem rd_51 : Reads Tryz.prog 51 (α := List MApiACE) (π := Option Addr × Nat × Nat) (fun _ p => [.slice p.1 p.2.1 p.2.2]) (fun xs => ∀ x ∈ xs, (fits .i64 x.Dev ∧ fits .i64 x.Port ∧ True ∧ True ∧ ((fits .u32 x.F.Dst.Addr ∧ fits .i64 x.F.Dst.Bits) ∧ (fits .u32 x.F.Src.Addr ∧ fits .i64 x.F.Src.Bits) ∧ fits .i64 x.F.Proto ∧ (fits .u16 x.F.SPort.Low ∧ fits .u16 x.F.SPort.High) ∧ (fits .u16 x.F.DPort.Low ∧ fits .u16 x.F.DPort.High)))) (fun xs p => [RoL encMApiACE p.1 p.2.1 xs]) := reads_slice (enc := encMApiACE) (sz := 13) Tryz.underlying51 (by kernel_rfl) rfl encMApiACE_len rd_114
theorem rd_53 : Reads Tryz.prog 53 (α := MApiTopo) (π := Option Addr × Nat × Nat × Option Addr × Nat × Nat × Option Addr × Nat × Nat) (fun x p => [.slice p.1 p.2.1 p.2.2.1, .slice p.2.2.2.1 p.2.2.2.2.1 p.2.2.2.2.2.1, .slice p.2.2.2.2.2.2.1 p.2.2.2.2.2.2.2.1 p.2.2.2.2.2.2.2.2]) (fun x => ((∀ y ∈ x.Ports, fits .i64 y) ∧ (∀ y ∈ x.Links, (fits .i64 y.Dev ∧ fits .i64 y.Port ∧ fits .i64 y.Peer ∧ fits .i64 y.PeerPort)) ∧ (∀ y ∈ x.ACEs, (fits .i64 y.Dev ∧ fits .i64 y.Port ∧ True ∧ True ∧ ((fits .u32 y.F.Dst.Addr ∧ fits .i64 y.F.Dst.Bits) ∧ (fits .u32 y.F.Src.Addr ∧ fits .i64 y.F.Src.Bits) ∧ fits .i64 y.F.Proto ∧ (fits .u16 y.F.SPort.Low ∧ fits .u16 y.F.SPort.High) ∧ (fits .u16 y.F.DPort.Low ∧ fits .u16 y.F.DPort.High)))))) (fun x p => [RoL (encI .i64) p.1 p.2.1 x.Ports, RoL encMApiLink p.2.2.2.1 p.2.2.2.2.1 x.Links, RoL encMApiACE p.2.2.2.2.2.2.1 p.2.2.2.2.2.2.2.1 x.ACEs]) := ⟨fun e W sp hd fuel cs X h => by
  obtain ⟨xs, n, _, _, hl, hlen, hf⟩ := DataW.trod_struct Tryz.underlying53 h
  have hc : cs.length = 3 := by rw [hl]; kernel_rfl
  have h0 := hf 0 _ rfl
  obtain ⟨y0, hy0⟩ : ∃ y, xs[0]? = some y := ⟨_, List.getElem?_eq_getElem (by rw [hlen]; exact Nat.le_of_ble_eq_true rfl)⟩
  rw [hy0] at h0
  obtain ⟨x0, p0, e0, o0, q0⟩ := (rd_49).rd e W sp hd n _ _ h0
  replace e0 : (cs.drop 0).take 1 = _ := e0
  have h1 := hf 1 _ rfl
  obtain ⟨y1, hy1⟩ : ∃ y, xs[1]? = some y := ⟨_, List.getElem?_eq_getElem (by rw [hlen]; exact Nat.le_of_ble_eq_true rfl)⟩
  rw [hy1] at h1
  obtain ⟨x1, p1, e1, o1, q1⟩ := (rd_50).rd e W sp hd n _ _ h1
  replace e1 : (cs.drop 1).take 1 = _ := e1
  have h2 := hf 2 _ rfl
  obtain ⟨y2, hy2⟩ : ∃ y, xs[2]? = some y := ⟨_, List.getElem?_eq_getElem (by rw [hlen]; exact Nat.le_of_ble_eq_true rfl)⟩
  rw [hy2] at h2
  obtain ⟨x2, p2, e2, o2, q2⟩ := (rd_51).rd e W sp hd n _ _ h2
  replace e2 : (cs.drop 2).take 1 = _ := e2
  refine ⟨⟨x0, x1, x2⟩, (p0.1, p0.2.1, p0.2.2, p1.1, p1.2.1, p1.2.2, p2.1, p2.2.1, p2.2.2), ?_, ⟨o0, o1, o2⟩, ?_⟩
  · have hs : cs = (cs.drop 0).take 1 ++ (cs.drop 1).take 1 ++ (cs.drop 2).take 1 := by
      apply List.ext_getElem?
      intro i
      simp only [List.getElem?_append, List.getElem?_take, List.getElem?_drop, List.length_take, List.length_drop, List.length_append, hc]
      repeat' split
      all_goals first | (congr 1; omega) | (rw [List.getElem?_eq_none (by omega)])
    rw [hs, e0, e1, e2]; rfl
  · intro w Ps H
    replace H := q0 w _ H
    replace H := H.pick [1]
    replace H := q1 w _ H
    replace H := H.pick [1]
    replace H := q2 w _ H
    exact H.pick [3, 2, 0]⟩
set_option maxRecDepth 100000 in
theorem history_alike_lifted (os : Os) (started : os.Started) (H : Type) (enc : TypeId × Value → H) :
    ReturnsInHanded {} Tryz.checked os 4 .any (Rows.historyAlikeSpec.pre6 enc Tryz.prog Tryz.f4 Rows.historyAlikeRow.domain false) (Rows.historyAlikeSpec.post enc Tryz.prog Tryz.f4 false true false false) := by
  refine returnsInHanded_of_change (C := Tryz.checked) ownK started (by kernel_rfl) Tryz.func4
    (ChangeSpec.witness6 (enc := enc) (C := Tryz.checked) false ⟨#[], #[.int .i64 0, .int .i64 0, .int .i64 0, .int .i64 0, .agg #[.slice none 0 0, .slice none 0 0, .slice none 0 0]], []⟩ 8 (by kernel_rfl) (by kernel_rfl) (by kernel_rfl) (by kernel_rfl)) ?_
  intro W base args ds gs before hval0 hW hcnd _
  have hval : ∀ (j : Nat) t v, Tryz.f4.params[j]? = some t → args[j]? = some v → Value.okWide Tryz.prog W .any base t v := hval0
  have hW' := hW
  obtain ⟨p, q, hA0, hV, rfl, hfz, hnd⟩ := hW
  have hA : DataW.TrodAll enc Tryz.prog W 0 (fun _ => true) true Tryz.f4.params.toList args.toList ds p := hA0
  rw [Tryz.params4] at hA hval
  obtain ⟨v0, vs0, d0, ds0, p0, q0, hargs, rfl, rfl, h0, r0⟩ := trodAll_cons hA
  obtain ⟨v1, vs1, d1, ds1, p1, q1, rfl, rfl, rfl, h1, r1⟩ := trodAll_cons r0
  obtain ⟨v2, vs2, d2, ds2, p2, q2, rfl, rfl, rfl, h2, r2⟩ := trodAll_cons r1
  obtain ⟨v3, vs3, d3, ds3, p3, q3, rfl, rfl, rfl, h3, r3⟩ := trodAll_cons r2
  obtain ⟨v4, vs4, d4, ds4, p4, q4, rfl, rfl, rfl, h4, r4⟩ := trodAll_cons r3
  obtain ⟨rfl, rfl, rfl⟩ := trodAll_nil r4
  obtain rfl : args = #[v0, v1, v2, v3, v4] := by cases args; simp_all
  obtain ⟨rfl, rfl⟩ := trodVars_none hV
  have lt0 : ∀ x ∈ p0, x.block < W.heap.size := by obtain ⟨m, hm⟩ := h0; exact DataW.trod_lt m _ _ _ hm
  have g0 := h0
  obtain ⟨m0, hm0⟩ := g0
  obtain ⟨x0, u0, e0, o0, k0⟩ := (rd_3).rd _ _ _ _ _ _ _ hm0
  have lt1 : ∀ x ∈ p1, x.block < W.heap.size := by obtain ⟨m, hm⟩ := h1; exact DataW.trod_lt m _ _ _ hm
  have g1 := h1
  obtain ⟨m1, hm1⟩ := g1
  obtain ⟨x1, u1, e1, o1, k1⟩ := (rd_3).rd _ _ _ _ _ _ _ hm1
  have lt2 : ∀ x ∈ p2, x.block < W.heap.size := by obtain ⟨m, hm⟩ := h2; exact DataW.trod_lt m _ _ _ hm
  have g2 := h2
  obtain ⟨m2, hm2⟩ := g2
  obtain ⟨x2, u2, e2, o2, k2⟩ := (rd_3).rd _ _ _ _ _ _ _ hm2
  have lt3 : ∀ x ∈ p3, x.block < W.heap.size := by obtain ⟨m, hm⟩ := h3; exact DataW.trod_lt m _ _ _ hm
  have g3 := h3
  obtain ⟨m3, hm3⟩ := g3
  obtain ⟨x3, u3, e3, o3, k3⟩ := (rd_3).rd _ _ _ _ _ _ _ hm3
  have lt4 : ∀ x ∈ p4, x.block < W.heap.size := by obtain ⟨m, hm⟩ := h4; exact DataW.trod_lt m _ _ _ hm
  have g4 := h4
  obtain ⟨m4, hm4⟩ := g4
  obtain ⟨x4, u4, e4, o4, k4⟩ := (rd_53).rd _ _ _ _ _ _ _ hm4
  obtain ⟨a4_0, n4_1, c4_2, a4_3, n4_4, c4_5, a4_6, n4_7, c4_8⟩ := u4
  obtain rfl : v0 = .int .i64 x0 := val_int (hval 0 _ _ rfl rfl) Tryz.underlying3 e0
  obtain rfl : v1 = .int .i64 x1 := val_int (hval 1 _ _ rfl rfl) Tryz.underlying3 e1
  obtain rfl : v2 = .int .i64 x2 := val_int (hval 2 _ _ rfl rfl) Tryz.underlying3 e2
  obtain rfl : v3 = .int .i64 x3 := val_int (hval 3 _ _ rfl rfl) Tryz.underlying3 e3
  obtain rfl : v4 = .agg ((fun x p => [.slice p.1 p.2.1 p.2.2.1, .slice p.2.2.2.1 p.2.2.2.2.1 p.2.2.2.2.2.1, .slice p.2.2.2.2.2.2.1 p.2.2.2.2.2.2.2.1 p.2.2.2.2.2.2.2.2]) x4 (a4_0, n4_1, c4_2, a4_3, n4_4, c4_5, a4_6, n4_7, c4_8)).toArray := val_agg (hval 4 _ _ rfl rfl) Tryz.underlying53 e4
  clear hA0 hval0
  have HS : Holds W [Old W] := Holds.start W
  replace HS := k4 _ _ HS
  have hm : M_crossbucklaw23_HistoryAlike x0 x1 x2 x3 x4.Ports x4.Links x4.ACEs = some true := history_alike _ _ _ _ _ _ _ (fun y hy => ⟨(o4.2.2 y hy).2.2.2.2.1.1, (o4.2.2 y hy).2.2.2.2.2.1.1⟩)
  refine (T_crossbucklaw23_HistoryAlike a4_0 n4_1 c4_2 a4_3 n4_4 c4_5 a4_6 n4_7 c4_8 x0 x1 x2 x3 x4.Ports x4.Links x4.ACEs hm (Old W) W (by exact HS)).mono fun e W' ⟨_, he, _, hs, hh⟩ => ?_
  subst he
  have bel : Below W.heap.size W W' := below_of hs (hh.perm (by exact List.perm_append_comm))
  exact ⟨_, rfl, _, _, _, [], _, [], hW', trodAll_mk1 (shut_bool Tryz.underlying4 _), (trodAll_cons_mk (Below.trod laidOut (by kernel_rfl) (of_decide_eq_true (by kernel_rfl)) h0 bel lt0) (trodAll_cons_mk (Below.trod laidOut (by kernel_rfl) (of_decide_eq_true (by kernel_rfl)) h1 bel lt1) (trodAll_cons_mk (Below.trod laidOut (by kernel_rfl) (of_decide_eq_true (by kernel_rfl)) h2 bel lt2) (trodAll_cons_mk (Below.trod laidOut (by kernel_rfl) (of_decide_eq_true (by kernel_rfl)) h3 bel lt3) (trodAll_cons_mk (Below.trod laidOut (by kernel_rfl) (of_decide_eq_true (by kernel_rfl)) h4 bel lt4) trodAll_mk0))))), rfl, bel.frame _, fun h => by cases h⟩
theorem history_alike_holds : Rows.HistoryAlikeSaid :=
  OpenClaim.holds_of_wide 4 Tryz.f4 rfl rfl rfl rfl rfl rfl rfl ⟨rfl, rfl, rfl, rfl, rfl⟩ rfl rfl rfl rfl rfl (by kernel_rfl) Tryz.func4 (by kernel_rfl)
    (of_decide_eq_true (by kernel_rfl)) (by unfold Func.isWrapper; first | (rw [if_pos (by decide +kernel)]; kernel_rfl) | (rw [if_neg (by decide +kernel)]; exact ⟨rfl, rfl⟩))
    (fun os started H enc _ => history_alike_lifted os started H enc)
end Go.Proofs.YtjfajpoknnifcaaGreat
