/- Models of functions, and proofs that the code comes to them. No condition. -/
import Derived.Test.YtjfajpoknnifcaaGreatAlkFacts
namespace Go.Proofs.YtjfajpoknnifcaaGreat
open Go
set_option maxRecDepth 20000
set_option linter.unusedVariables false
set_option linter.unusedSimpArgs false
noncomputable section
/-- A table without a rule. -/
structure MTable where
  none : Unit
def P_MTable (b : Nat) (x : MTable) : HP := Ex fun p : Nat => Star [Blk b (.cells [.map (some p), .slice none 0 0, .pointer none, .pointer none, .int .i64 0].toArray 161 (0, 0)), Blk p (.map #[] 0)]
def M_tableNew : Option MTable := some ⟨()⟩
theorem T_tableNew {r : MTable} (h : M_tableNew = some r) : Tri Tryz.prog 40 [].toArray [] (X := Nat) (fun p => .pointer (some ⟨p, 0, none⟩)) (fun _ => True) (fun p => [P_MTable p r]) := fun R w H => by
  refine (awk10 R w H).mono fun e w' ⟨x, he, _, hs, hh⟩ => ⟨x.1, he, trivial, hs, ?_⟩
  exact Holds.mkEx x.2 (Holds.mkStar hh)
def M_awake : Option Bool := some true
theorem T_awake {r : Bool} (h : M_awake = some r) : Tri Tryz.prog 6 [].toArray [] (X := Unit) (fun _ => .bool r) (fun _ => True) (fun _ => []) := by
  cases h
  exact awk1
structure MApiLink where
  Dev : Int
  Port : Int
  Peer : Int
  PeerPort : Int
deriving DecidableEq
def encMApiLink (x : MApiLink) : List Value := [.int .i64 x.Dev, .int .i64 x.Port, .int .i64 x.Peer, .int .i64 x.PeerPort]
theorem encMApiLink_len (x : MApiLink) : (encMApiLink x).length = 4 := rfl
theorem encMApiLink_one (x : MApiLink) : ((encMApiLink x).all fun u => u.oneCell') = true := rfl
structure MApiPrefix where
  Addr : Int
  Bits : Int
deriving DecidableEq
def encMApiPrefix (x : MApiPrefix) : List Value := [.int .u32 x.Addr, .int .i64 x.Bits]
theorem encMApiPrefix_len (x : MApiPrefix) : (encMApiPrefix x).length = 2 := rfl
theorem encMApiPrefix_one (x : MApiPrefix) : ((encMApiPrefix x).all fun u => u.oneCell') = true := rfl
structure MApiRange where
  Low : Int
  High : Int
deriving DecidableEq
def encMApiRange (x : MApiRange) : List Value := [.int .u16 x.Low, .int .u16 x.High]
theorem encMApiRange_len (x : MApiRange) : (encMApiRange x).length = 2 := rfl
theorem encMApiRange_one (x : MApiRange) : ((encMApiRange x).all fun u => u.oneCell') = true := rfl
structure MApiFilter where
  Dst : MApiPrefix
  Src : MApiPrefix
  Proto : Int
  SPort : MApiRange
  DPort : MApiRange
deriving DecidableEq
def encMApiFilter (x : MApiFilter) : List Value := [.int .u32 x.Dst.Addr, .int .i64 x.Dst.Bits, .int .u32 x.Src.Addr, .int .i64 x.Src.Bits, .int .i64 x.Proto, .int .u16 x.SPort.Low, .int .u16 x.SPort.High, .int .u16 x.DPort.Low, .int .u16 x.DPort.High]
theorem encMApiFilter_len (x : MApiFilter) : (encMApiFilter x).length = 9 := rfl
theorem encMApiFilter_one (x : MApiFilter) : ((encMApiFilter x).all fun u => u.oneCell') = true := rfl
structure MApiACE where
  Dev : Int
  Port : Int
  In : Bool
  Permit : Bool
  F : MApiFilter
deriving DecidableEq
def encMApiACE (x : MApiACE) : List Value := [.int .i64 x.Dev, .int .i64 x.Port, .bool x.In, .bool x.Permit, .int .u32 x.F.Dst.Addr, .int .i64 x.F.Dst.Bits, .int .u32 x.F.Src.Addr, .int .i64 x.F.Src.Bits, .int .i64 x.F.Proto, .int .u16 x.F.SPort.Low, .int .u16 x.F.SPort.High, .int .u16 x.F.DPort.Low, .int .u16 x.F.DPort.High]
theorem encMApiACE_len (x : MApiACE) : (encMApiACE x).length = 13 := rfl
theorem encMApiACE_one (x : MApiACE) : ((encMApiACE x).all fun u => u.oneCell') = true := rfl
structure MApiTopo where
  Ports : List Int
  Links : List MApiLink
  ACEs : List MApiACE
structure MWideCount where
  High : Int
  Low : Int
deriving DecidableEq
def encMWideCount (x : MWideCount) : List Value := [.int .u64 x.High, .int .u64 x.Low]
theorem encMWideCount_len (x : MWideCount) : (encMWideCount x).length = 2 := rfl
theorem encMWideCount_one (x : MWideCount) : ((encMWideCount x).all fun u => u.oneCell') = true := rfl
structure MApiHeader where
  Dst : Int
  Src : Int
  Proto : Int
  SPort : Int
  DPort : Int
deriving DecidableEq
def encMApiHeader (x : MApiHeader) : List Value := [.int .u32 x.Dst, .int .u32 x.Src, .int .u8 x.Proto, .int .u16 x.SPort, .int .u16 x.DPort]
theorem encMApiHeader_len (x : MApiHeader) : (encMApiHeader x).length = 5 := rfl
theorem encMApiHeader_one (x : MApiHeader) : ((encMApiHeader x).all fun u => u.oneCell') = true := rfl
theorem eqs_34 (w : World) (d : Nat) (x y : MWideCount) : (Op.equalIn (d + 2) 34 (.agg (encMWideCount x).toArray) (.agg (encMWideCount y).toArray)).run Tryz.prog w = .ok (decide (x = y)) w := by
  rw [run_equalIn_struct w (d + 1) 34 _ _ (by simp only [Program.fieldsOf, Tryz.underlying34]) (by kernel_rfl)]
  have q0 : ∀ (w : World) (z : MWideCount), (part 32 (encMWideCount z).toArray 0).run Tryz.prog w = .ok (.int .u64 z.High) w := fun w z => run_part1 w ag_32 rfl
  have q1 : ∀ (w : World) (z : MWideCount), (part 32 (encMWideCount z).toArray 1).run Tryz.prog w = .ok (.int .u64 z.Low) w := fun w z => run_part1 w ag_32 rfl
  have e32 : ∀ (w : World) (a b : Int), (Op.equalIn (d + 1) 32 (.int .u64 a) (.int .u64 b)).run Tryz.prog w = .ok (a == b) w := fun w a b => run_equalIn_int w (d + 0) 32 _ _ a b Tryz.underlying32
  obtain ⟨x0, x1⟩ := x
  obtain ⟨y0, y1⟩ := y
  simp only [Program.fieldsOf, Tryz.underlying34, Op.eqFields, q0, q1, e32, Sem.run_bind, Result.andThen_ok, Sem.run_ite, Sem.run_pure]
  by_cases h0 : x0 = y0 <;> by_cases h1 : x1 = y1 <;> simp [h0, h1]
theorem eqs_38 (w : World) (d : Nat) (x y : MApiHeader) : (Op.equalIn (d + 2) 38 (.agg (encMApiHeader x).toArray) (.agg (encMApiHeader y).toArray)).run Tryz.prog w = .ok (decide (x = y)) w := by
  rw [run_equalIn_struct w (d + 1) 38 _ _ (by simp only [Program.fieldsOf, Tryz.underlying38]) (by kernel_rfl)]
  have q0 : ∀ (w : World) (z : MApiHeader), (part 35 (encMApiHeader z).toArray 0).run Tryz.prog w = .ok (.int .u32 z.Dst) w := fun w z => run_part1 w ag_35 rfl
  have q1 : ∀ (w : World) (z : MApiHeader), (part 35 (encMApiHeader z).toArray 1).run Tryz.prog w = .ok (.int .u32 z.Src) w := fun w z => run_part1 w ag_35 rfl
  have q2 : ∀ (w : World) (z : MApiHeader), (part 5 (encMApiHeader z).toArray 2).run Tryz.prog w = .ok (.int .u8 z.Proto) w := fun w z => run_part1 w ag_5 rfl
  have q3 : ∀ (w : World) (z : MApiHeader), (part 36 (encMApiHeader z).toArray 3).run Tryz.prog w = .ok (.int .u16 z.SPort) w := fun w z => run_part1 w ag_36 rfl
  have q4 : ∀ (w : World) (z : MApiHeader), (part 36 (encMApiHeader z).toArray 4).run Tryz.prog w = .ok (.int .u16 z.DPort) w := fun w z => run_part1 w ag_36 rfl
  have e35 : ∀ (w : World) (a b : Int), (Op.equalIn (d + 1) 35 (.int .u32 a) (.int .u32 b)).run Tryz.prog w = .ok (a == b) w := fun w a b => run_equalIn_int w (d + 0) 35 _ _ a b Tryz.underlying35
  have e5 : ∀ (w : World) (a b : Int), (Op.equalIn (d + 1) 5 (.int .u8 a) (.int .u8 b)).run Tryz.prog w = .ok (a == b) w := fun w a b => run_equalIn_int w (d + 0) 5 _ _ a b Tryz.underlying5
  have e36 : ∀ (w : World) (a b : Int), (Op.equalIn (d + 1) 36 (.int .u16 a) (.int .u16 b)).run Tryz.prog w = .ok (a == b) w := fun w a b => run_equalIn_int w (d + 0) 36 _ _ a b Tryz.underlying36
  obtain ⟨x0, x1, x2, x3, x4⟩ := x
  obtain ⟨y0, y1, y2, y3, y4⟩ := y
  simp only [Program.fieldsOf, Tryz.underlying38, Op.eqFields, q0, q1, q2, q3, q4, e35, e5, e36, Sem.run_bind, Result.andThen_ok, Sem.run_ite, Sem.run_pure]
  by_cases h0 : x0 = y0 <;> by_cases h1 : x1 = y1 <;> by_cases h2 : x2 = y2 <;> by_cases h3 : x3 = y3 <;> by_cases h4 : x4 = y4 <;> simp [h0, h1, h2, h3, h4]
def P_MApiTopo (b : Nat) (x : MApiTopo) : HP := Ex fun p : Option Addr × Nat × Nat × Option Addr × Nat × Nat × Option Addr × Nat × Nat => Star [Blk b (.cells [.slice p.1 p.2.1 p.2.2.1, .slice p.2.2.2.1 p.2.2.2.2.1 p.2.2.2.2.2.1, .slice p.2.2.2.2.2.2.1 p.2.2.2.2.2.2.2.1 p.2.2.2.2.2.2.2.2].toArray 53 (0, 0)), RoL (encI .i64) p.1 p.2.1 x.Ports, RoL encMApiLink p.2.2.2.1 p.2.2.2.2.1 x.Links, RoL encMApiACE p.2.2.2.2.2.2.1 p.2.2.2.2.2.2.2.1 x.ACEs]
structure T112 where
  e0 : Int
  e1 : Int
deriving DecidableEq
def encT112 (x : T112) : List Value := [.int .i64 x.e0, .int .i64 x.e1]
theorem encT112_len (x : T112) : (encT112 x).length = 2 := rfl
theorem encT112_one (x : T112) : ((encT112 x).all fun u => u.oneCell') = true := rfl
theorem eqs_112 (w : World) (d : Nat) (x y : T112) : (Op.equalIn (d + 2) 112 (.agg (encT112 x).toArray) (.agg (encT112 y).toArray)).run Tryz.prog w = .ok (decide (x = y)) w := by
  have q0 : ∀ (w : World) (z : T112), (part 3 (encT112 z).toArray 0).run Tryz.prog w = .ok (.int .i64 z.e0) w := fun w z => run_part1 w ag_3 rfl
  have q1 : ∀ (w : World) (z : T112), (part 3 (encT112 z).toArray 1).run Tryz.prog w = .ok (.int .i64 z.e1) w := fun w z => run_part1 w ag_3 rfl
  have e3 : ∀ (w : World) (a b : Int), (Op.equalIn (d + 1) 3 (.int .i64 a) (.int .i64 b)).run Tryz.prog w = .ok (a == b) w := fun w a b => run_equalIn_int w (d + 0) 3 _ _ a b Tryz.underlying3
  obtain ⟨x0, x1⟩ := x
  obtain ⟨y0, y1⟩ := y
  rw [show d + 2 = (d + 1) + 1 from rfl]
  unfold Op.equalIn
  have u := run_underlying Tryz.underlying112 w
  have sz := run_sizeOf (P := Tryz.prog) w sz_3
  simp only [Sem.run_bind, u, sz, Result.andThen_ok, Std.Legacy.Range.forIn_eq_forIn_range', Std.Legacy.Range.size]
  simp [List.range', q0, q1, e3, Sem.run_ite]
  by_cases h0 : x0 = y0 <;> by_cases h1 : x1 = y1 <;> simp [h0, h1]
structure MTopoEnd where
  vDev : Int
  vPort : Int
deriving DecidableEq
def encMTopoEnd (x : MTopoEnd) : List Value := [.int .i64 x.vDev, .int .i64 x.vPort]
theorem encMTopoEnd_len (x : MTopoEnd) : (encMTopoEnd x).length = 2 := rfl
theorem encMTopoEnd_one (x : MTopoEnd) : ((encMTopoEnd x).all fun u => u.oneCell') = true := rfl
theorem keyed_204 {v0 v1 : Int} (h0 : fits .i64 v0) (h1 : fits .i64 v1) : keyOf Tryz.prog 204 (.agg #[.int .i64 v0, .int .i64 v1]) = some (.string (keyBytes [.int .i64 v0, .int .i64 v1])) := by
  have e1 : Tryz.prog.keyType 204 = true := by kernel_rfl
  have e2 : Tryz.prog.cellsOf 204 = 2 := by kernel_rfl
  have e3_3 : Tryz.prog.cellsOf 3 = 1 := by kernel_rfl
  have e4 : Value.formed Tryz.prog 204 (.agg #[.int .i64 v0, .int .i64 v1]) = true := by simp [Value.formed, Tryz.underlying204, e2]
  have e5 : ∀ d, Tryz.prog.keyLits (d + 2) 204 [.int .i64 v0, .int .i64 v1] = some [.int .i64 v0, .int .i64 v1] := fun d => by
    simp [Program.keyLits, Tryz.underlying204, Tryz.underlying3, e2, e3_3, h0, h1, List.range_succ]
  simp only [keyOf, Tryz.underlying204, e1, e4, Bool.and_self, if_true, tsize, Value.cells]
  exact congrArg (Option.map fun ls => Lit.string (keyBytes ls)) (e5 385)
theorem key_204 : KeyOK Tryz.prog 204 (fun v : MTopoEnd => Value.agg (encMTopoEnd v).toArray) (fun v : MTopoEnd => fits .i64 v.vDev ∧ fits .i64 v.vPort) := by
  refine ⟨Maps.Keyed.of_law (deep_law_laid laidOut (m := 3) (by decide) (by rw [tsize]; decide) (by kernel_rfl) (by kernel_rfl)), fun k h => ?_, fun a b h => ?_⟩
  · obtain ⟨h0, h1⟩ := h
    exact ⟨_, keyed_204 h0 h1⟩
  · cases a; cases b; simpa [encMTopoEnd] using h
structure MStepNet where
  Topo : MApiTopo
  Tables : List MTable
def encN120 (x : MTable) (p : Nat) : List Value := [.pointer (some ⟨p, 0, none⟩)]
def ptsN120 (x : MTable) (p : Nat) : List HP := [P_MTable p x]
theorem encN120_len (x : MTable) (p : Nat) : (encN120 x p).length = 1 := rfl
def P_MStepNet (b : Nat) (x : MStepNet) : HP := Ex fun p : Option Addr × Nat × Nat × Option Addr × Nat × Nat × Option Addr × Nat × Nat × Option Addr × Nat × Nat => Star [Blk b (.cells [.slice p.1 p.2.1 p.2.2.1, .slice p.2.2.2.1 p.2.2.2.2.1 p.2.2.2.2.2.1, .slice p.2.2.2.2.2.2.1 p.2.2.2.2.2.2.2.1 p.2.2.2.2.2.2.2.2.1, .slice p.2.2.2.2.2.2.2.2.2.1 p.2.2.2.2.2.2.2.2.2.2.1 p.2.2.2.2.2.2.2.2.2.2.2].toArray 119 (0, 0)), RoL (encI .i64) p.1 p.2.1 x.Topo.Ports, RoL encMApiLink p.2.2.2.1 p.2.2.2.2.1 x.Topo.Links, RoL encMApiACE p.2.2.2.2.2.2.1 p.2.2.2.2.2.2.2.1 x.Topo.ACEs, OwnP 120 1 encN120 ptsN120 p.2.2.2.2.2.2.2.2.2.1 p.2.2.2.2.2.2.2.2.2.2.1 p.2.2.2.2.2.2.2.2.2.2.2 x.Tables]
theorem key_3 : KeyOK Tryz.prog 3 (fun v : Int => Value.int .i64 v) (fun v : Int => fits .i64 v) := ⟨Maps.int_keyed Tryz.underlying3, fun k h => ⟨_, Maps.keyOf_int_mk Tryz.underlying3 h⟩, fun a b h => by injection h⟩
structure MBddNode where
  vLevel : Int
  vLow : Int
  vHigh : Int
deriving DecidableEq
def encMBddNode (x : MBddNode) : List Value := [.int .i64 x.vLevel, .int .i64 x.vLow, .int .i64 x.vHigh]
theorem encMBddNode_len (x : MBddNode) : (encMBddNode x).length = 3 := rfl
theorem encMBddNode_one (x : MBddNode) : ((encMBddNode x).all fun u => u.oneCell') = true := rfl
structure MBddArena where
  vNodes : List MBddNode
  vFind : List (MBddNode × Int)
  vMost : Int
structure MGraphNode where
  Hole : Int
  Drop : Int
  Denied : Int
deriving DecidableEq
def encMGraphNode (x : MGraphNode) : List Value := [.int .i64 x.Hole, .int .i64 x.Drop, .int .i64 x.Denied]
theorem encMGraphNode_len (x : MGraphNode) : (encMGraphNode x).length = 3 := rfl
theorem encMGraphNode_one (x : MGraphNode) : ((encMGraphNode x).all fun u => u.oneCell') = true := rfl
structure MGraphEdge where
  Dev : Int
  Port : Int
  To : Int
  Set : Int
deriving DecidableEq
def encMGraphEdge (x : MGraphEdge) : List Value := [.int .i64 x.Dev, .int .i64 x.Port, .int .i64 x.To, .int .i64 x.Set]
theorem encMGraphEdge_len (x : MGraphEdge) : (encMGraphEdge x).length = 4 := rfl
theorem encMGraphEdge_one (x : MGraphEdge) : ((encMGraphEdge x).all fun u => u.oneCell') = true := rfl
structure MGraphGraph where
  Region : Int
  Nodes : List MGraphNode
  Edges : List MGraphEdge
structure MShardPart where
  vA : MBddArena
  vG : MGraphGraph
  vN : Int
structure T135 where
  vEpoch : Int
  vValue : MShardPart
structure T138 where
  vItems : List T135
  vPins : List Int
structure MEngineEngine where
  vNet : MStepNet
  vShift : Int
  vMost : Int
  vEpoch : Int
  vParts : List T138
  vPins : List (Int × Int)
  vHolds : List (Int × Int)
  vClosed : Bool
theorem keyed_163 {v0 v1 v2 : Int} (h0 : fits .i64 v0) (h1 : fits .i64 v1) (h2 : fits .i64 v2) : keyOf Tryz.prog 163 (.agg #[.int .i64 v0, .int .i64 v1, .int .i64 v2]) = some (.string (keyBytes [.int .i64 v0, .int .i64 v1, .int .i64 v2])) := by
  have e1 : Tryz.prog.keyType 163 = true := by kernel_rfl
  have e2 : Tryz.prog.cellsOf 163 = 3 := by kernel_rfl
  have e3_3 : Tryz.prog.cellsOf 3 = 1 := by kernel_rfl
  have e4 : Value.formed Tryz.prog 163 (.agg #[.int .i64 v0, .int .i64 v1, .int .i64 v2]) = true := by simp [Value.formed, Tryz.underlying163, e2]
  have e5 : ∀ d, Tryz.prog.keyLits (d + 2) 163 [.int .i64 v0, .int .i64 v1, .int .i64 v2] = some [.int .i64 v0, .int .i64 v1, .int .i64 v2] := fun d => by
    simp [Program.keyLits, Tryz.underlying163, Tryz.underlying3, e2, e3_3, h0, h1, h2, List.range_succ]
  simp only [keyOf, Tryz.underlying163, e1, e4, Bool.and_self, if_true, tsize, Value.cells]
  exact congrArg (Option.map fun ls => Lit.string (keyBytes ls)) (e5 385)
theorem key_163 : KeyOK Tryz.prog 163 (fun v : MBddNode => Value.agg (encMBddNode v).toArray) (fun v : MBddNode => fits .i64 v.vLevel ∧ fits .i64 v.vLow ∧ fits .i64 v.vHigh) := by
  refine ⟨Maps.Keyed.of_law (deep_law_laid laidOut (m := 3) (by decide) (by rw [tsize]; decide) (by kernel_rfl) (by kernel_rfl)), fun k h => ?_, fun a b h => ?_⟩
  · obtain ⟨h0, h1, h2⟩ := h
    exact ⟨_, keyed_163 h0 h1 h2⟩
  · cases a; cases b; simpa [encMBddNode] using h
def P_MBddArena (b : Nat) (x : MBddArena) : HP := Ex fun p : Option Addr × Nat × Nat × Nat => Star [Blk b (.cells [.slice p.1 p.2.1 p.2.2.1, .map (some p.2.2.2), .int .i64 x.vMost].toArray 167 (0, 0)), OwnS 163 3 p.1 p.2.1 p.2.2.1 (flat encMBddNode x.vNodes), MapS (fun v : MBddNode => fits .i64 v.vLevel ∧ fits .i64 v.vLow ∧ fits .i64 v.vHigh) (fun v : MBddNode => Value.agg (encMBddNode v).toArray) (fun v : Int => Value.int .i64 v) p.2.2.2 x.vFind]
def P_MGraphGraph (b : Nat) (x : MGraphGraph) : HP := Ex fun p : Option Addr × Nat × Nat × Option Addr × Nat × Nat => Star [Blk b (.cells [.int .i64 x.Region, .slice p.1 p.2.1 p.2.2.1, .slice p.2.2.2.1 p.2.2.2.2.1 p.2.2.2.2.2].toArray 176 (0, 0)), OwnS 215 3 p.1 p.2.1 p.2.2.1 (flat encMGraphNode x.Nodes), OwnS 239 4 p.2.2.2.1 p.2.2.2.2.1 p.2.2.2.2.2 (flat encMGraphEdge x.Edges)]
def P_MShardPart (b : Nat) (x : MShardPart) : HP := Ex fun p : Nat × Nat => Star [Blk b (.cells [.pointer (some ⟨p.1, 0, none⟩), .pointer (some ⟨p.2, 0, none⟩), .int .i64 x.vN].toArray 133 (0, 0)), P_MBddArena p.1 x.vA, P_MGraphGraph p.2 x.vG]
def encN135 (x : T135) (p : Nat) : List Value := [.int .i64 x.vEpoch, .pointer (some ⟨p, 0, none⟩)]
def ptsN135 (x : T135) (p : Nat) : List HP := [P_MShardPart p x.vValue]
theorem encN135_len (x : T135) (p : Nat) : (encN135 x p).length = 2 := rfl
def P_T138 (b : Nat) (x : T138) : HP := Ex fun p : Option Addr × Nat × Nat × Option Addr × Nat × Nat => Star [Blk b (.cells [.slice p.1 p.2.1 p.2.2.1, .slice p.2.2.2.1 p.2.2.2.2.1 p.2.2.2.2.2].toArray 138 (0, 0)), OwnP 135 2 encN135 ptsN135 p.1 p.2.1 p.2.2.1 x.vItems, OwnS 3 1 p.2.2.2.1 p.2.2.2.2.1 p.2.2.2.2.2 (flat (encI .i64) x.vPins)]
def encN100 (x : T138) (p : Nat) : List Value := [.pointer (some ⟨p, 0, none⟩)]
def ptsN100 (x : T138) (p : Nat) : List HP := [P_T138 p x]
theorem encN100_len (x : T138) (p : Nat) : (encN100 x p).length = 1 := rfl
def P_MEngineEngine (b : Nat) (x : MEngineEngine) : HP := Ex fun p : Nat × Option Addr × Nat × Nat × Nat × Nat => Star [Blk b (.cells [.pointer (some ⟨p.1, 0, none⟩), .int .i64 x.vShift, .int .i64 x.vMost, .int .i64 x.vEpoch, .slice p.2.1 p.2.2.1 p.2.2.2.1, .map (some p.2.2.2.2.1), .map (some p.2.2.2.2.2), .bool x.vClosed].toArray 95 (0, 0)), P_MStepNet p.1 x.vNet, OwnP 100 1 encN100 ptsN100 p.2.1 p.2.2.1 p.2.2.2.1 x.vParts, MapS (fun v : Int => fits .i64 v) (fun v : Int => Value.int .i64 v) (fun v : Int => Value.int .i64 v) p.2.2.2.2.1 x.vPins, MapS (fun v : Int => fits .i64 v) (fun v : Int => Value.int .i64 v) (fun v : Int => Value.int .i64 v) p.2.2.2.2.2 x.vHolds]
def M_history_Alike (x1 : Int) (x2 : MWideCount) (x3 : MApiHeader) (x4 : Bool) (x5 : Int) (x6 : Int) (x7 : Int) (x8 : MWideCount) (x9 : MApiHeader) (x10 : Bool) (x11 : Int) (x12 : Int) : Option (Bool) := if x1 = x7 then (if x5 = x11 then (if x6 = x12 then (if x2 = x8 then (if x4 = x10 then (some (decide (x3 = x9))) else (some false)) else (some false)) else (some false)) else (some false)) else (some false)
set_option maxHeartbeats 1000000 in
theorem T_history_Alike (a1 : Option Addr) (n2 : Nat) (c3 : Nat) (n4 : Nat) (c5 : Nat) (x1 : Int) (x2 : MWideCount) (x3 : MApiHeader) (x4 : Bool) (x5 : Int) (x6 : Int) (x7 : Int) (x8 : MWideCount) (x9 : MApiHeader) (x10 : Bool) (x11 : Int) (x12 : Int) {r : Bool} (h : M_history_Alike x1 x2 x3 x4 x5 x6 x7 x8 x9 x10 x11 x12 = some r) : Tri Tryz.prog 13 [.agg #[.int .i64 x1, .int .u64 x2.High, .int .u64 x2.Low, .int .u32 x3.Dst, .int .u32 x3.Src, .int .u8 x3.Proto, .int .u16 x3.SPort, .int .u16 x3.DPort, .bool x4, .slice a1 n2 c3, .int .i64 x5, .int .i64 x6], .agg #[.int .i64 x7, .int .u64 x8.High, .int .u64 x8.Low, .int .u32 x9.Dst, .int .u32 x9.Src, .int .u8 x9.Proto, .int .u16 x9.SPort, .int .u16 x9.DPort, .bool x10, .slice a1 n4 c5, .int .i64 x11, .int .i64 x12]].toArray [] (X := Unit) (fun _ => .bool r) (fun _ => True) (fun _ => []) := by
  unfold M_history_Alike at h
  refine tri_intro (n := 51) (vs := [.agg #[.int .i64 x1, .int .u64 x2.High, .int .u64 x2.Low, .int .u32 x3.Dst, .int .u32 x3.Src, .int .u8 x3.Proto, .int .u16 x3.SPort, .int .u16 x3.DPort, .bool x4, .slice a1 n2 c3, .int .i64 x5, .int .i64 x6], .agg #[.int .i64 x7, .int .u64 x8.High, .int .u64 x8.Low, .int .u32 x9.Dst, .int .u32 x9.Src, .int .u8 x9.Proto, .int .u16 x9.SPort, .int .u16 x9.DPort, .bool x10, .slice a1 n4 c5, .int .i64 x11, .int .i64 x12]]) Tryz.func13 rfl rfl rfl (fun R E => ?_)
  show Dn E 51 [] _ [(0, .agg #[.int .i64 x1, .int .u64 x2.High, .int .u64 x2.Low, .int .u32 x3.Dst, .int .u32 x3.Src, .int .u8 x3.Proto, .int .u16 x3.SPort, .int .u16 x3.DPort, .bool x4, .slice a1 n2 c3, .int .i64 x5, .int .i64 x6]), (1, .agg #[.int .i64 x7, .int .u64 x8.High, .int .u64 x8.Low, .int .u32 x9.Dst, .int .u32 x9.Src, .int .u8 x9.Proto, .int .u16 x9.SPort, .int .u16 x9.DPort, .bool x10, .slice a1 n4 c5, .int .i64 x11, .int .i64 x12])] [R]
  refine dn_seq ?_
  refine dn_reg ?_
  refine dl_e rfl (op_box (vs := [.int .i64 x1, .int .u64 x2.High, .int .u64 x2.Low, .int .u32 x3.Dst, .int .u32 x3.Src, .int .u8 x3.Proto, .int .u16 x3.SPort, .int .u16 x3.DPort, .bool x4, .slice a1 n2 c3, .int .i64 x5, .int .i64 x6]) rfl rfl rfl) ?_
  rintro b101 -
  refine dn_norm (Qs := [_, _]) rfl ?_
  refine dl_e rfl (op_box (vs := [.int .i64 x7, .int .u64 x8.High, .int .u64 x8.Low, .int .u32 x9.Dst, .int .u32 x9.Src, .int .u8 x9.Proto, .int .u16 x9.SPort, .int .u16 x9.DPort, .bool x10, .slice a1 n4 c5, .int .i64 x11, .int .i64 x12]) rfl rfl rfl) ?_
  rintro b102 -
  refine dn_norm (Qs := [_, _, _]) rfl ?_
  refine dl_t rfl rfl rfl (op_assign rfl) ?_
  refine dn_done ?_
  refine dn_then ?_
  refine dn_seq ?_
  refine dn_reg ?_
  refine dl_t rfl rfl rfl (op_fieldAddr (i' := 0) rfl fd_44_0 rfl) ?_
  refine dl_r 1 rfl rfl rfl rfl (op_load rfl ag_3 rfl) ?_
  refine dl_t rfl rfl rfl (op_fieldAddr (i' := 0) rfl fd_44_0 rfl) ?_
  refine dl_r 0 rfl rfl rfl rfl (op_load rfl ag_3 rfl) ?_
  refine dl_t rfl rfl rfl (op_eql rfl rfl) ?_
  refine dl_t rfl rfl rfl (op_move rfl) ?_
  refine dn_test (p := x1 = x7) 10 rfl (fun hc103 => ?_) (fun hc103 => ?_)
  ·
    replace h := pos_some hc103 h
    refine dl_wt rfl rfl rfl rfl rfl rfl (op_fieldAddr (i' := 10) rfl fd_44_2 rfl) ?_
    refine dl_wr 1 rfl rfl rfl rfl rfl rfl rfl (op_load rfl ag_3 rfl) ?_
    refine dl_wt rfl rfl rfl rfl rfl rfl (op_fieldAddr (i' := 10) rfl fd_44_2 rfl) ?_
    refine dl_wr 0 rfl rfl rfl rfl rfl rfl rfl (op_load rfl ag_3 rfl) ?_
    refine dl_wt rfl rfl rfl rfl rfl rfl (op_eql rfl rfl) ?_
    refine dl_t rfl rfl rfl (op_pick (b := true) rfl rfl) ?_
    refine dl_t rfl rfl rfl (op_move rfl) ?_
    refine dn_test (p := x5 = x11) 17 rfl (fun hc104 => ?_) (fun hc104 => ?_)
    ·
      replace h := pos_some hc104 h
      refine dl_wt rfl rfl rfl rfl rfl rfl (op_fieldAddr (i' := 11) rfl fd_44_3 rfl) ?_
      refine dl_wr 1 rfl rfl rfl rfl rfl rfl rfl (op_load rfl ag_42 rfl) ?_
      refine dl_wt rfl rfl rfl rfl rfl rfl (op_fieldAddr (i' := 11) rfl fd_44_3 rfl) ?_
      refine dl_wr 0 rfl rfl rfl rfl rfl rfl rfl (op_load rfl ag_42 rfl) ?_
      refine dl_wt rfl rfl rfl rfl rfl rfl (op_eql rfl rfl) ?_
      refine dl_t rfl rfl rfl (op_pick (b := true) rfl rfl) ?_
      refine dl_t rfl rfl rfl (op_move rfl) ?_
      refine dn_test (p := x6 = x12) 24 rfl (fun hc105 => ?_) (fun hc105 => ?_)
      ·
        replace h := pos_some hc105 h
        refine dl_wt rfl rfl rfl rfl rfl rfl (op_fieldAddr (i' := 1) rfl fd_44_1 rfl) ?_
        refine dl_wt rfl rfl rfl rfl rfl rfl (op_fieldAddr (i' := 1) rfl fd_41_0 rfl) ?_
        refine dl_wr 1 rfl rfl rfl rfl rfl rfl rfl (op_loadN rfl ag_34 sz_34 rfl rfl) ?_
        refine dl_wt rfl rfl rfl rfl rfl rfl (op_fieldAddr (i' := 1) rfl fd_44_1 rfl) ?_
        refine dl_wt rfl rfl rfl rfl rfl rfl (op_fieldAddr (i' := 1) rfl fd_41_0 rfl) ?_
        refine dl_wr 0 rfl rfl rfl rfl rfl rfl rfl (op_loadN rfl ag_34 sz_34 rfl rfl) ?_
        refine dl_wt rfl rfl rfl rfl rfl rfl (op_aggeql (p := x2 = x8) rfl rfl eg_34 (fun w => eqs_34 w 9998 x2 x8)) ?_
        refine dl_t rfl rfl rfl (op_pick (b := true) rfl rfl) ?_
        refine dl_t rfl rfl rfl (op_move rfl) ?_
        refine dn_test (p := x2 = x8) 33 rfl (fun hc106 => ?_) (fun hc106 => ?_)
        ·
          replace h := pos_some hc106 h
          refine dl_wt rfl rfl rfl rfl rfl rfl (op_fieldAddr (i' := 1) rfl fd_44_1 rfl) ?_
          refine dl_wt rfl rfl rfl rfl rfl rfl (op_fieldAddr (i' := 8) rfl fd_41_2 rfl) ?_
          refine dl_wr 1 rfl rfl rfl rfl rfl rfl rfl (op_load rfl ag_4 rfl) ?_
          refine dl_wt rfl rfl rfl rfl rfl rfl (op_fieldAddr (i' := 1) rfl fd_44_1 rfl) ?_
          refine dl_wt rfl rfl rfl rfl rfl rfl (op_fieldAddr (i' := 8) rfl fd_41_2 rfl) ?_
          refine dl_wr 0 rfl rfl rfl rfl rfl rfl rfl (op_load rfl ag_4 rfl) ?_
          refine dl_wt rfl rfl rfl rfl rfl rfl (op_booleql rfl rfl bo_4) ?_
          refine dl_t rfl rfl rfl (op_pick (b := true) rfl rfl) ?_
          refine dl_t rfl rfl rfl (op_move rfl) ?_
          refine dn_test (p := x4 = x10) 42 rfl (fun hc107 => ?_) (fun hc107 => ?_)
          ·
            replace h := pos_some hc107 h
            refine dl_wt rfl rfl rfl rfl rfl rfl (op_fieldAddr (i' := 1) rfl fd_44_1 rfl) ?_
            refine dl_wt rfl rfl rfl rfl rfl rfl (op_fieldAddr (i' := 3) rfl fd_41_1 rfl) ?_
            refine dl_wr 1 rfl rfl rfl rfl rfl rfl rfl (op_loadN rfl ag_38 sz_38 rfl rfl) ?_
            refine dl_wt rfl rfl rfl rfl rfl rfl (op_fieldAddr (i' := 1) rfl fd_44_1 rfl) ?_
            refine dl_wt rfl rfl rfl rfl rfl rfl (op_fieldAddr (i' := 3) rfl fd_41_1 rfl) ?_
            refine dl_wr 0 rfl rfl rfl rfl rfl rfl rfl (op_loadN rfl ag_38 sz_38 rfl rfl) ?_
            refine dl_wt rfl rfl rfl rfl rfl rfl (op_aggeql (p := x3 = x9) rfl rfl eg_38 (fun w => eqs_38 w 9998 x3 x9)) ?_
            refine dl_t rfl rfl rfl (op_pick (b := true) rfl rfl) ?_
            refine dl_t rfl rfl rfl (op_assign rfl) ?_
            refine dn_done ?_
            refine dn_then ?_
            refine dn_ret ?_
            replace h := Option.some.inj h
            subst h
            exact dn_end () rfl rfl (by rfl) trivial [2] (by rfl) (.inl rfl)
          ·
            replace h := neg_some hc107 h
            refine dl_no rfl rfl rfl rfl (by decide) rfl rfl ?_
            refine dl_no rfl rfl rfl rfl (by decide) rfl rfl ?_
            refine dl_no rfl rfl rfl rfl (by decide) rfl rfl ?_
            refine dl_no rfl rfl rfl rfl (by decide) rfl rfl ?_
            refine dl_no rfl rfl rfl rfl (by decide) rfl rfl ?_
            refine dl_no rfl rfl rfl rfl (by decide) rfl rfl ?_
            refine dl_no rfl rfl rfl rfl (by decide) rfl rfl ?_
            refine dl_t rfl rfl rfl (op_pick (b := false) rfl rfl) ?_
            refine dl_t rfl rfl rfl (op_assign rfl) ?_
            refine dn_done ?_
            refine dn_then ?_
            refine dn_ret ?_
            replace h := Option.some.inj h
            subst h
            exact dn_end () rfl rfl (by rfl) trivial [2] (by rfl) (.inl rfl)
        ·
          replace h := neg_some hc106 h
          refine dl_no rfl rfl rfl rfl (by decide) rfl rfl ?_
          refine dl_no rfl rfl rfl rfl (by decide) rfl rfl ?_
          refine dl_no rfl rfl rfl rfl (by decide) rfl rfl ?_
          refine dl_no rfl rfl rfl rfl (by decide) rfl rfl ?_
          refine dl_no rfl rfl rfl rfl (by decide) rfl rfl ?_
          refine dl_no rfl rfl rfl rfl (by decide) rfl rfl ?_
          refine dl_no rfl rfl rfl rfl (by decide) rfl rfl ?_
          refine dl_t rfl rfl rfl (op_pick (b := false) rfl rfl) ?_
          refine dl_t rfl rfl rfl (op_move rfl) ?_
          refine dl_no rfl rfl rfl rfl (by decide) rfl rfl ?_
          refine dl_no rfl rfl rfl rfl (by decide) rfl rfl ?_
          refine dl_no rfl rfl rfl rfl (by decide) rfl rfl ?_
          refine dl_no rfl rfl rfl rfl (by decide) rfl rfl ?_
          refine dl_no rfl rfl rfl rfl (by decide) rfl rfl ?_
          refine dl_no rfl rfl rfl rfl (by decide) rfl rfl ?_
          refine dl_no rfl rfl rfl rfl (by decide) rfl rfl ?_
          refine dl_t rfl rfl rfl (op_pick (b := false) rfl rfl) ?_
          refine dl_t rfl rfl rfl (op_assign rfl) ?_
          refine dn_done ?_
          refine dn_then ?_
          refine dn_ret ?_
          replace h := Option.some.inj h
          subst h
          exact dn_end () rfl rfl (by rfl) trivial [2] (by rfl) (.inl rfl)
      ·
        replace h := neg_some hc105 h
        refine dl_no rfl rfl rfl rfl (by decide) rfl rfl ?_
        refine dl_no rfl rfl rfl rfl (by decide) rfl rfl ?_
        refine dl_no rfl rfl rfl rfl (by decide) rfl rfl ?_
        refine dl_no rfl rfl rfl rfl (by decide) rfl rfl ?_
        refine dl_no rfl rfl rfl rfl (by decide) rfl rfl ?_
        refine dl_no rfl rfl rfl rfl (by decide) rfl rfl ?_
        refine dl_no rfl rfl rfl rfl (by decide) rfl rfl ?_
        refine dl_t rfl rfl rfl (op_pick (b := false) rfl rfl) ?_
        refine dl_t rfl rfl rfl (op_move rfl) ?_
        refine dl_no rfl rfl rfl rfl (by decide) rfl rfl ?_
        refine dl_no rfl rfl rfl rfl (by decide) rfl rfl ?_
        refine dl_no rfl rfl rfl rfl (by decide) rfl rfl ?_
        refine dl_no rfl rfl rfl rfl (by decide) rfl rfl ?_
        refine dl_no rfl rfl rfl rfl (by decide) rfl rfl ?_
        refine dl_no rfl rfl rfl rfl (by decide) rfl rfl ?_
        refine dl_no rfl rfl rfl rfl (by decide) rfl rfl ?_
        refine dl_t rfl rfl rfl (op_pick (b := false) rfl rfl) ?_
        refine dl_t rfl rfl rfl (op_move rfl) ?_
        refine dl_no rfl rfl rfl rfl (by decide) rfl rfl ?_
        refine dl_no rfl rfl rfl rfl (by decide) rfl rfl ?_
        refine dl_no rfl rfl rfl rfl (by decide) rfl rfl ?_
        refine dl_no rfl rfl rfl rfl (by decide) rfl rfl ?_
        refine dl_no rfl rfl rfl rfl (by decide) rfl rfl ?_
        refine dl_no rfl rfl rfl rfl (by decide) rfl rfl ?_
        refine dl_no rfl rfl rfl rfl (by decide) rfl rfl ?_
        refine dl_t rfl rfl rfl (op_pick (b := false) rfl rfl) ?_
        refine dl_t rfl rfl rfl (op_assign rfl) ?_
        refine dn_done ?_
        refine dn_then ?_
        refine dn_ret ?_
        replace h := Option.some.inj h
        subst h
        exact dn_end () rfl rfl (by rfl) trivial [2] (by rfl) (.inl rfl)
    ·
      replace h := neg_some hc104 h
      refine dl_no rfl rfl rfl rfl (by decide) rfl rfl ?_
      refine dl_no rfl rfl rfl rfl (by decide) rfl rfl ?_
      refine dl_no rfl rfl rfl rfl (by decide) rfl rfl ?_
      refine dl_no rfl rfl rfl rfl (by decide) rfl rfl ?_
      refine dl_no rfl rfl rfl rfl (by decide) rfl rfl ?_
      refine dl_t rfl rfl rfl (op_pick (b := false) rfl rfl) ?_
      refine dl_t rfl rfl rfl (op_move rfl) ?_
      refine dl_no rfl rfl rfl rfl (by decide) rfl rfl ?_
      refine dl_no rfl rfl rfl rfl (by decide) rfl rfl ?_
      refine dl_no rfl rfl rfl rfl (by decide) rfl rfl ?_
      refine dl_no rfl rfl rfl rfl (by decide) rfl rfl ?_
      refine dl_no rfl rfl rfl rfl (by decide) rfl rfl ?_
      refine dl_no rfl rfl rfl rfl (by decide) rfl rfl ?_
      refine dl_no rfl rfl rfl rfl (by decide) rfl rfl ?_
      refine dl_t rfl rfl rfl (op_pick (b := false) rfl rfl) ?_
      refine dl_t rfl rfl rfl (op_move rfl) ?_
      refine dl_no rfl rfl rfl rfl (by decide) rfl rfl ?_
      refine dl_no rfl rfl rfl rfl (by decide) rfl rfl ?_
      refine dl_no rfl rfl rfl rfl (by decide) rfl rfl ?_
      refine dl_no rfl rfl rfl rfl (by decide) rfl rfl ?_
      refine dl_no rfl rfl rfl rfl (by decide) rfl rfl ?_
      refine dl_no rfl rfl rfl rfl (by decide) rfl rfl ?_
      refine dl_no rfl rfl rfl rfl (by decide) rfl rfl ?_
      refine dl_t rfl rfl rfl (op_pick (b := false) rfl rfl) ?_
      refine dl_t rfl rfl rfl (op_move rfl) ?_
      refine dl_no rfl rfl rfl rfl (by decide) rfl rfl ?_
      refine dl_no rfl rfl rfl rfl (by decide) rfl rfl ?_
      refine dl_no rfl rfl rfl rfl (by decide) rfl rfl ?_
      refine dl_no rfl rfl rfl rfl (by decide) rfl rfl ?_
      refine dl_no rfl rfl rfl rfl (by decide) rfl rfl ?_
      refine dl_no rfl rfl rfl rfl (by decide) rfl rfl ?_
      refine dl_no rfl rfl rfl rfl (by decide) rfl rfl ?_
      refine dl_t rfl rfl rfl (op_pick (b := false) rfl rfl) ?_
      refine dl_t rfl rfl rfl (op_assign rfl) ?_
      refine dn_done ?_
      refine dn_then ?_
      refine dn_ret ?_
      replace h := Option.some.inj h
      subst h
      exact dn_end () rfl rfl (by rfl) trivial [2] (by rfl) (.inl rfl)
  ·
    replace h := neg_some hc103 h
    refine dl_no rfl rfl rfl rfl (by decide) rfl rfl ?_
    refine dl_no rfl rfl rfl rfl (by decide) rfl rfl ?_
    refine dl_no rfl rfl rfl rfl (by decide) rfl rfl ?_
    refine dl_no rfl rfl rfl rfl (by decide) rfl rfl ?_
    refine dl_no rfl rfl rfl rfl (by decide) rfl rfl ?_
    refine dl_t rfl rfl rfl (op_pick (b := false) rfl rfl) ?_
    refine dl_t rfl rfl rfl (op_move rfl) ?_
    refine dl_no rfl rfl rfl rfl (by decide) rfl rfl ?_
    refine dl_no rfl rfl rfl rfl (by decide) rfl rfl ?_
    refine dl_no rfl rfl rfl rfl (by decide) rfl rfl ?_
    refine dl_no rfl rfl rfl rfl (by decide) rfl rfl ?_
    refine dl_no rfl rfl rfl rfl (by decide) rfl rfl ?_
    refine dl_t rfl rfl rfl (op_pick (b := false) rfl rfl) ?_
    refine dl_t rfl rfl rfl (op_move rfl) ?_
    refine dl_no rfl rfl rfl rfl (by decide) rfl rfl ?_
    refine dl_no rfl rfl rfl rfl (by decide) rfl rfl ?_
    refine dl_no rfl rfl rfl rfl (by decide) rfl rfl ?_
    refine dl_no rfl rfl rfl rfl (by decide) rfl rfl ?_
    refine dl_no rfl rfl rfl rfl (by decide) rfl rfl ?_
    refine dl_no rfl rfl rfl rfl (by decide) rfl rfl ?_
    refine dl_no rfl rfl rfl rfl (by decide) rfl rfl ?_
    refine dl_t rfl rfl rfl (op_pick (b := false) rfl rfl) ?_
    refine dl_t rfl rfl rfl (op_move rfl) ?_
    refine dl_no rfl rfl rfl rfl (by decide) rfl rfl ?_
    refine dl_no rfl rfl rfl rfl (by decide) rfl rfl ?_
    refine dl_no rfl rfl rfl rfl (by decide) rfl rfl ?_
    refine dl_no rfl rfl rfl rfl (by decide) rfl rfl ?_
    refine dl_no rfl rfl rfl rfl (by decide) rfl rfl ?_
    refine dl_no rfl rfl rfl rfl (by decide) rfl rfl ?_
    refine dl_no rfl rfl rfl rfl (by decide) rfl rfl ?_
    refine dl_t rfl rfl rfl (op_pick (b := false) rfl rfl) ?_
    refine dl_t rfl rfl rfl (op_move rfl) ?_
    refine dl_no rfl rfl rfl rfl (by decide) rfl rfl ?_
    refine dl_no rfl rfl rfl rfl (by decide) rfl rfl ?_
    refine dl_no rfl rfl rfl rfl (by decide) rfl rfl ?_
    refine dl_no rfl rfl rfl rfl (by decide) rfl rfl ?_
    refine dl_no rfl rfl rfl rfl (by decide) rfl rfl ?_
    refine dl_no rfl rfl rfl rfl (by decide) rfl rfl ?_
    refine dl_no rfl rfl rfl rfl (by decide) rfl rfl ?_
    refine dl_t rfl rfl rfl (op_pick (b := false) rfl rfl) ?_
    refine dl_t rfl rfl rfl (op_assign rfl) ?_
    refine dn_done ?_
    refine dn_then ?_
    refine dn_ret ?_
    replace h := Option.some.inj h
    subst h
    exact dn_end () rfl rfl (by rfl) trivial [2] (by rfl) (.inl rfl)
def M_crossbucklaw05_Light (x1 : List Int) (x2 : List MApiLink) (x3 : List MApiACE) : Option (Bool) := if ((x1.length : Nat) : Int) ≤ 40 then (if ((x2.length : Nat) : Int) ≤ 100 then (some (decide (((x3.length : Nat) : Int) ≤ 60))) else (some false)) else (some false)
set_option maxHeartbeats 1000000 in
theorem T_crossbucklaw05_Light (a1 : Option Addr) (n2 : Nat) (c3 : Nat) (a4 : Option Addr) (n5 : Nat) (c6 : Nat) (a7 : Option Addr) (n8 : Nat) (c9 : Nat) (x1 : List Int) (x2 : List MApiLink) (x3 : List MApiACE) {r : Bool} (h : M_crossbucklaw05_Light x1 x2 x3 = some r) : Tri Tryz.prog 25 [.agg #[.slice a1 n2 c3, .slice a4 n5 c6, .slice a7 n8 c9]].toArray [RoL (encI .i64) a1 n2 x1, RoL encMApiLink a4 n5 x2, RoL encMApiACE a7 n8 x3] (X := Unit) (fun _ => .bool r) (fun _ => True) (fun _ => [RoL (encI .i64) a1 n2 x1, RoL encMApiLink a4 n5 x2, RoL encMApiACE a7 n8 x3]) := by
  unfold M_crossbucklaw05_Light at h
  refine tri_intro (n := 19) (vs := [.agg #[.slice a1 n2 c3, .slice a4 n5 c6, .slice a7 n8 c9]]) Tryz.func25 rfl rfl rfl (fun R E => ?_)
  show Dn E 19 [] _ [(0, .agg #[.slice a1 n2 c3, .slice a4 n5 c6, .slice a7 n8 c9])] [RoL (encI .i64) a1 n2 x1, RoL encMApiLink a4 n5 x2, RoL encMApiACE a7 n8 x3, R]
  refine dn_seq ?_
  refine dn_reg ?_
  refine dl_e rfl (op_box (vs := [.slice a1 n2 c3, .slice a4 n5 c6, .slice a7 n8 c9]) rfl rfl rfl) ?_
  rintro b101 -
  refine dn_norm (Qs := [_, _, _, _, _]) rfl ?_
  refine dl_t rfl rfl rfl (op_assign rfl) ?_
  refine dn_done ?_
  refine dn_then ?_
  refine dn_seq ?_
  refine dn_reg ?_
  refine dl_t rfl rfl rfl (op_fieldAddr (i' := 0) rfl fd_53_0 rfl) ?_
  refine dl_r 0 rfl rfl rfl rfl (op_load rfl ag_49 rfl) ?_
  refine dn_roN 1 rfl (fun hn102 => ?_)
  refine dl_t rfl rfl rfl (op_len rfl el_49) ?_
  refine dn_slot (u := .int .i64 ((x1.length : Nat) : Int)) 5 rfl (by rw [hn102]) ?_
  refine dl_t rfl rfl rfl (op_leq rfl rfl) ?_
  refine dl_t rfl rfl rfl (op_move rfl) ?_
  refine dn_test (p := ((x1.length : Nat) : Int) ≤ 40) 7 rfl (fun hc103 => ?_) (fun hc103 => ?_)
  ·
    replace h := pos_some hc103 h
    refine dl_wt rfl rfl rfl rfl rfl rfl (op_fieldAddr (i' := 1) rfl fd_53_1 rfl) ?_
    refine dl_wr 0 rfl rfl rfl rfl rfl rfl rfl (op_load rfl ag_50 rfl) ?_
    refine dn_roN 2 rfl (fun hn104 => ?_)
    refine dl_wt rfl rfl rfl rfl rfl rfl (op_len rfl el_50) ?_
    refine dn_slot (u := .int .i64 ((x2.length : Nat) : Int)) 10 rfl (by rw [hn104]) ?_
    refine dl_wt rfl rfl rfl rfl rfl rfl (op_leq rfl rfl) ?_
    refine dl_t rfl rfl rfl (op_pick (b := true) rfl rfl) ?_
    refine dl_t rfl rfl rfl (op_move rfl) ?_
    refine dn_test (p := ((x2.length : Nat) : Int) ≤ 100) 13 rfl (fun hc105 => ?_) (fun hc105 => ?_)
    ·
      replace h := pos_some hc105 h
      refine dl_wt rfl rfl rfl rfl rfl rfl (op_fieldAddr (i' := 2) rfl fd_53_2 rfl) ?_
      refine dl_wr 0 rfl rfl rfl rfl rfl rfl rfl (op_load rfl ag_51 rfl) ?_
      refine dn_roN 3 rfl (fun hn106 => ?_)
      refine dl_wt rfl rfl rfl rfl rfl rfl (op_len rfl el_51) ?_
      refine dn_slot (u := .int .i64 ((x3.length : Nat) : Int)) 16 rfl (by rw [hn106]) ?_
      refine dl_wt rfl rfl rfl rfl rfl rfl (op_leq rfl rfl) ?_
      refine dl_t rfl rfl rfl (op_pick (b := true) rfl rfl) ?_
      refine dl_t rfl rfl rfl (op_assign rfl) ?_
      refine dn_done ?_
      refine dn_then ?_
      refine dn_ret ?_
      replace h := Option.some.inj h
      subst h
      exact dn_end () rfl rfl (by rfl) trivial [1, 1, 1, 1] (Rs := [Blk b101 (.cells [.slice a1 n2 c3, .slice a4 n5 c6, .slice a7 n8 c9].toArray 53 (0, 0))]) (by kernel_rfl) (.inl rfl)
    ·
      replace h := neg_some hc105 h
      refine dl_no rfl rfl rfl rfl (by decide) rfl rfl ?_
      refine dl_no rfl rfl rfl rfl (by decide) rfl rfl ?_
      refine dl_no rfl rfl rfl rfl (by decide) rfl rfl ?_
      refine dl_no rfl rfl rfl rfl (by decide) rfl rfl ?_
      refine dl_t rfl rfl rfl (op_pick (b := false) rfl rfl) ?_
      refine dl_t rfl rfl rfl (op_assign rfl) ?_
      refine dn_done ?_
      refine dn_then ?_
      refine dn_ret ?_
      replace h := Option.some.inj h
      subst h
      exact dn_end () rfl rfl (by rfl) trivial [1, 1, 1, 1] (Rs := [Blk b101 (.cells [.slice a1 n2 c3, .slice a4 n5 c6, .slice a7 n8 c9].toArray 53 (0, 0))]) (by kernel_rfl) (.inl rfl)
  ·
    replace h := neg_some hc103 h
    refine dl_no rfl rfl rfl rfl (by decide) rfl rfl ?_
    refine dl_no rfl rfl rfl rfl (by decide) rfl rfl ?_
    refine dl_no rfl rfl rfl rfl (by decide) rfl rfl ?_
    refine dl_no rfl rfl rfl rfl (by decide) rfl rfl ?_
    refine dl_t rfl rfl rfl (op_pick (b := false) rfl rfl) ?_
    refine dl_t rfl rfl rfl (op_move rfl) ?_
    refine dl_no rfl rfl rfl rfl (by decide) rfl rfl ?_
    refine dl_no rfl rfl rfl rfl (by decide) rfl rfl ?_
    refine dl_no rfl rfl rfl rfl (by decide) rfl rfl ?_
    refine dl_no rfl rfl rfl rfl (by decide) rfl rfl ?_
    refine dl_t rfl rfl rfl (op_pick (b := false) rfl rfl) ?_
    refine dl_t rfl rfl rfl (op_assign rfl) ?_
    refine dn_done ?_
    refine dn_then ?_
    refine dn_ret ?_
    replace h := Option.some.inj h
    subst h
    exact dn_end () rfl rfl (by rfl) trivial [1, 1, 1, 1] (Rs := [Blk b101 (.cells [.slice a1 n2 c3, .slice a4 n5 c6, .slice a7 n8 c9].toArray 53 (0, 0))]) (by kernel_rfl) (.inl rfl)
def M_crossbuckref05_Ends.l1 (x1 : List Int) (x2 : List MApiLink) (x3 : List MApiACE) : Nat → (List T112) → Int → Option ((List T112))
  | 0, _, _ => none
  | k + 1, y102, y103 => if y103 < ((((⟨x1, x2, x3⟩ : MApiTopo).Links).length : Nat) : Int) then ((nth ((⟨x1, x2, x3⟩ : MApiTopo).Links) y103).bind fun y120 => if y102.length + 2 ≤ appMax then (M_crossbuckref05_Ends.l1 x1 x2 x3 k (y102 ++ [(⟨y120.Dev, y120.Port⟩ : T112), (⟨y120.Peer, y120.PeerPort⟩ : T112)]) (w64 (y103 + 1))) else none) else (some y102)
def M_crossbuckref05_Ends (x1 : List Int) (x2 : List MApiLink) (x3 : List MApiACE) : Option (List T112) := (M_crossbuckref05_Ends.l1 x1 x2 x3 fuel ([] : List T112) 0).bind fun y107 => some y107
set_option maxHeartbeats 1000000 in
theorem T_crossbuckref05_Ends (a1 : Option Addr) (n2 : Nat) (c3 : Nat) (a4 : Option Addr) (n5 : Nat) (c6 : Nat) (a7 : Option Addr) (n8 : Nat) (c9 : Nat) (x1 : List Int) (x2 : List MApiLink) (x3 : List MApiACE) {r : List T112} (h : M_crossbuckref05_Ends x1 x2 x3 = some r) : Tri Tryz.prog 36 [.agg #[.slice a1 n2 c3, .slice a4 n5 c6, .slice a7 n8 c9]].toArray [RoL (encI .i64) a1 n2 x1, RoL encMApiLink a4 n5 x2, RoL encMApiACE a7 n8 x3] (X := Option Addr × Nat × Nat) (fun p => .slice p.1 p.2.1 p.2.2) (fun _ => True) (fun p => [RoL (encI .i64) a1 n2 x1, RoL encMApiLink a4 n5 x2, RoL encMApiACE a7 n8 x3, OwnS 112 2 p.1 p.2.1 p.2.2 (flat encT112 r)]) := by
  unfold M_crossbuckref05_Ends at h
  refine tri_intro (n := 32) (vs := [.agg #[.slice a1 n2 c3, .slice a4 n5 c6, .slice a7 n8 c9]]) Tryz.func36 rfl rfl rfl (fun R E => ?_)
  show Dn E 32 [] _ [(0, .agg #[.slice a1 n2 c3, .slice a4 n5 c6, .slice a7 n8 c9])] [RoL (encI .i64) a1 n2 x1, RoL encMApiLink a4 n5 x2, RoL encMApiACE a7 n8 x3, R]
  refine dn_seq ?_
  refine dn_reg ?_
  refine dl_e rfl (op_box (vs := [.slice a1 n2 c3, .slice a4 n5 c6, .slice a7 n8 c9]) rfl rfl rfl) ?_
  rintro b101 -
  refine dn_norm (Qs := [_, _, _, _, _]) rfl ?_
  refine dl_t rfl rfl rfl (op_assign rfl) ?_
  refine dn_done ?_
  refine dn_then ?_
  refine dn_seq ?_
  refine dn_reg ?_
  refine dl_t rfl rfl rfl (op_assign rfl) ?_
  refine dn_done ?_
  refine dn_then ?_
  refine dn_seq ?_
  refine dn_seq ?_
  refine dn_reg ?_
  refine dl_t rfl rfl rfl (op_assign rfl) ?_
  refine dn_done ?_
  refine dn_then ?_
  refine dn_block ?_
  refine dn_roDup 1 rfl ?_
  refine dn_norm (Qs := [_, _, _, _, _, _]) rfl ?_
  refine dn_roDup 3 rfl ?_
  refine dn_norm (Qs := [_, _, _, _, _, _, _]) rfl ?_
  refine dn_roDup 5 rfl ?_
  refine dn_norm (Qs := [_, _, _, _, _, _, _, _]) rfl ?_
  refine dn_shutR (Q := P_MApiTopo b101 (⟨x1, x2, x3⟩ : MApiTopo)) rfl (a1, n2, c3, a4, n5, c6, a7, n8, c9) [3, 2, 1, 0] (Rs := [RoL (encI .i64) a1 n2 x1, RoL encMApiLink a4 n5 x2, RoL encMApiACE a7 n8 x3, R]) (by kernel_rfl) ?_
  refine dn_norm (Qs := [_, _, _, _, _]) rfl ?_
  refine dn_ownNil 112 2 ?_
  refine dn_norm (Qs := [OwnS 112 2 none 0 0 (flat encT112 ([] : List T112)), _, _, _, _, _]) rfl ?_
  obtain ⟨y107, h1, h⟩ := bind_some h
  refine dn_loop (α := Nat × List T112 × Int × Option Addr × Nat × Nat) (fun g => M_crossbuckref05_Ends.l1 x1 x2 x3 g.1 g.2.1 g.2.2.1 = some y107) (fun g => g.1) (fun g => [(1, .pointer (some ⟨b101, 0, none⟩)), (3, .slice g.2.2.2.1 g.2.2.2.2.1 g.2.2.2.2.2), (4, .int .i64 g.2.2.1)]) (fun g => [RoL (encI .i64) a1 n2 x1, RoL encMApiLink a4 n5 x2, RoL encMApiACE a7 n8 x3, P_MApiTopo b101 (⟨x1, x2, x3⟩ : MApiTopo), OwnS 112 2 g.2.2.2.1 g.2.2.2.2.1 g.2.2.2.2.2 (flat encT112 g.2.1), R]) ?_ ?_
  ·
    exact dn_meet (fuel, ([] : List T112), 0, none, 0, 0) h1 (Less.cons rfl (Less.cons rfl (Less.cons rfl (Less.nil _)))) [2, 2, 2, 1, 0, 0] (Rs := []) (by kernel_rfl)
  ·
    rintro ⟨k108, y102, y103, a104, n105, c106⟩ h1
    cases k108 with
    | zero => cases h1
    | succ k108 =>
      replace h1 : M_crossbuckref05_Ends.l1 x1 x2 x3 (k108 + 1) y102 y103 = some y107 := h1
      rw [M_crossbuckref05_Ends.l1.eq_2] at h1
      show Dn E 32 [] _ [(1, .pointer (some ⟨b101, 0, none⟩)), (3, .slice a104 n105 c106), (4, .int .i64 y103)] [RoL (encI .i64) a1 n2 x1, RoL encMApiLink a4 n5 x2, RoL encMApiACE a7 n8 x3, P_MApiTopo b101 (⟨x1, x2, x3⟩ : MApiTopo), OwnS 112 2 a104 n105 c106 (flat encT112 y102), R]
      refine dn_seq ?_
      refine dn_seq ?_
      refine dn_reg ?_
      refine dl_t rfl rfl rfl (op_move rfl) ?_
      refine dl_t rfl rfl rfl (op_fieldAddr (i' := 1) rfl fd_53_1 rfl) ?_
      refine dn_open 3 rfl rfl ?_
      rintro ⟨a109, n110, c111, a112, n113, c114, a115, n116, c117⟩
      refine dn_norm (Qs := [Blk b101 (.cells [.slice a109 n110 c111, .slice a112 n113 c114, .slice a115 n116 c117].toArray 53 (0, 0)), RoL (encI .i64) a109 n110 ((⟨x1, x2, x3⟩ : MApiTopo).Ports), RoL encMApiLink a112 n113 ((⟨x1, x2, x3⟩ : MApiTopo).Links), RoL encMApiACE a115 n116 ((⟨x1, x2, x3⟩ : MApiTopo).ACEs), _, _, _, _, _]) rfl ?_
      refine dl_r 0 rfl rfl rfl rfl (op_load rfl ag_50 rfl) ?_
      refine dn_roN 2 rfl (fun hn118 => ?_)
      refine dl_t rfl rfl rfl (op_len rfl el_50) ?_
      refine dn_slot (u := .int .i64 ((((⟨x1, x2, x3⟩ : MApiTopo).Links).length : Nat) : Int)) 9 rfl (by rw [hn118]) ?_
      refine dl_t rfl rfl rfl (op_lss rfl rfl) ?_
      refine dn_done ?_
      refine dn_then ?_
      refine dn_cond (p := y103 < ((((⟨x1, x2, x3⟩ : MApiTopo).Links).length : Nat) : Int)) rfl (fun hc119 => ?_) (fun hc119 => ?_)
      ·
        replace h1 := pos_some hc119 h1
        refine dn_skip ?_
        refine dn_then ?_
        refine dn_seq ?_
        refine dn_block ?_
        refine dn_seq ?_
        refine dn_reg ?_
        refine dl_t rfl rfl rfl (op_fieldAddr (i' := 1) rfl fd_53_1 rfl) ?_
        refine dl_r 0 rfl rfl rfl rfl (op_load rfl ag_50 rfl) ?_
        refine dl_t rfl rfl rfl (op_move rfl) ?_
        obtain ⟨y120, hy120, h1⟩ := bind_some h1
        obtain ⟨hz120, hw120, hx120⟩ := nth_some hy120
        refine dn_roN 2 rfl (fun hn121 => ?_)
        refine dn_roLSome encMApiLink_len rfl 2 rfl (by omega) (fun hs122 => ?_)
        refine dl_t rfl rfl rfl (op_indexS (k := y103.toNat * 4) hs122 rfl rfl el_50 sz_148 (by omega) (by omega) rfl) ?_
        refine dl_r 2 rfl rfl rfl rfl (op_loadLN (vs := [.int .i64 y120.Dev, .int .i64 y120.Port, .int .i64 y120.Peer, .int .i64 y120.PeerPort]) rfl ag_148 sz_148 (flat_part encMApiLink_len hx120) rfl rfl) ?_
        refine dl_e rfl (op_alloc (vs := [.int .i64 0, .int .i64 0, .int .i64 0, .int .i64 0]) zr_148 rfl rfl) ?_
        rintro b123 -
        refine dn_norm (Qs := [_, _, _, _, _, _, _, _, _, _]) rfl ?_
        refine dl_s rfl (op_store (vs := [.int .i64 y120.Dev, .int .i64 y120.Port, .int .i64 y120.Peer, .int .i64 y120.PeerPort]) (l' := [.int .i64 y120.Dev, .int .i64 y120.Port, .int .i64 y120.Peer, .int .i64 y120.PeerPort]) 0 rfl rfl rfl sz_148 rfl rfl rfl rfl rfl) ?_
        refine dn_norm (Qs := [_, _, _, _, _, _, _, _, _, _]) rfl ?_
        refine dn_done ?_
        refine dn_then ?_
        refine dn_reg ?_
        refine dl_t rfl rfl rfl (op_move rfl) ?_
        refine dl_t rfl rfl rfl (op_fieldAddr (i' := 0) rfl fd_148_0 rfl) ?_
        refine dl_r 0 rfl rfl rfl rfl (op_load rfl ag_3 rfl) ?_
        refine dl_t rfl rfl rfl (op_fieldAddr (i' := 1) rfl fd_148_1 rfl) ?_
        refine dl_r 0 rfl rfl rfl rfl (op_load rfl ag_3 rfl) ?_
        refine dl_t rfl rfl rfl (op_build (qs := [(0, .int .i64 y120.Dev), (1, .int .i64 y120.Port)]) (vs := [.int .i64 y120.Dev, .int .i64 y120.Port]) rfl (by kernel_rfl)) ?_
        refine dl_t rfl rfl rfl (op_fieldAddr (i' := 2) rfl fd_148_2 rfl) ?_
        refine dl_r 0 rfl rfl rfl rfl (op_load rfl ag_3 rfl) ?_
        refine dl_t rfl rfl rfl (op_fieldAddr (i' := 3) rfl fd_148_3 rfl) ?_
        refine dl_r 0 rfl rfl rfl rfl (op_load rfl ag_3 rfl) ?_
        refine dl_t rfl rfl rfl (op_build (qs := [(0, .int .i64 y120.Peer), (1, .int .i64 y120.PeerPort)]) (vs := [.int .i64 y120.Peer, .int .i64 y120.PeerPort]) rfl (by kernel_rfl)) ?_
        refine dl_e rfl (op_buildSlice (e := 112) (qs := [(0, .agg #[.int .i64 y120.Dev, .int .i64 y120.Port]), (1, .agg #[.int .i64 y120.Peer, .int .i64 y120.PeerPort])]) (vs := [.int .i64 y120.Dev, .int .i64 y120.Port, .int .i64 y120.Peer, .int .i64 y120.PeerPort]) rfl (by kernel_rfl) rfl) ?_
        rintro b124 -
        refine dn_norm (Qs := [_, _, _, _, _, _, _, _, _, _, _]) rfl ?_
        obtain ⟨hg125, h1⟩ := guard_some h1
        simp only [appMax] at hg125
        refine dn_ownN encT112_len rfl 9 rfl (fun hn126 => ?_)
        refine dl_e rfl (op_appendG (news := [.int .i64 y120.Dev, .int .i64 y120.Port, .int .i64 y120.Peer, .int .i64 y120.PeerPort]) (k' := n105 + 2) [9] rfl rfl rfl el_109 sz_112 zr_112 by_112 rfl rfl (rfl) (news_blk 0 rfl 0 rfl) (List.all_eq_true.1 rfl) (by simp only [maxLen]; omega) (by omega) rfl rfl) ?_
        rintro ⟨a127, c128⟩ -
        refine dn_norm (Qs := [_, _, _, _, _, _, _, _, _, _, _]) rfl ?_
        refine dn_norm (Qs := [OwnS 112 2 a127 (n105 + 2) c128 (flat encT112 (y102 ++ [(⟨y120.Dev, y120.Port⟩ : T112), (⟨y120.Peer, y120.PeerPort⟩ : T112)])), _, _, _, _, _, _, _, _, _, _]) (by rw [flat_app]; rfl) ?_
        refine dl_t rfl rfl rfl (op_assign rfl) ?_
        refine dn_done ?_
        refine dn_inB ?_
        refine dn_then ?_
        refine dn_reg ?_
        refine dl_t rfl rfl rfl (op_move rfl) ?_
        refine dl_t rfl rfl rfl (op_add (z := w64 (y103 + 1)) rfl rfl rfl) ?_
        refine dl_t rfl rfl rfl (op_assign rfl) ?_
        refine dn_done ?_
        refine dn_then ?_
        refine dn_roDup 4 rfl ?_
        refine dn_norm (Qs := [_, _, _, _, _, _, _, _, _, _, _, _]) rfl ?_
        refine dn_roDup 6 rfl ?_
        refine dn_norm (Qs := [_, _, _, _, _, _, _, _, _, _, _, _, _]) rfl ?_
        refine dn_roDup 8 rfl ?_
        refine dn_norm (Qs := [_, _, _, _, _, _, _, _, _, _, _, _, _, _]) rfl ?_
        refine dn_shutR (Q := P_MApiTopo b101 (⟨x1, x2, x3⟩ : MApiTopo)) rfl (a109, n110, c111, a112, n113, c114, a115, n116, c117) [6, 2, 1, 0] (Rs := [OwnS 112 2 a127 (n105 + 2) c128 (flat encT112 (y102 ++ [(⟨y120.Dev, y120.Port⟩ : T112), (⟨y120.Peer, y120.PeerPort⟩ : T112)])), Blk b124 (.cells [.int .i64 y120.Dev, .int .i64 y120.Port, .int .i64 y120.Peer, .int .i64 y120.PeerPort].toArray 112 (0, 0)), Blk b123 (.cells [.int .i64 y120.Dev, .int .i64 y120.Port, .int .i64 y120.Peer, .int .i64 y120.PeerPort].toArray 148 (0, 0)), RoL (encI .i64) a109 n110 ((⟨x1, x2, x3⟩ : MApiTopo).Ports), RoL encMApiLink a112 n113 ((⟨x1, x2, x3⟩ : MApiTopo).Links), RoL encMApiACE a115 n116 ((⟨x1, x2, x3⟩ : MApiTopo).ACEs), RoL (encI .i64) a1 n2 x1, RoL encMApiLink a4 n5 x2, RoL encMApiACE a7 n8 x3, R]) (by kernel_rfl) ?_
        refine dn_norm (Qs := [_, _, _, _, _, _, _, _, _, _, _]) rfl ?_
        exact dn_meet (k108, y102 ++ [(⟨y120.Dev, y120.Port⟩ : T112), (⟨y120.Peer, y120.PeerPort⟩ : T112)], w64 (y103 + 1), a127, n105 + 2, c128) ⟨Nat.lt_succ_self _, h1⟩ (Less.cons rfl (Less.cons rfl (Less.cons rfl (Less.nil _)))) [7, 7, 7, 0, 0, 5] (Rs := [Blk b124 (.cells [.int .i64 y120.Dev, .int .i64 y120.Port, .int .i64 y120.Peer, .int .i64 y120.PeerPort].toArray 112 (0, 0)), Blk b123 (.cells [.int .i64 y120.Dev, .int .i64 y120.Port, .int .i64 y120.Peer, .int .i64 y120.PeerPort].toArray 148 (0, 0)), RoL (encI .i64) a109 n110 ((⟨x1, x2, x3⟩ : MApiTopo).Ports), RoL encMApiLink a112 n113 ((⟨x1, x2, x3⟩ : MApiTopo).Links), RoL encMApiACE a115 n116 ((⟨x1, x2, x3⟩ : MApiTopo).ACEs)]) (by kernel_rfl)
      ·
        replace h1 := neg_some hc119 h1
        refine dn_exit ?_
        refine dn_thenX ?_
        refine dn_thenX ?_
        replace h1 := Option.some.inj h1
        subst h1
        try dsimp only at h
        refine dn_inBX ?_
        refine dn_then ?_
        refine dn_seq ?_
        refine dn_reg ?_
        refine dl_t rfl rfl rfl (op_move rfl) ?_
        refine dl_t rfl rfl rfl (op_assign rfl) ?_
        refine dn_done ?_
        refine dn_then ?_
        refine dn_ret ?_
        replace h := Option.some.inj h
        subst h
        exact dn_end (a104, n105, c106) rfl rfl (by rfl) trivial [4, 4, 4, 4, 4] (Rs := [Blk b101 (.cells [.slice a109 n110 c111, .slice a112 n113 c114, .slice a115 n116 c117].toArray 53 (0, 0)), RoL (encI .i64) a109 n110 ((⟨x1, x2, x3⟩ : MApiTopo).Ports), RoL encMApiLink a112 n113 ((⟨x1, x2, x3⟩ : MApiTopo).Links), RoL encMApiACE a115 n116 ((⟨x1, x2, x3⟩ : MApiTopo).ACEs)]) (by kernel_rfl) (.inl rfl)
def M_crossbuckref05_Port (x1 : List Int) (x2 : List MApiLink) (x3 : List MApiACE) (x4 : Int) (x5 : Int) : Option (Int) := if x4 < 0 then (some 10) else (if ((x1.length : Nat) : Int) ≤ x4 then (some 10) else (if x5 < 0 then (some 11) else ((nth x1 x4).bind fun y106 => if y106 ≤ x5 then (some 11) else (some 0))))
set_option maxHeartbeats 1000000 in
theorem T_crossbuckref05_Port (a1 : Option Addr) (n2 : Nat) (c3 : Nat) (a4 : Option Addr) (n5 : Nat) (c6 : Nat) (a7 : Option Addr) (n8 : Nat) (c9 : Nat) (x1 : List Int) (x2 : List MApiLink) (x3 : List MApiACE) (x4 : Int) (x5 : Int) {r : Int} (h : M_crossbuckref05_Port x1 x2 x3 x4 x5 = some r) : Tri Tryz.prog 37 [.agg #[.slice a1 n2 c3, .slice a4 n5 c6, .slice a7 n8 c9], .int .i64 x4, .int .i64 x5].toArray [RoL (encI .i64) a1 n2 x1, RoL encMApiLink a4 n5 x2, RoL encMApiACE a7 n8 x3] (X := Unit) (fun _ => .int .i64 r) (fun _ => True) (fun _ => [RoL (encI .i64) a1 n2 x1, RoL encMApiLink a4 n5 x2, RoL encMApiACE a7 n8 x3]) := by
  unfold M_crossbuckref05_Port at h
  refine tri_intro (n := 27) (vs := [.agg #[.slice a1 n2 c3, .slice a4 n5 c6, .slice a7 n8 c9], .int .i64 x4, .int .i64 x5]) Tryz.func37 rfl rfl rfl (fun R E => ?_)
  show Dn E 27 [] _ [(0, .agg #[.slice a1 n2 c3, .slice a4 n5 c6, .slice a7 n8 c9]), (1, .int .i64 x4), (2, .int .i64 x5)] [RoL (encI .i64) a1 n2 x1, RoL encMApiLink a4 n5 x2, RoL encMApiACE a7 n8 x3, R]
  refine dn_seq ?_
  refine dn_reg ?_
  refine dl_e rfl (op_box (vs := [.slice a1 n2 c3, .slice a4 n5 c6, .slice a7 n8 c9]) rfl rfl rfl) ?_
  rintro b101 -
  refine dn_norm (Qs := [_, _, _, _, _]) rfl ?_
  refine dl_t rfl rfl rfl (op_assign rfl) ?_
  refine dn_done ?_
  refine dn_then ?_
  refine dn_seq ?_
  refine dn_seq ?_
  refine dn_reg ?_
  refine dl_t rfl rfl rfl (op_move rfl) ?_
  refine dl_t rfl rfl rfl (op_lss rfl rfl) ?_
  refine dl_t rfl rfl rfl (op_move rfl) ?_
  refine dn_test (p := x4 < 0) 9 rfl (fun hc102 => ?_) (fun hc102 => ?_)
  ·
    replace h := pos_some hc102 h
    refine dl_no rfl rfl rfl rfl (by decide) rfl rfl ?_
    refine dl_no rfl rfl rfl rfl (by decide) rfl rfl ?_
    refine dl_no rfl rfl rfl rfl (by decide) rfl rfl ?_
    refine dl_no rfl rfl rfl rfl (by decide) rfl rfl ?_
    refine dl_no rfl rfl rfl rfl (by decide) rfl rfl ?_
    refine dl_t rfl rfl rfl (op_pick (b := true) rfl rfl) ?_
    refine dn_done ?_
    refine dn_then ?_
    refine dn_cond_true rfl ?_
    refine dn_seq ?_
    refine dn_reg ?_
    refine dl_t rfl rfl rfl (op_assign rfl) ?_
    refine dn_done ?_
    refine dn_then ?_
    refine dn_ret ?_
    refine dn_thenR ?_
    replace h := Option.some.inj h
    subst h
    exact dn_end () rfl rfl (by rfl) trivial [1, 1, 1, 1] (Rs := [Blk b101 (.cells [.slice a1 n2 c3, .slice a4 n5 c6, .slice a7 n8 c9].toArray 53 (0, 0))]) (by kernel_rfl) (.inl rfl)
  ·
    replace h := neg_some hc102 h
    refine dl_wt rfl rfl rfl rfl rfl rfl (op_move rfl) ?_
    refine dl_wt rfl rfl rfl rfl rfl rfl (op_fieldAddr (i' := 0) rfl fd_53_0 rfl) ?_
    refine dl_wr 0 rfl rfl rfl rfl rfl rfl rfl (op_load rfl ag_49 rfl) ?_
    refine dn_roN 1 rfl (fun hn103 => ?_)
    refine dl_wt rfl rfl rfl rfl rfl rfl (op_len rfl el_49) ?_
    refine dn_slot (u := .int .i64 ((x1.length : Nat) : Int)) 13 rfl (by rw [hn103]) ?_
    refine dl_wt rfl rfl rfl rfl rfl rfl (op_geq rfl rfl) ?_
    refine dl_t rfl rfl rfl (op_pick (b := false) rfl rfl) ?_
    refine dn_done ?_
    refine dn_then ?_
    refine dn_cond (p := ((x1.length : Nat) : Int) ≤ x4) rfl (fun hc104 => ?_) (fun hc104 => ?_)
    ·
      replace h := pos_some hc104 h
      refine dn_seq ?_
      refine dn_reg ?_
      refine dl_t rfl rfl rfl (op_assign rfl) ?_
      refine dn_done ?_
      refine dn_then ?_
      refine dn_ret ?_
      refine dn_thenR ?_
      replace h := Option.some.inj h
      subst h
      exact dn_end () rfl rfl (by rfl) trivial [1, 1, 1, 1] (Rs := [Blk b101 (.cells [.slice a1 n2 c3, .slice a4 n5 c6, .slice a7 n8 c9].toArray 53 (0, 0))]) (by kernel_rfl) (.inl rfl)
    ·
      replace h := neg_some hc104 h
      refine dn_skip ?_
      refine dn_then ?_
      refine dn_seq ?_
      refine dn_seq ?_
      refine dn_reg ?_
      refine dl_t rfl rfl rfl (op_move rfl) ?_
      refine dl_t rfl rfl rfl (op_lss rfl rfl) ?_
      refine dl_t rfl rfl rfl (op_move rfl) ?_
      refine dn_test (p := x5 < 0) 18 rfl (fun hc105 => ?_) (fun hc105 => ?_)
      ·
        replace h := pos_some hc105 h
        refine dl_no rfl rfl rfl rfl (by decide) rfl rfl ?_
        refine dl_no rfl rfl rfl rfl (by decide) rfl rfl ?_
        refine dl_no rfl rfl rfl rfl (by decide) rfl rfl ?_
        refine dl_no rfl rfl rfl rfl (by decide) rfl rfl ?_
        refine dl_no rfl rfl rfl rfl (by decide) rfl rfl ?_
        refine dl_no rfl rfl rfl rfl (by decide) rfl rfl ?_
        refine dl_no rfl rfl rfl rfl (by decide) rfl rfl ?_
        refine dl_t rfl rfl rfl (op_pick (b := true) rfl rfl) ?_
        refine dn_done ?_
        refine dn_then ?_
        refine dn_cond_true rfl ?_
        refine dn_seq ?_
        refine dn_reg ?_
        refine dl_t rfl rfl rfl (op_assign rfl) ?_
        refine dn_done ?_
        refine dn_then ?_
        refine dn_ret ?_
        refine dn_thenR ?_
        replace h := Option.some.inj h
        subst h
        exact dn_end () rfl rfl (by rfl) trivial [1, 1, 1, 1] (Rs := [Blk b101 (.cells [.slice a1 n2 c3, .slice a4 n5 c6, .slice a7 n8 c9].toArray 53 (0, 0))]) (by kernel_rfl) (.inl rfl)
      ·
        replace h := neg_some hc105 h
        refine dl_wt rfl rfl rfl rfl rfl rfl (op_move rfl) ?_
        refine dl_wt rfl rfl rfl rfl rfl rfl (op_fieldAddr (i' := 0) rfl fd_53_0 rfl) ?_
        refine dl_wr 0 rfl rfl rfl rfl rfl rfl rfl (op_load rfl ag_49 rfl) ?_
        refine dl_wt rfl rfl rfl rfl rfl rfl (op_move rfl) ?_
        obtain ⟨y106, hy106, h⟩ := bind_some h
        obtain ⟨hz106, hw106, hx106⟩ := nth_some hy106
        refine dn_roN 1 rfl (fun hn107 => ?_)
        refine dn_roLSome (encI_len .i64) rfl 1 rfl (by omega) (fun hs108 => ?_)
        refine dl_wt rfl rfl rfl rfl rfl rfl (op_indexS (k := x4.toNat * 1) hs108 rfl rfl el_49 sz_3 (by omega) (by omega) rfl) ?_
        refine dl_wr 1 rfl rfl rfl rfl rfl rfl rfl (op_loadL (v := .int .i64 y106) rfl ag_3 (flat_cell (j := 0) (encI_len .i64) hx106 rfl (by first | rfl | omega))) ?_
        refine dl_wt rfl rfl rfl rfl rfl rfl (op_geq rfl rfl) ?_
        refine dl_t rfl rfl rfl (op_pick (b := false) rfl rfl) ?_
        refine dn_done ?_
        refine dn_then ?_
        refine dn_cond (p := y106 ≤ x5) rfl (fun hc109 => ?_) (fun hc109 => ?_)
        ·
          replace h := pos_some hc109 h
          refine dn_seq ?_
          refine dn_reg ?_
          refine dl_t rfl rfl rfl (op_assign rfl) ?_
          refine dn_done ?_
          refine dn_then ?_
          refine dn_ret ?_
          refine dn_thenR ?_
          replace h := Option.some.inj h
          subst h
          exact dn_end () rfl rfl (by rfl) trivial [1, 1, 1, 1] (Rs := [Blk b101 (.cells [.slice a1 n2 c3, .slice a4 n5 c6, .slice a7 n8 c9].toArray 53 (0, 0))]) (by kernel_rfl) (.inl rfl)
        ·
          replace h := neg_some hc109 h
          refine dn_skip ?_
          refine dn_then ?_
          refine dn_seq ?_
          refine dn_reg ?_
          refine dl_t rfl rfl rfl (op_assign rfl) ?_
          refine dn_done ?_
          refine dn_then ?_
          refine dn_ret ?_
          replace h := Option.some.inj h
          subst h
          exact dn_end () rfl rfl (by rfl) trivial [1, 1, 1, 1] (Rs := [Blk b101 (.cells [.slice a1 n2 c3, .slice a4 n5 c6, .slice a7 n8 c9].toArray 53 (0, 0))]) (by kernel_rfl) (.inl rfl)
def M_crossbuckref03_size.l1  : Nat → Int → Int → Option (Int)
  | 0, _, _ => none
  | k + 1, y101, y102 => if y102 < 32 then (M_crossbuckref03_size.l1  k (IntKind.u64.wrap (y101 * 2)) (w64 (y102 + 1))) else (some y101)
def M_crossbuckref03_size (x1 : Int) : Option (Int) := (M_crossbuckref03_size.l1  fuel 1 x1).bind fun y103 => some y103
set_option maxHeartbeats 1000000 in
theorem T_crossbuckref03_size  (x1 : Int) {r : Int} (h : M_crossbuckref03_size x1 = some r) : Tri Tryz.prog 74 [.int .i64 x1].toArray [] (X := Unit) (fun _ => .int .u64 r) (fun _ => True) (fun _ => []) := by
  unfold M_crossbuckref03_size at h
  refine tri_intro (n := 13) (vs := [.int .i64 x1]) Tryz.func74 rfl rfl rfl (fun R E => ?_)
  show Dn E 13 [] _ [(0, .int .i64 x1)] [R]
  refine dn_seq ?_
  refine dn_reg ?_
  refine dl_t rfl rfl rfl (op_assign rfl) ?_
  refine dn_done ?_
  refine dn_then ?_
  refine dn_seq ?_
  refine dn_reg ?_
  refine dl_t rfl rfl rfl (op_assign rfl) ?_
  refine dn_done ?_
  refine dn_then ?_
  refine dn_seq ?_
  refine dn_seq ?_
  refine dn_reg ?_
  refine dl_t rfl rfl rfl (op_move rfl) ?_
  refine dl_t rfl rfl rfl (op_assign rfl) ?_
  refine dn_done ?_
  refine dn_then ?_
  refine dn_block ?_
  obtain ⟨y103, h1, h⟩ := bind_some h
  refine dn_loop (α := Nat × Int × Int) (fun g => M_crossbuckref03_size.l1  g.1 g.2.1 g.2.2 = some y103) (fun g => g.1) (fun g => [(3, .int .u64 g.2.1), (4, .int .i64 g.2.2)]) (fun g => [R]) ?_ ?_
  ·
    exact dn_meet (fuel, 1, x1) h1 (Less.cons rfl (Less.cons rfl (Less.nil _))) [0] (by rfl)
  ·
    rintro ⟨k104, y101, y102⟩ h1
    cases k104 with
    | zero => cases h1
    | succ k104 =>
      replace h1 : M_crossbuckref03_size.l1  (k104 + 1) y101 y102 = some y103 := h1
      rw [M_crossbuckref03_size.l1.eq_2] at h1
      show Dn E 13 [] _ [(3, .int .u64 y101), (4, .int .i64 y102)] [R]
      refine dn_seq ?_
      refine dn_seq ?_
      refine dn_reg ?_
      refine dl_t rfl rfl rfl (op_move rfl) ?_
      refine dl_t rfl rfl rfl (op_lss rfl rfl) ?_
      refine dn_done ?_
      refine dn_then ?_
      refine dn_cond (p := y102 < 32) rfl (fun hc105 => ?_) (fun hc105 => ?_)
      ·
        replace h1 := pos_some hc105 h1
        refine dn_skip ?_
        refine dn_then ?_
        refine dn_seq ?_
        refine dn_block ?_
        refine dn_reg ?_
        refine dl_t rfl rfl rfl (op_move rfl) ?_
        refine dl_t rfl rfl rfl (op_mul (z := IntKind.u64.wrap (y101 * 2)) rfl rfl rfl) ?_
        refine dl_t rfl rfl rfl (op_assign rfl) ?_
        refine dn_done ?_
        refine dn_inB ?_
        refine dn_then ?_
        refine dn_reg ?_
        refine dl_t rfl rfl rfl (op_move rfl) ?_
        refine dl_t rfl rfl rfl (op_add (z := w64 (y102 + 1)) rfl rfl rfl) ?_
        refine dl_t rfl rfl rfl (op_assign rfl) ?_
        refine dn_done ?_
        refine dn_then ?_
        exact dn_meet (k104, IntKind.u64.wrap (y101 * 2), w64 (y102 + 1)) ⟨Nat.lt_succ_self _, h1⟩ (Less.cons rfl (Less.cons rfl (Less.nil _))) [0] (by rfl)
      ·
        replace h1 := neg_some hc105 h1
        refine dn_exit ?_
        refine dn_thenX ?_
        refine dn_thenX ?_
        replace h1 := Option.some.inj h1
        subst h1
        try dsimp only at h
        refine dn_inBX ?_
        refine dn_then ?_
        refine dn_seq ?_
        refine dn_reg ?_
        refine dl_t rfl rfl rfl (op_move rfl) ?_
        refine dl_t rfl rfl rfl (op_assign rfl) ?_
        refine dn_done ?_
        refine dn_then ?_
        refine dn_ret ?_
        replace h := Option.some.inj h
        subst h
        exact dn_end () rfl rfl (by rfl) trivial [0] (by rfl) (.inl rfl)
def M_crossbuckref03_Right (x1 : MApiPrefix) : Option (Bool) := if (0 : Int) ≤ x1.Bits then (if x1.Bits ≤ 32 then ((M_crossbuckref03_size x1.Bits).bind fun y104 => if y104 ≠ 0 then (some (decide (((IntKind.u64.wrap x1.Addr).tmod y104) = 0))) else none) else (some false)) else (some false)
set_option maxHeartbeats 1000000 in
theorem T_crossbuckref03_Right  (x1 : MApiPrefix) {r : Bool} (h : M_crossbuckref03_Right x1 = some r) : Tri Tryz.prog 51 [.agg #[.int .u32 x1.Addr, .int .i64 x1.Bits]].toArray [] (X := Unit) (fun _ => .bool r) (fun _ => True) (fun _ => []) := by
  unfold M_crossbuckref03_Right at h
  refine tri_intro (n := 21) (vs := [.agg #[.int .u32 x1.Addr, .int .i64 x1.Bits]]) Tryz.func51 rfl rfl rfl (fun R E => ?_)
  show Dn E 21 [] _ [(0, .agg #[.int .u32 x1.Addr, .int .i64 x1.Bits])] [R]
  refine dn_seq ?_
  refine dn_reg ?_
  refine dl_e rfl (op_box (vs := [.int .u32 x1.Addr, .int .i64 x1.Bits]) rfl rfl rfl) ?_
  rintro b101 -
  refine dn_norm (Qs := [_, _]) rfl ?_
  refine dl_t rfl rfl rfl (op_assign rfl) ?_
  refine dn_done ?_
  refine dn_then ?_
  refine dn_seq ?_
  refine dn_any (N := 19) (l0 := #[false, false, false, false, false, false, false, false, false, false, false, false, false, false, false, false, false, false, false]) mixed (fun i => false) (fun _ => [Blk b101 (.cells [.int .u32 x1.Addr, .int .i64 x1.Bits].toArray 68 (0, 0))]) [0] rfl rfl rfl ?_
  refine ds_t (listed' := #[true, false, false, false, false, false, false, false, false, false, false, false, false, false, false, false, false, false, false]) 0 (by kernel_rfl) rfl rfl rfl rfl rfl (op_fieldAddr (i' := 1) rfl fd_68_1 rfl) ?_
  refine ds_r (listed' := #[true, true, false, false, false, false, false, false, false, false, false, false, false, false, false, false, false, false, false]) 1 (by kernel_rfl) rfl rfl rfl rfl rfl 0 rfl (op_load rfl ag_3 rfl) ?_
  refine ds_t (listed' := #[true, true, true, false, false, false, false, false, false, false, false, false, false, false, false, false, false, false, false]) 2 (by kernel_rfl) rfl rfl rfl rfl rfl (op_geq rfl rfl) ?_
  refine ds_t (listed' := #[true, true, true, true, false, false, false, false, false, false, false, false, false, false, false, false, false, false, false]) 3 (by kernel_rfl) rfl rfl rfl rfl rfl (op_move rfl) ?_
  refine ds_test (p := (0 : Int) ≤ x1.Bits) 6 rfl (fun hc102 => ?_) (fun hc102 => ?_)
  ·
    replace h := pos_some hc102 h
    refine ds_wt (listed' := #[true, true, true, true, true, false, false, false, false, false, false, false, false, false, false, false, false, false, false]) 4 (by kernel_rfl) rfl rfl rfl rfl rfl rfl rfl rfl (op_fieldAddr (i' := 1) rfl fd_68_1 rfl) ?_
    refine ds_wr (listed' := #[true, true, true, true, true, true, false, false, false, false, false, false, false, false, false, false, false, false, false]) 5 (by kernel_rfl) rfl rfl rfl rfl rfl rfl rfl rfl 0 rfl (op_load rfl ag_3 rfl) ?_
    refine ds_wt (listed' := #[true, true, true, true, true, true, true, false, false, false, false, false, false, false, false, false, false, false, false]) 6 (by kernel_rfl) rfl rfl rfl rfl rfl rfl rfl rfl (op_leq rfl rfl) ?_
    refine ds_t (listed' := #[true, true, true, true, true, true, true, true, false, false, false, false, false, false, false, false, false, false, false]) 7 (by kernel_rfl) rfl rfl rfl rfl rfl (op_pick (b := true) rfl rfl) ?_
    refine ds_t (listed' := #[true, true, true, true, true, true, true, true, true, false, false, false, false, false, false, false, false, false, false]) 8 (by kernel_rfl) rfl rfl rfl rfl rfl (op_move rfl) ?_
    refine ds_test (p := x1.Bits ≤ 32) 11 rfl (fun hc103 => ?_) (fun hc103 => ?_)
    ·
      replace h := pos_some hc103 h
      refine ds_wt (listed' := #[true, true, true, true, true, true, true, true, true, true, false, false, false, false, false, false, false, false, false]) 9 (by kernel_rfl) rfl rfl rfl rfl rfl rfl rfl rfl (op_fieldAddr (i' := 0) rfl fd_68_0 rfl) ?_
      refine ds_wt (listed' := #[true, true, true, true, true, true, true, true, true, true, false, false, true, false, false, false, false, false, false]) 12 (by kernel_rfl) rfl rfl rfl rfl rfl rfl rfl rfl (op_fieldAddr (i' := 1) rfl fd_68_1 rfl) ?_
      refine ds_wr (listed' := #[true, true, true, true, true, true, true, true, true, true, true, false, true, false, false, false, false, false, false]) 10 (by kernel_rfl) rfl rfl rfl rfl rfl rfl rfl rfl 0 rfl (op_load rfl ag_35 rfl) ?_
      refine ds_wt (listed' := #[true, true, true, true, true, true, true, true, true, true, true, true, true, false, false, false, false, false, false]) 11 (by kernel_rfl) rfl rfl rfl rfl rfl rfl rfl rfl (op_conv (z := IntKind.u64.wrap x1.Addr) rfl Tryz.underlying35 ik_32 rfl) ?_
      refine ds_wr (listed' := #[true, true, true, true, true, true, true, true, true, true, true, true, true, true, false, false, false, false, false]) 13 (by kernel_rfl) rfl rfl rfl rfl rfl rfl rfl rfl 0 rfl (op_load rfl ag_3 rfl) ?_
      obtain ⟨y104, hy104, h⟩ := bind_some h
      refine ds_wx (s' := 0) (listed' := #[true, true, true, true, true, true, true, true, true, true, true, true, true, true, true, false, false, false, false]) 14 (by kernel_rfl) rfl rfl rfl rfl rfl rfl rfl (op_call (vs := [.int .i64 x1.Bits]) cl_74 (T_crossbuckref03_size  x1.Bits hy104) rfl [] (by exact rfl) rfl) [0] (fun _ => ⟨_, rfl⟩) ?_
      rintro ⟨⟩ -
      refine ds_normv (u := .int .u64 y104) (Qs := [_, _]) rfl rfl ?_
      obtain ⟨hg105, h⟩ := guard_some h
      refine ds_wt (listed' := #[true, true, true, true, true, true, true, true, true, true, true, true, true, true, true, true, false, false, false]) 15 (by kernel_rfl) rfl rfl rfl rfl rfl rfl rfl rfl (op_rem (z := ((IntKind.u64.wrap x1.Addr).tmod y104)) rfl rfl hg105 rfl) ?_
      refine ds_wt (listed' := #[true, true, true, true, true, true, true, true, true, true, true, true, true, true, true, true, true, false, false]) 16 (by kernel_rfl) rfl rfl rfl rfl rfl rfl rfl rfl (op_eql rfl rfl) ?_
      refine ds_t (listed' := #[true, true, true, true, true, true, true, true, true, true, true, true, true, true, true, true, true, true, false]) 17 (by kernel_rfl) rfl rfl rfl rfl rfl (op_pick (b := true) rfl rfl) ?_
      refine ds_t (listed' := #[true, true, true, true, true, true, true, true, true, true, true, true, true, true, true, true, true, true, true]) 18 (by kernel_rfl) rfl rfl rfl rfl rfl (op_assign rfl) ?_
      refine ds_done rfl ?_
      refine dn_then ?_
      refine dn_ret ?_
      replace h := Option.some.inj h
      subst h
      exact dn_end () rfl rfl (by rfl) trivial [1] (by rfl) (.inl rfl)
    ·
      replace h := neg_some hc103 h
      refine ds_no (listed' := #[true, true, true, true, true, true, true, true, true, true, false, false, false, false, false, false, false, false, false]) 9 (by kernel_rfl) rfl rfl rfl rfl rfl rfl (by decide) rfl rfl ?_
      refine ds_no (listed' := #[true, true, true, true, true, true, true, true, true, true, false, false, true, false, false, false, false, false, false]) 12 (by kernel_rfl) rfl rfl rfl rfl rfl rfl (by decide) rfl rfl ?_
      refine ds_no (listed' := #[true, true, true, true, true, true, true, true, true, true, true, false, true, false, false, false, false, false, false]) 10 (by kernel_rfl) rfl rfl rfl rfl rfl rfl (by decide) rfl rfl ?_
      refine ds_no (listed' := #[true, true, true, true, true, true, true, true, true, true, true, true, true, false, false, false, false, false, false]) 11 (by kernel_rfl) rfl rfl rfl rfl rfl rfl (by decide) rfl rfl ?_
      refine ds_no (listed' := #[true, true, true, true, true, true, true, true, true, true, true, true, true, true, false, false, false, false, false]) 13 (by kernel_rfl) rfl rfl rfl rfl rfl rfl (by decide) rfl rfl ?_
      refine ds_no (listed' := #[true, true, true, true, true, true, true, true, true, true, true, true, true, true, true, false, false, false, false]) 14 (by kernel_rfl) rfl rfl rfl rfl rfl rfl (by decide) rfl rfl ?_
      refine ds_no (listed' := #[true, true, true, true, true, true, true, true, true, true, true, true, true, true, true, true, false, false, false]) 15 (by kernel_rfl) rfl rfl rfl rfl rfl rfl (by decide) rfl rfl ?_
      refine ds_no (listed' := #[true, true, true, true, true, true, true, true, true, true, true, true, true, true, true, true, true, false, false]) 16 (by kernel_rfl) rfl rfl rfl rfl rfl rfl (by decide) rfl rfl ?_
      refine ds_t (listed' := #[true, true, true, true, true, true, true, true, true, true, true, true, true, true, true, true, true, true, false]) 17 (by kernel_rfl) rfl rfl rfl rfl rfl (op_pick (b := false) rfl rfl) ?_
      refine ds_t (listed' := #[true, true, true, true, true, true, true, true, true, true, true, true, true, true, true, true, true, true, true]) 18 (by kernel_rfl) rfl rfl rfl rfl rfl (op_assign rfl) ?_
      refine ds_done rfl ?_
      refine dn_then ?_
      refine dn_ret ?_
      replace h := Option.some.inj h
      subst h
      exact dn_end () rfl rfl (by rfl) trivial [1] (by rfl) (.inl rfl)
  ·
    replace h := neg_some hc102 h
    refine ds_no (listed' := #[true, true, true, true, true, false, false, false, false, false, false, false, false, false, false, false, false, false, false]) 4 (by kernel_rfl) rfl rfl rfl rfl rfl rfl (by decide) rfl rfl ?_
    refine ds_no (listed' := #[true, true, true, true, true, true, false, false, false, false, false, false, false, false, false, false, false, false, false]) 5 (by kernel_rfl) rfl rfl rfl rfl rfl rfl (by decide) rfl rfl ?_
    refine ds_no (listed' := #[true, true, true, true, true, true, true, false, false, false, false, false, false, false, false, false, false, false, false]) 6 (by kernel_rfl) rfl rfl rfl rfl rfl rfl (by decide) rfl rfl ?_
    refine ds_t (listed' := #[true, true, true, true, true, true, true, true, false, false, false, false, false, false, false, false, false, false, false]) 7 (by kernel_rfl) rfl rfl rfl rfl rfl (op_pick (b := false) rfl rfl) ?_
    refine ds_t (listed' := #[true, true, true, true, true, true, true, true, true, false, false, false, false, false, false, false, false, false, false]) 8 (by kernel_rfl) rfl rfl rfl rfl rfl (op_move rfl) ?_
    refine ds_no (listed' := #[true, true, true, true, true, true, true, true, true, true, false, false, false, false, false, false, false, false, false]) 9 (by kernel_rfl) rfl rfl rfl rfl rfl rfl (by decide) rfl rfl ?_
    refine ds_no (listed' := #[true, true, true, true, true, true, true, true, true, true, false, false, true, false, false, false, false, false, false]) 12 (by kernel_rfl) rfl rfl rfl rfl rfl rfl (by decide) rfl rfl ?_
    refine ds_no (listed' := #[true, true, true, true, true, true, true, true, true, true, true, false, true, false, false, false, false, false, false]) 10 (by kernel_rfl) rfl rfl rfl rfl rfl rfl (by decide) rfl rfl ?_
    refine ds_no (listed' := #[true, true, true, true, true, true, true, true, true, true, true, true, true, false, false, false, false, false, false]) 11 (by kernel_rfl) rfl rfl rfl rfl rfl rfl (by decide) rfl rfl ?_
    refine ds_no (listed' := #[true, true, true, true, true, true, true, true, true, true, true, true, true, true, false, false, false, false, false]) 13 (by kernel_rfl) rfl rfl rfl rfl rfl rfl (by decide) rfl rfl ?_
    refine ds_no (listed' := #[true, true, true, true, true, true, true, true, true, true, true, true, true, true, true, false, false, false, false]) 14 (by kernel_rfl) rfl rfl rfl rfl rfl rfl (by decide) rfl rfl ?_
    refine ds_no (listed' := #[true, true, true, true, true, true, true, true, true, true, true, true, true, true, true, true, false, false, false]) 15 (by kernel_rfl) rfl rfl rfl rfl rfl rfl (by decide) rfl rfl ?_
    refine ds_no (listed' := #[true, true, true, true, true, true, true, true, true, true, true, true, true, true, true, true, true, false, false]) 16 (by kernel_rfl) rfl rfl rfl rfl rfl rfl (by decide) rfl rfl ?_
    refine ds_t (listed' := #[true, true, true, true, true, true, true, true, true, true, true, true, true, true, true, true, true, true, false]) 17 (by kernel_rfl) rfl rfl rfl rfl rfl (op_pick (b := false) rfl rfl) ?_
    refine ds_t (listed' := #[true, true, true, true, true, true, true, true, true, true, true, true, true, true, true, true, true, true, true]) 18 (by kernel_rfl) rfl rfl rfl rfl rfl (op_assign rfl) ?_
    refine ds_done rfl ?_
    refine dn_then ?_
    refine dn_ret ?_
    replace h := Option.some.inj h
    subst h
    exact dn_end () rfl rfl (by rfl) trivial [1] (by rfl) (.inl rfl)
def M_crossbuckref04_Check (x1 : MApiFilter) : Option (Int) := (M_crossbuckref03_Right x1.Dst).bind fun y102 => if ¬ (y102 = true) then (some 13) else ((M_crossbuckref03_Right x1.Src).bind fun y104 => if ¬ (y104 = true) then (some 13) else (if x1.Proto < (-1) then (some 5) else (if (255 : Int) < x1.Proto then (some 5) else (if x1.SPort.High < x1.SPort.Low then (some 14) else (if x1.DPort.High < x1.DPort.Low then (some 14) else (some 0))))))
set_option maxHeartbeats 1000000 in
theorem T_crossbuckref04_Check  (x1 : MApiFilter) {r : Int} (h : M_crossbuckref04_Check x1 = some r) : Tri Tryz.prog 38 [.agg #[.int .u32 x1.Dst.Addr, .int .i64 x1.Dst.Bits, .int .u32 x1.Src.Addr, .int .i64 x1.Src.Bits, .int .i64 x1.Proto, .int .u16 x1.SPort.Low, .int .u16 x1.SPort.High, .int .u16 x1.DPort.Low, .int .u16 x1.DPort.High]].toArray [] (X := Unit) (fun _ => .int .i64 r) (fun _ => True) (fun _ => []) := by
  unfold M_crossbuckref04_Check at h
  refine tri_intro (n := 37) (vs := [.agg #[.int .u32 x1.Dst.Addr, .int .i64 x1.Dst.Bits, .int .u32 x1.Src.Addr, .int .i64 x1.Src.Bits, .int .i64 x1.Proto, .int .u16 x1.SPort.Low, .int .u16 x1.SPort.High, .int .u16 x1.DPort.Low, .int .u16 x1.DPort.High]]) Tryz.func38 rfl rfl rfl (fun R E => ?_)
  show Dn E 37 [] _ [(0, .agg #[.int .u32 x1.Dst.Addr, .int .i64 x1.Dst.Bits, .int .u32 x1.Src.Addr, .int .i64 x1.Src.Bits, .int .i64 x1.Proto, .int .u16 x1.SPort.Low, .int .u16 x1.SPort.High, .int .u16 x1.DPort.Low, .int .u16 x1.DPort.High])] [R]
  refine dn_seq ?_
  refine dn_reg ?_
  refine dl_e rfl (op_box (vs := [.int .u32 x1.Dst.Addr, .int .i64 x1.Dst.Bits, .int .u32 x1.Src.Addr, .int .i64 x1.Src.Bits, .int .i64 x1.Proto, .int .u16 x1.SPort.Low, .int .u16 x1.SPort.High, .int .u16 x1.DPort.Low, .int .u16 x1.DPort.High]) rfl rfl rfl) ?_
  rintro b101 -
  refine dn_norm (Qs := [_, _]) rfl ?_
  refine dl_t rfl rfl rfl (op_assign rfl) ?_
  refine dn_done ?_
  refine dn_then ?_
  refine dn_seq ?_
  refine dn_seq ?_
  refine dn_reg ?_
  refine dl_t rfl rfl rfl (op_fieldAddr (i' := 0) rfl fd_72_0 rfl) ?_
  refine dl_r 0 rfl rfl rfl rfl (op_loadN rfl ag_68 sz_68 rfl rfl) ?_
  obtain ⟨y102, hy102, h⟩ := bind_some h
  refine dl_e rfl (op_call (vs := [.agg #[.int .u32 x1.Dst.Addr, .int .i64 x1.Dst.Bits]]) cl_51 (T_crossbuckref03_Right  x1.Dst hy102) rfl [] (by exact rfl) rfl) ?_
  rintro ⟨⟩ -
  refine dn_normv (u := .bool y102) (Qs := [_, _]) rfl rfl ?_
  refine dn_slot (u := .bool (decide (y102 = true))) 5 rfl (bdec _) ?_
  refine dl_t rfl rfl rfl (op_not rfl) ?_
  refine dl_t rfl rfl rfl (op_move rfl) ?_
  refine dn_test (p := ¬ (y102 = true)) 7 rfl (fun hc103 => ?_) (fun hc103 => ?_)
  ·
    replace h := pos_some hc103 h
    refine dl_no rfl rfl rfl rfl (by decide) rfl rfl ?_
    refine dl_no rfl rfl rfl rfl (by decide) rfl rfl ?_
    refine dl_no rfl rfl rfl rfl (by decide) rfl rfl ?_
    refine dl_no rfl rfl rfl rfl (by decide) rfl rfl ?_
    refine dl_t rfl rfl rfl (op_pick (b := true) rfl rfl) ?_
    refine dn_done ?_
    refine dn_then ?_
    refine dn_cond_true rfl ?_
    refine dn_seq ?_
    refine dn_reg ?_
    refine dl_t rfl rfl rfl (op_assign rfl) ?_
    refine dn_done ?_
    refine dn_then ?_
    refine dn_ret ?_
    refine dn_thenR ?_
    replace h := Option.some.inj h
    subst h
    exact dn_end () rfl rfl (by rfl) trivial [1] (by rfl) (.inl rfl)
  ·
    replace h := neg_some hc103 h
    refine dl_wt rfl rfl rfl rfl rfl rfl (op_fieldAddr (i' := 2) rfl fd_72_1 rfl) ?_
    refine dl_wr 0 rfl rfl rfl rfl rfl rfl rfl (op_loadN rfl ag_68 sz_68 rfl rfl) ?_
    obtain ⟨y104, hy104, h⟩ := bind_some h
    refine dl_we rfl rfl rfl rfl (op_call (vs := [.agg #[.int .u32 x1.Src.Addr, .int .i64 x1.Src.Bits]]) cl_51 (T_crossbuckref03_Right  x1.Src hy104) rfl [] (by exact rfl) rfl) ?_
    rintro ⟨⟩ -
    refine dn_normv (u := .bool y104) (Qs := [_, _]) rfl rfl ?_
    refine dn_slot (u := .bool (decide (y104 = true))) 10 rfl (bdec _) ?_
    refine dl_wt rfl rfl rfl rfl rfl rfl (op_not rfl) ?_
    refine dl_t rfl rfl rfl (op_pick (b := false) rfl rfl) ?_
    refine dn_done ?_
    refine dn_then ?_
    refine dn_cond (p := ¬ (y104 = true)) rfl (fun hc105 => ?_) (fun hc105 => ?_)
    ·
      replace h := pos_some hc105 h
      refine dn_seq ?_
      refine dn_reg ?_
      refine dl_t rfl rfl rfl (op_assign rfl) ?_
      refine dn_done ?_
      refine dn_then ?_
      refine dn_ret ?_
      refine dn_thenR ?_
      replace h := Option.some.inj h
      subst h
      exact dn_end () rfl rfl (by rfl) trivial [1] (by rfl) (.inl rfl)
    ·
      replace h := neg_some hc105 h
      refine dn_skip ?_
      refine dn_then ?_
      refine dn_seq ?_
      refine dn_seq ?_
      refine dn_reg ?_
      refine dl_t rfl rfl rfl (op_fieldAddr (i' := 4) rfl fd_72_2 rfl) ?_
      refine dl_r 0 rfl rfl rfl rfl (op_load rfl ag_3 rfl) ?_
      refine dl_t rfl rfl rfl (op_lss rfl rfl) ?_
      refine dl_t rfl rfl rfl (op_move rfl) ?_
      refine dn_test (p := x1.Proto < (-1)) 16 rfl (fun hc106 => ?_) (fun hc106 => ?_)
      ·
        replace h := pos_some hc106 h
        refine dl_no rfl rfl rfl rfl (by decide) rfl rfl ?_
        refine dl_no rfl rfl rfl rfl (by decide) rfl rfl ?_
        refine dl_no rfl rfl rfl rfl (by decide) rfl rfl ?_
        refine dl_t rfl rfl rfl (op_pick (b := true) rfl rfl) ?_
        refine dn_done ?_
        refine dn_then ?_
        refine dn_cond_true rfl ?_
        refine dn_seq ?_
        refine dn_reg ?_
        refine dl_t rfl rfl rfl (op_assign rfl) ?_
        refine dn_done ?_
        refine dn_then ?_
        refine dn_ret ?_
        refine dn_thenR ?_
        replace h := Option.some.inj h
        subst h
        exact dn_end () rfl rfl (by rfl) trivial [1] (by rfl) (.inl rfl)
      ·
        replace h := neg_some hc106 h
        refine dl_wt rfl rfl rfl rfl rfl rfl (op_fieldAddr (i' := 4) rfl fd_72_2 rfl) ?_
        refine dl_wr 0 rfl rfl rfl rfl rfl rfl rfl (op_load rfl ag_3 rfl) ?_
        refine dl_wt rfl rfl rfl rfl rfl rfl (op_gtr rfl rfl) ?_
        refine dl_t rfl rfl rfl (op_pick (b := false) rfl rfl) ?_
        refine dn_done ?_
        refine dn_then ?_
        refine dn_cond (p := (255 : Int) < x1.Proto) rfl (fun hc107 => ?_) (fun hc107 => ?_)
        ·
          replace h := pos_some hc107 h
          refine dn_seq ?_
          refine dn_reg ?_
          refine dl_t rfl rfl rfl (op_assign rfl) ?_
          refine dn_done ?_
          refine dn_then ?_
          refine dn_ret ?_
          refine dn_thenR ?_
          replace h := Option.some.inj h
          subst h
          exact dn_end () rfl rfl (by rfl) trivial [1] (by rfl) (.inl rfl)
        ·
          replace h := neg_some hc107 h
          refine dn_skip ?_
          refine dn_then ?_
          refine dn_seq ?_
          refine dn_seq ?_
          refine dn_reg ?_
          refine dl_t rfl rfl rfl (op_fieldAddr (i' := 5) rfl fd_72_3 rfl) ?_
          refine dl_t rfl rfl rfl (op_fieldAddr (i' := 5) rfl fd_70_0 rfl) ?_
          refine dl_r 0 rfl rfl rfl rfl (op_load rfl ag_36 rfl) ?_
          refine dl_t rfl rfl rfl (op_fieldAddr (i' := 5) rfl fd_72_3 rfl) ?_
          refine dl_t rfl rfl rfl (op_fieldAddr (i' := 6) rfl fd_70_1 rfl) ?_
          refine dl_r 0 rfl rfl rfl rfl (op_load rfl ag_36 rfl) ?_
          refine dl_t rfl rfl rfl (op_gtr rfl rfl) ?_
          refine dl_t rfl rfl rfl (op_move rfl) ?_
          refine dn_test (p := x1.SPort.High < x1.SPort.Low) 28 rfl (fun hc108 => ?_) (fun hc108 => ?_)
          ·
            replace h := pos_some hc108 h
            refine dl_no rfl rfl rfl rfl (by decide) rfl rfl ?_
            refine dl_no rfl rfl rfl rfl (by decide) rfl rfl ?_
            refine dl_no rfl rfl rfl rfl (by decide) rfl rfl ?_
            refine dl_no rfl rfl rfl rfl (by decide) rfl rfl ?_
            refine dl_no rfl rfl rfl rfl (by decide) rfl rfl ?_
            refine dl_no rfl rfl rfl rfl (by decide) rfl rfl ?_
            refine dl_no rfl rfl rfl rfl (by decide) rfl rfl ?_
            refine dl_t rfl rfl rfl (op_pick (b := true) rfl rfl) ?_
            refine dn_done ?_
            refine dn_then ?_
            refine dn_cond_true rfl ?_
            refine dn_seq ?_
            refine dn_reg ?_
            refine dl_t rfl rfl rfl (op_assign rfl) ?_
            refine dn_done ?_
            refine dn_then ?_
            refine dn_ret ?_
            refine dn_thenR ?_
            replace h := Option.some.inj h
            subst h
            exact dn_end () rfl rfl (by rfl) trivial [1] (by rfl) (.inl rfl)
          ·
            replace h := neg_some hc108 h
            refine dl_wt rfl rfl rfl rfl rfl rfl (op_fieldAddr (i' := 7) rfl fd_72_4 rfl) ?_
            refine dl_wt rfl rfl rfl rfl rfl rfl (op_fieldAddr (i' := 7) rfl fd_70_0 rfl) ?_
            refine dl_wr 0 rfl rfl rfl rfl rfl rfl rfl (op_load rfl ag_36 rfl) ?_
            refine dl_wt rfl rfl rfl rfl rfl rfl (op_fieldAddr (i' := 7) rfl fd_72_4 rfl) ?_
            refine dl_wt rfl rfl rfl rfl rfl rfl (op_fieldAddr (i' := 8) rfl fd_70_1 rfl) ?_
            refine dl_wr 0 rfl rfl rfl rfl rfl rfl rfl (op_load rfl ag_36 rfl) ?_
            refine dl_wt rfl rfl rfl rfl rfl rfl (op_gtr rfl rfl) ?_
            refine dl_t rfl rfl rfl (op_pick (b := false) rfl rfl) ?_
            refine dn_done ?_
            refine dn_then ?_
            refine dn_cond (p := x1.DPort.High < x1.DPort.Low) rfl (fun hc109 => ?_) (fun hc109 => ?_)
            ·
              replace h := pos_some hc109 h
              refine dn_seq ?_
              refine dn_reg ?_
              refine dl_t rfl rfl rfl (op_assign rfl) ?_
              refine dn_done ?_
              refine dn_then ?_
              refine dn_ret ?_
              refine dn_thenR ?_
              replace h := Option.some.inj h
              subst h
              exact dn_end () rfl rfl (by rfl) trivial [1] (by rfl) (.inl rfl)
            ·
              replace h := neg_some hc109 h
              refine dn_skip ?_
              refine dn_then ?_
              refine dn_seq ?_
              refine dn_reg ?_
              refine dl_t rfl rfl rfl (op_assign rfl) ?_
              refine dn_done ?_
              refine dn_then ?_
              refine dn_ret ?_
              replace h := Option.some.inj h
              subst h
              exact dn_end () rfl rfl (by rfl) trivial [1] (by rfl) (.inl rfl)
def M_crossbuckref05_Check.l3 (y135 : Int) (y130 : List T112) : Nat → Int → Option (Unit ⊕ Unit)
  | 0, _ => none
  | k + 1, y157 => if y157 < y135 then ((nth y130 y157).bind fun y161 => (nth y130 y135).bind fun y164 => if y161 = y164 then (some (.inl ())) else (M_crossbuckref05_Check.l3 y135 y130 k (w64 (y157 + 1)))) else (some (.inr ()))
def M_crossbuckref05_Check.l4 (y134 : MApiTopo) : Nat → Int → Option (Int ⊕ Int ⊕ Unit)
  | 0, _ => none
  | k + 1, y168 => if y168 < ((y134.ACEs.length : Nat) : Int) then ((nth y134.ACEs y168).bind fun y182 => (nth y134.ACEs y168).bind fun y185 => (M_crossbuckref05_Port y134.Ports y134.Links y134.ACEs y182.Dev y185.Port).bind fun y188 => if ¬ (y188 = 0) then (some (.inl y188)) else ((nth y134.ACEs y168).bind fun y190 => (M_crossbuckref04_Check y190.F).bind fun y193 => if ¬ (y193 = 0) then (some (.inr (.inl y193))) else (M_crossbuckref05_Check.l4 y134 k (w64 (y168 + 1))))) else (some (.inr (.inr ())))
def M_crossbuckref05_Check.l2 (y130 : List T112) : Nat → MApiTopo → Int → Option (Int ⊕ Unit ⊕ MApiTopo)
  | 0, _, _ => none
  | k + 1, y134, y135 => if y135 < ((y130.length : Nat) : Int) then ((nth y130 y135).bind fun y149 => (nth y130 y135).bind fun y152 => (M_crossbuckref05_Port y134.Ports y134.Links y134.ACEs y149.e0 y152.e1).bind fun y155 => if ¬ (y155 = 0) then (some (.inl y155)) else ((M_crossbuckref05_Check.l3 y135 y130 fuel 0).bind fun y158 => Sum.elim (fun y158 => some (.inr (.inl ()))) ((fun y158 => M_crossbuckref05_Check.l2 y130 k y134 (w64 (y135 + 1)))) y158)) else (some (.inr (.inr y134)))
def M_crossbuckref05_Check.l1 (x1 : List Int) (x2 : List MApiLink) (x3 : List MApiACE) : Nat → Int → Option (Unit ⊕ Unit ⊕ Unit)
  | 0, _ => none
  | k + 1, y108 => if y108 < ((((⟨x1, x2, x3⟩ : MApiTopo).Ports).length : Nat) : Int) then ((nth ((⟨x1, x2, x3⟩ : MApiTopo).Ports) y108).bind fun y122 => if y122 < 0 then (some (.inl ())) else ((nth ((⟨x1, x2, x3⟩ : MApiTopo).Ports) y108).bind fun y126 => if (8 : Int) < y126 then (some (.inr (.inl ()))) else (M_crossbuckref05_Check.l1 x1 x2 x3 k (w64 (y108 + 1))))) else (some (.inr (.inr ())))
def M_crossbuckref05_Check (x1 : List Int) (x2 : List MApiLink) (x3 : List MApiACE) : Option (Int) := if ((x1.length : Nat) : Int) < 1 then (some 15) else (if (16 : Int) < ((x1.length : Nat) : Int) then (some 15) else (if (32 : Int) < ((x3.length : Nat) : Int) then (some 15) else ((M_crossbuckref05_Check.l1 x1 x2 x3 fuel 0).bind fun y109 => Sum.elim (fun y109 => some 11) (Sum.elim (fun y109 => some 11) ((fun y109 => (M_crossbuckref05_Ends ((⟨x1, x2, x3⟩ : MApiTopo).Ports) ((⟨x1, x2, x3⟩ : MApiTopo).Links) ((⟨x1, x2, x3⟩ : MApiTopo).ACEs)).bind fun y130 => (M_crossbuckref05_Check.l2 y130 fuel (⟨((⟨x1, x2, x3⟩ : MApiTopo).Ports), ((⟨x1, x2, x3⟩ : MApiTopo).Links), ((⟨x1, x2, x3⟩ : MApiTopo).ACEs)⟩ : MApiTopo) 0).bind fun y136 => Sum.elim (fun y136 => some y136) (Sum.elim (fun y136 => some 12) ((fun y136 => (M_crossbuckref05_Check.l4 y136 fuel 0).bind fun y169 => Sum.elim (fun y169 => some y169) (Sum.elim (fun y169 => some y169) ((fun y169 => some 0))) y169))) y136))) y109)))
set_option maxHeartbeats 1000000 in
theorem T_crossbuckref05_Check (a1 : Option Addr) (n2 : Nat) (c3 : Nat) (a4 : Option Addr) (n5 : Nat) (c6 : Nat) (a7 : Option Addr) (n8 : Nat) (c9 : Nat) (x1 : List Int) (x2 : List MApiLink) (x3 : List MApiACE) {r : Int} (h : M_crossbuckref05_Check x1 x2 x3 = some r) : Tri Tryz.prog 26 [.agg #[.slice a1 n2 c3, .slice a4 n5 c6, .slice a7 n8 c9]].toArray [RoL (encI .i64) a1 n2 x1, RoL encMApiLink a4 n5 x2, RoL encMApiACE a7 n8 x3] (X := Unit) (fun _ => .int .i64 r) (fun _ => True) (fun _ => [RoL (encI .i64) a1 n2 x1, RoL encMApiLink a4 n5 x2, RoL encMApiACE a7 n8 x3]) := by
  unfold M_crossbuckref05_Check at h
  refine tri_intro (n := 119) (vs := [.agg #[.slice a1 n2 c3, .slice a4 n5 c6, .slice a7 n8 c9]]) Tryz.func26 rfl rfl rfl (fun R E => ?_)
  show Dn E 119 [] _ [(0, .agg #[.slice a1 n2 c3, .slice a4 n5 c6, .slice a7 n8 c9])] [RoL (encI .i64) a1 n2 x1, RoL encMApiLink a4 n5 x2, RoL encMApiACE a7 n8 x3, R]
  refine dn_seq ?_
  refine dn_reg ?_
  refine dl_e rfl (op_box (vs := [.slice a1 n2 c3, .slice a4 n5 c6, .slice a7 n8 c9]) rfl rfl rfl) ?_
  rintro b101 -
  refine dn_norm (Qs := [_, _, _, _, _]) rfl ?_
  refine dl_t rfl rfl rfl (op_assign rfl) ?_
  refine dn_done ?_
  refine dn_then ?_
  refine dn_seq ?_
  refine dn_seq ?_
  refine dn_reg ?_
  refine dl_t rfl rfl rfl (op_fieldAddr (i' := 0) rfl fd_53_0 rfl) ?_
  refine dl_r 0 rfl rfl rfl rfl (op_load rfl ag_49 rfl) ?_
  refine dn_roN 1 rfl (fun hn102 => ?_)
  refine dl_t rfl rfl rfl (op_len rfl el_49) ?_
  refine dn_slot (u := .int .i64 ((x1.length : Nat) : Int)) 13 rfl (by rw [hn102]) ?_
  refine dl_t rfl rfl rfl (op_lss rfl rfl) ?_
  refine dl_t rfl rfl rfl (op_move rfl) ?_
  refine dn_test (p := ((x1.length : Nat) : Int) < 1) 15 rfl (fun hc103 => ?_) (fun hc103 => ?_)
  ·
    replace h := pos_some hc103 h
    refine dl_no rfl rfl rfl rfl (by decide) rfl rfl ?_
    refine dl_no rfl rfl rfl rfl (by decide) rfl rfl ?_
    refine dl_no rfl rfl rfl rfl (by decide) rfl rfl ?_
    refine dl_no rfl rfl rfl rfl (by decide) rfl rfl ?_
    refine dl_t rfl rfl rfl (op_pick (b := true) rfl rfl) ?_
    refine dl_t rfl rfl rfl (op_move rfl) ?_
    refine dl_no rfl rfl rfl rfl (by decide) rfl rfl ?_
    refine dl_no rfl rfl rfl rfl (by decide) rfl rfl ?_
    refine dl_no rfl rfl rfl rfl (by decide) rfl rfl ?_
    refine dl_no rfl rfl rfl rfl (by decide) rfl rfl ?_
    refine dl_t rfl rfl rfl (op_pick (b := true) rfl rfl) ?_
    refine dn_done ?_
    refine dn_then ?_
    refine dn_cond_true rfl ?_
    refine dn_seq ?_
    refine dn_reg ?_
    refine dl_t rfl rfl rfl (op_assign rfl) ?_
    refine dn_done ?_
    refine dn_then ?_
    refine dn_ret ?_
    refine dn_thenR ?_
    replace h := Option.some.inj h
    subst h
    exact dn_end () rfl rfl (by rfl) trivial [1, 1, 1, 1] (Rs := [Blk b101 (.cells [.slice a1 n2 c3, .slice a4 n5 c6, .slice a7 n8 c9].toArray 53 (0, 0))]) (by kernel_rfl) (.inl rfl)
  ·
    replace h := neg_some hc103 h
    refine dl_wt rfl rfl rfl rfl rfl rfl (op_fieldAddr (i' := 0) rfl fd_53_0 rfl) ?_
    refine dl_wr 0 rfl rfl rfl rfl rfl rfl rfl (op_load rfl ag_49 rfl) ?_
    refine dn_roN 1 rfl (fun hn104 => ?_)
    refine dl_wt rfl rfl rfl rfl rfl rfl (op_len rfl el_49) ?_
    refine dn_slot (u := .int .i64 ((x1.length : Nat) : Int)) 18 rfl (by rw [hn104]) ?_
    refine dl_wt rfl rfl rfl rfl rfl rfl (op_gtr rfl rfl) ?_
    refine dl_t rfl rfl rfl (op_pick (b := false) rfl rfl) ?_
    refine dl_t rfl rfl rfl (op_move rfl) ?_
    refine dn_test (p := (16 : Int) < ((x1.length : Nat) : Int)) 21 rfl (fun hc105 => ?_) (fun hc105 => ?_)
    ·
      replace h := pos_some hc105 h
      refine dl_no rfl rfl rfl rfl (by decide) rfl rfl ?_
      refine dl_no rfl rfl rfl rfl (by decide) rfl rfl ?_
      refine dl_no rfl rfl rfl rfl (by decide) rfl rfl ?_
      refine dl_no rfl rfl rfl rfl (by decide) rfl rfl ?_
      refine dl_t rfl rfl rfl (op_pick (b := true) rfl rfl) ?_
      refine dn_done ?_
      refine dn_then ?_
      refine dn_cond_true rfl ?_
      refine dn_seq ?_
      refine dn_reg ?_
      refine dl_t rfl rfl rfl (op_assign rfl) ?_
      refine dn_done ?_
      refine dn_then ?_
      refine dn_ret ?_
      refine dn_thenR ?_
      replace h := Option.some.inj h
      subst h
      exact dn_end () rfl rfl (by rfl) trivial [1, 1, 1, 1] (Rs := [Blk b101 (.cells [.slice a1 n2 c3, .slice a4 n5 c6, .slice a7 n8 c9].toArray 53 (0, 0))]) (by kernel_rfl) (.inl rfl)
    ·
      replace h := neg_some hc105 h
      refine dl_wt rfl rfl rfl rfl rfl rfl (op_fieldAddr (i' := 2) rfl fd_53_2 rfl) ?_
      refine dl_wr 0 rfl rfl rfl rfl rfl rfl rfl (op_load rfl ag_51 rfl) ?_
      refine dn_roN 3 rfl (fun hn106 => ?_)
      refine dl_wt rfl rfl rfl rfl rfl rfl (op_len rfl el_51) ?_
      refine dn_slot (u := .int .i64 ((x3.length : Nat) : Int)) 24 rfl (by rw [hn106]) ?_
      refine dl_wt rfl rfl rfl rfl rfl rfl (op_gtr rfl rfl) ?_
      refine dl_t rfl rfl rfl (op_pick (b := false) rfl rfl) ?_
      refine dn_done ?_
      refine dn_then ?_
      refine dn_cond (p := (32 : Int) < ((x3.length : Nat) : Int)) rfl (fun hc107 => ?_) (fun hc107 => ?_)
      ·
        replace h := pos_some hc107 h
        refine dn_seq ?_
        refine dn_reg ?_
        refine dl_t rfl rfl rfl (op_assign rfl) ?_
        refine dn_done ?_
        refine dn_then ?_
        refine dn_ret ?_
        refine dn_thenR ?_
        replace h := Option.some.inj h
        subst h
        exact dn_end () rfl rfl (by rfl) trivial [1, 1, 1, 1] (Rs := [Blk b101 (.cells [.slice a1 n2 c3, .slice a4 n5 c6, .slice a7 n8 c9].toArray 53 (0, 0))]) (by kernel_rfl) (.inl rfl)
      ·
        replace h := neg_some hc107 h
        refine dn_skip ?_
        refine dn_then ?_
        refine dn_seq ?_
        refine dn_seq ?_
        refine dn_reg ?_
        refine dl_t rfl rfl rfl (op_assign rfl) ?_
        refine dn_done ?_
        refine dn_then ?_
        refine dn_block ?_
        refine dn_roDup 1 rfl ?_
        refine dn_norm (Qs := [_, _, _, _, _, _]) rfl ?_
        refine dn_roDup 3 rfl ?_
        refine dn_norm (Qs := [_, _, _, _, _, _, _]) rfl ?_
        refine dn_roDup 5 rfl ?_
        refine dn_norm (Qs := [_, _, _, _, _, _, _, _]) rfl ?_
        refine dn_shutR (Q := P_MApiTopo b101 (⟨x1, x2, x3⟩ : MApiTopo)) rfl (a1, n2, c3, a4, n5, c6, a7, n8, c9) [3, 2, 1, 0] (Rs := [RoL (encI .i64) a1 n2 x1, RoL encMApiLink a4 n5 x2, RoL encMApiACE a7 n8 x3, R]) (by kernel_rfl) ?_
        refine dn_norm (Qs := [_, _, _, _, _]) rfl ?_
        obtain ⟨y109, h1, h⟩ := bind_some h
        refine dn_loop (α := Nat × Int) (fun g => M_crossbuckref05_Check.l1 x1 x2 x3 g.1 g.2 = some y109) (fun g => g.1) (fun g => [(1, .pointer (some ⟨b101, 0, none⟩)), (3, .int .i64 g.2)]) (fun g => [RoL (encI .i64) a1 n2 x1, RoL encMApiLink a4 n5 x2, RoL encMApiACE a7 n8 x3, P_MApiTopo b101 (⟨x1, x2, x3⟩ : MApiTopo), R]) ?_ ?_
        ·
          exact dn_meet (fuel, 0) h1 (Less.cons rfl (Less.cons rfl (Less.nil _))) [1, 1, 1, 0, 0] (Rs := []) (by kernel_rfl)
        ·
          rintro ⟨k110, y108⟩ h1
          cases k110 with
          | zero => cases h1
          | succ k110 =>
            replace h1 : M_crossbuckref05_Check.l1 x1 x2 x3 (k110 + 1) y108 = some y109 := h1
            rw [M_crossbuckref05_Check.l1.eq_2] at h1
            show Dn E 119 [] _ [(1, .pointer (some ⟨b101, 0, none⟩)), (3, .int .i64 y108)] [RoL (encI .i64) a1 n2 x1, RoL encMApiLink a4 n5 x2, RoL encMApiACE a7 n8 x3, P_MApiTopo b101 (⟨x1, x2, x3⟩ : MApiTopo), R]
            refine dn_seq ?_
            refine dn_seq ?_
            refine dn_reg ?_
            refine dl_t rfl rfl rfl (op_move rfl) ?_
            refine dl_t rfl rfl rfl (op_fieldAddr (i' := 0) rfl fd_53_0 rfl) ?_
            refine dn_open 3 rfl rfl ?_
            rintro ⟨a111, n112, c113, a114, n115, c116, a117, n118, c119⟩
            refine dn_norm (Qs := [Blk b101 (.cells [.slice a111 n112 c113, .slice a114 n115 c116, .slice a117 n118 c119].toArray 53 (0, 0)), RoL (encI .i64) a111 n112 ((⟨x1, x2, x3⟩ : MApiTopo).Ports), RoL encMApiLink a114 n115 ((⟨x1, x2, x3⟩ : MApiTopo).Links), RoL encMApiACE a117 n118 ((⟨x1, x2, x3⟩ : MApiTopo).ACEs), _, _, _, _]) rfl ?_
            refine dl_r 0 rfl rfl rfl rfl (op_load rfl ag_49 rfl) ?_
            refine dn_roN 1 rfl (fun hn120 => ?_)
            refine dl_t rfl rfl rfl (op_len rfl el_49) ?_
            refine dn_slot (u := .int .i64 ((((⟨x1, x2, x3⟩ : MApiTopo).Ports).length : Nat) : Int)) 30 rfl (by rw [hn120]) ?_
            refine dl_t rfl rfl rfl (op_lss rfl rfl) ?_
            refine dn_done ?_
            refine dn_then ?_
            refine dn_cond (p := y108 < ((((⟨x1, x2, x3⟩ : MApiTopo).Ports).length : Nat) : Int)) rfl (fun hc121 => ?_) (fun hc121 => ?_)
            ·
              replace h1 := pos_some hc121 h1
              refine dn_skip ?_
              refine dn_then ?_
              refine dn_seq ?_
              refine dn_block ?_
              refine dn_seq ?_
              refine dn_reg ?_
              refine dl_t rfl rfl rfl (op_fieldAddr (i' := 0) rfl fd_53_0 rfl) ?_
              refine dl_r 0 rfl rfl rfl rfl (op_load rfl ag_49 rfl) ?_
              refine dl_t rfl rfl rfl (op_move rfl) ?_
              obtain ⟨y122, hy122, h1⟩ := bind_some h1
              obtain ⟨hz122, hw122, hx122⟩ := nth_some hy122
              refine dn_roN 1 rfl (fun hn123 => ?_)
              refine dn_roLSome (encI_len .i64) rfl 1 rfl (by omega) (fun hs124 => ?_)
              refine dl_t rfl rfl rfl (op_indexS (k := y108.toNat * 1) hs124 rfl rfl el_49 sz_3 (by omega) (by omega) rfl) ?_
              refine dl_r 1 rfl rfl rfl rfl (op_loadL (v := .int .i64 y122) rfl ag_3 (flat_cell (j := 0) (encI_len .i64) hx122 rfl (by first | rfl | omega))) ?_
              refine dl_t rfl rfl rfl (op_lss rfl rfl) ?_
              refine dl_t rfl rfl rfl (op_move rfl) ?_
              refine dn_test (p := y122 < 0) 40 rfl (fun hc125 => ?_) (fun hc125 => ?_)
              ·
                replace h1 := pos_some hc125 h1
                refine dl_no rfl rfl rfl rfl (by decide) rfl rfl ?_
                refine dl_no rfl rfl rfl rfl (by decide) rfl rfl ?_
                refine dl_no rfl rfl rfl rfl (by decide) rfl rfl ?_
                refine dl_no rfl rfl rfl rfl (by decide) rfl rfl ?_
                refine dl_no rfl rfl rfl rfl (by decide) rfl rfl ?_
                refine dl_no rfl rfl rfl rfl (by decide) rfl rfl ?_
                refine dl_t rfl rfl rfl (op_pick (b := true) rfl rfl) ?_
                refine dn_done ?_
                refine dn_then ?_
                refine dn_cond_true rfl ?_
                refine dn_seq ?_
                refine dn_reg ?_
                refine dl_t rfl rfl rfl (op_assign rfl) ?_
                refine dn_done ?_
                refine dn_then ?_
                refine dn_ret ?_
                refine dn_inBR ?_
                refine dn_thenR ?_
                refine dn_thenR ?_
                replace h1 := Option.some.inj h1
                subst h1
                replace h := elim_l h
                try dsimp only at h
                refine dn_inBR ?_
                refine dn_thenR ?_
                replace h := Option.some.inj h
                subst h
                exact dn_end () rfl rfl (by rfl) trivial [4, 4, 4, 4] (Rs := [Blk b101 (.cells [.slice a111 n112 c113, .slice a114 n115 c116, .slice a117 n118 c119].toArray 53 (0, 0)), RoL (encI .i64) a111 n112 ((⟨x1, x2, x3⟩ : MApiTopo).Ports), RoL encMApiLink a114 n115 ((⟨x1, x2, x3⟩ : MApiTopo).Links), RoL encMApiACE a117 n118 ((⟨x1, x2, x3⟩ : MApiTopo).ACEs)]) (by kernel_rfl) (.inl rfl)
              ·
                replace h1 := neg_some hc125 h1
                refine dl_wt rfl rfl rfl rfl rfl rfl (op_fieldAddr (i' := 0) rfl fd_53_0 rfl) ?_
                refine dl_wr 0 rfl rfl rfl rfl rfl rfl rfl (op_load rfl ag_49 rfl) ?_
                refine dl_wt rfl rfl rfl rfl rfl rfl (op_move rfl) ?_
                obtain ⟨y126, hy126, h1⟩ := bind_some h1
                obtain ⟨hz126, hw126, hx126⟩ := nth_some hy126
                refine dn_roN 1 rfl (fun hn127 => ?_)
                refine dn_roLSome (encI_len .i64) rfl 1 rfl (by omega) (fun hs128 => ?_)
                refine dl_wt rfl rfl rfl rfl rfl rfl (op_indexS (k := y108.toNat * 1) hs128 rfl rfl el_49 sz_3 (by omega) (by omega) rfl) ?_
                refine dl_wr 1 rfl rfl rfl rfl rfl rfl rfl (op_loadL (v := .int .i64 y126) rfl ag_3 (flat_cell (j := 0) (encI_len .i64) hx126 rfl (by first | rfl | omega))) ?_
                refine dl_wt rfl rfl rfl rfl rfl rfl (op_gtr rfl rfl) ?_
                refine dl_t rfl rfl rfl (op_pick (b := false) rfl rfl) ?_
                refine dn_done ?_
                refine dn_then ?_
                refine dn_cond (p := (8 : Int) < y126) rfl (fun hc129 => ?_) (fun hc129 => ?_)
                ·
                  replace h1 := pos_some hc129 h1
                  refine dn_seq ?_
                  refine dn_reg ?_
                  refine dl_t rfl rfl rfl (op_assign rfl) ?_
                  refine dn_done ?_
                  refine dn_then ?_
                  refine dn_ret ?_
                  refine dn_inBR ?_
                  refine dn_thenR ?_
                  refine dn_thenR ?_
                  replace h1 := Option.some.inj h1
                  subst h1
                  replace h := elim_r h
                  replace h := elim_l h
                  try dsimp only at h
                  refine dn_inBR ?_
                  refine dn_thenR ?_
                  replace h := Option.some.inj h
                  subst h
                  exact dn_end () rfl rfl (by rfl) trivial [4, 4, 4, 4] (Rs := [Blk b101 (.cells [.slice a111 n112 c113, .slice a114 n115 c116, .slice a117 n118 c119].toArray 53 (0, 0)), RoL (encI .i64) a111 n112 ((⟨x1, x2, x3⟩ : MApiTopo).Ports), RoL encMApiLink a114 n115 ((⟨x1, x2, x3⟩ : MApiTopo).Links), RoL encMApiACE a117 n118 ((⟨x1, x2, x3⟩ : MApiTopo).ACEs)]) (by kernel_rfl) (.inl rfl)
                ·
                  replace h1 := neg_some hc129 h1
                  refine dn_skip ?_
                  refine dn_inB ?_
                  refine dn_then ?_
                  refine dn_reg ?_
                  refine dl_t rfl rfl rfl (op_move rfl) ?_
                  refine dl_t rfl rfl rfl (op_add (z := w64 (y108 + 1)) rfl rfl rfl) ?_
                  refine dl_t rfl rfl rfl (op_assign rfl) ?_
                  refine dn_done ?_
                  refine dn_then ?_
                  refine dn_roDup 1 rfl ?_
                  refine dn_norm (Qs := [_, _, _, _, _, _, _, _, _]) rfl ?_
                  refine dn_roDup 3 rfl ?_
                  refine dn_norm (Qs := [_, _, _, _, _, _, _, _, _, _]) rfl ?_
                  refine dn_roDup 5 rfl ?_
                  refine dn_norm (Qs := [_, _, _, _, _, _, _, _, _, _, _]) rfl ?_
                  refine dn_shutR (Q := P_MApiTopo b101 (⟨x1, x2, x3⟩ : MApiTopo)) rfl (a111, n112, c113, a114, n115, c116, a117, n118, c119) [3, 2, 1, 0] (Rs := [RoL (encI .i64) a111 n112 ((⟨x1, x2, x3⟩ : MApiTopo).Ports), RoL encMApiLink a114 n115 ((⟨x1, x2, x3⟩ : MApiTopo).Links), RoL encMApiACE a117 n118 ((⟨x1, x2, x3⟩ : MApiTopo).ACEs), RoL (encI .i64) a1 n2 x1, RoL encMApiLink a4 n5 x2, RoL encMApiACE a7 n8 x3, R]) (by kernel_rfl) ?_
                  refine dn_norm (Qs := [_, _, _, _, _, _, _, _]) rfl ?_
                  exact dn_meet (k110, w64 (y108 + 1)) ⟨Nat.lt_succ_self _, h1⟩ (Less.cons rfl (Less.cons rfl (Less.nil _))) [4, 4, 4, 0, 3] (Rs := [RoL (encI .i64) a111 n112 ((⟨x1, x2, x3⟩ : MApiTopo).Ports), RoL encMApiLink a114 n115 ((⟨x1, x2, x3⟩ : MApiTopo).Links), RoL encMApiACE a117 n118 ((⟨x1, x2, x3⟩ : MApiTopo).ACEs)]) (by kernel_rfl)
            ·
              replace h1 := neg_some hc121 h1
              refine dn_exit ?_
              refine dn_thenX ?_
              refine dn_thenX ?_
              replace h1 := Option.some.inj h1
              subst h1
              replace h := elim_r h
              replace h := elim_r h
              try dsimp only at h
              refine dn_inBX ?_
              refine dn_then ?_
              refine dn_seq ?_
              refine dn_reg ?_
              refine dl_r 0 rfl rfl rfl rfl (op_loadN rfl ag_53 sz_53 rfl rfl) ?_
              obtain ⟨y130, hy130, h⟩ := bind_some h
              refine dl_e rfl (op_call (vs := [.agg #[.slice a111 n112 c113, .slice a114 n115 c116, .slice a117 n118 c119]]) cl_36 (T_crossbuckref05_Ends a111 n112 c113 a114 n115 c116 a117 n118 c119 ((⟨x1, x2, x3⟩ : MApiTopo).Ports) ((⟨x1, x2, x3⟩ : MApiTopo).Links) ((⟨x1, x2, x3⟩ : MApiTopo).ACEs) hy130) rfl [1, 1, 1] (by exact rfl) rfl) ?_
              rintro ⟨a131, b132, b133⟩ -
              refine dn_normv (u := .slice a131 b132 b133) (Qs := [RoL (encI .i64) a111 n112 ((⟨x1, x2, x3⟩ : MApiTopo).Ports), RoL encMApiLink a114 n115 ((⟨x1, x2, x3⟩ : MApiTopo).Links), RoL encMApiACE a117 n118 ((⟨x1, x2, x3⟩ : MApiTopo).ACEs), OwnS 112 2 a131 b132 b133 (flat encT112 y130), _, _, _, _, _]) rfl rfl ?_
              refine dl_t rfl rfl rfl (op_assign rfl) ?_
              refine dn_done ?_
              refine dn_then ?_
              refine dn_seq ?_
              refine dn_seq ?_
              refine dn_reg ?_
              refine dl_t rfl rfl rfl (op_assign rfl) ?_
              refine dn_done ?_
              refine dn_then ?_
              refine dn_block ?_
              refine dn_roDup 0 rfl ?_
              refine dn_norm (Qs := [_, _, _, _, _, _, _, _, _, _]) rfl ?_
              refine dn_roDup 2 rfl ?_
              refine dn_norm (Qs := [_, _, _, _, _, _, _, _, _, _, _]) rfl ?_
              refine dn_roDup 4 rfl ?_
              refine dn_norm (Qs := [_, _, _, _, _, _, _, _, _, _, _, _]) rfl ?_
              refine dn_shutR (Q := P_MApiTopo b101 (⟨((⟨x1, x2, x3⟩ : MApiTopo).Ports), ((⟨x1, x2, x3⟩ : MApiTopo).Links), ((⟨x1, x2, x3⟩ : MApiTopo).ACEs)⟩ : MApiTopo)) rfl (a111, n112, c113, a114, n115, c116, a117, n118, c119) [7, 2, 1, 0] (Rs := [RoL (encI .i64) a111 n112 ((⟨x1, x2, x3⟩ : MApiTopo).Ports), RoL encMApiLink a114 n115 ((⟨x1, x2, x3⟩ : MApiTopo).Links), RoL encMApiACE a117 n118 ((⟨x1, x2, x3⟩ : MApiTopo).ACEs), OwnS 112 2 a131 b132 b133 (flat encT112 y130), RoL (encI .i64) a1 n2 x1, RoL encMApiLink a4 n5 x2, RoL encMApiACE a7 n8 x3, R]) (by kernel_rfl) ?_
              refine dn_norm (Qs := [_, _, _, _, _, _, _, _, _]) rfl ?_
              obtain ⟨y136, h2, h⟩ := bind_some h
              refine dn_loop (α := Nat × MApiTopo × Int) (fun g => M_crossbuckref05_Check.l2 y130 g.1 g.2.1 g.2.2 = some y136) (fun g => g.1) (fun g => [(1, .pointer (some ⟨b101, 0, none⟩)), (4, .slice a131 b132 b133), (5, .int .i64 g.2.2)]) (fun g => [RoL (encI .i64) a1 n2 x1, RoL encMApiLink a4 n5 x2, RoL encMApiACE a7 n8 x3, P_MApiTopo b101 g.2.1, OwnS 112 2 a131 b132 b133 (flat encT112 y130), R]) ?_ ?_
              ·
                exact dn_meet (fuel, (⟨((⟨x1, x2, x3⟩ : MApiTopo).Ports), ((⟨x1, x2, x3⟩ : MApiTopo).Links), ((⟨x1, x2, x3⟩ : MApiTopo).ACEs)⟩ : MApiTopo), 0) h2 (Less.cons rfl (Less.cons rfl (Less.cons rfl (Less.nil _)))) [5, 5, 5, 0, 3, 3] (Rs := [RoL (encI .i64) a111 n112 ((⟨x1, x2, x3⟩ : MApiTopo).Ports), RoL encMApiLink a114 n115 ((⟨x1, x2, x3⟩ : MApiTopo).Links), RoL encMApiACE a117 n118 ((⟨x1, x2, x3⟩ : MApiTopo).ACEs)]) (by kernel_rfl)
              ·
                rintro ⟨k137, y134, y135⟩ h2
                cases k137 with
                | zero => cases h2
                | succ k137 =>
                  replace h2 : M_crossbuckref05_Check.l2 y130 (k137 + 1) y134 y135 = some y136 := h2
                  rw [M_crossbuckref05_Check.l2.eq_2] at h2
                  show Dn E 119 [] _ [(1, .pointer (some ⟨b101, 0, none⟩)), (4, .slice a131 b132 b133), (5, .int .i64 y135)] [RoL (encI .i64) a1 n2 x1, RoL encMApiLink a4 n5 x2, RoL encMApiACE a7 n8 x3, P_MApiTopo b101 y134, OwnS 112 2 a131 b132 b133 (flat encT112 y130), R]
                  refine dn_seq ?_
                  refine dn_seq ?_
                  refine dn_reg ?_
                  refine dl_t rfl rfl rfl (op_move rfl) ?_
                  refine dl_t rfl rfl rfl (op_move rfl) ?_
                  refine dn_ownN encT112_len rfl 4 rfl (fun hn138 => ?_)
                  refine dl_t rfl rfl rfl (op_len rfl el_109) ?_
                  refine dn_slot (u := .int .i64 ((y130.length : Nat) : Int)) 52 rfl (by rw [hn138]) ?_
                  refine dl_t rfl rfl rfl (op_lss rfl rfl) ?_
                  refine dn_done ?_
                  refine dn_then ?_
                  refine dn_cond (p := y135 < ((y130.length : Nat) : Int)) rfl (fun hc139 => ?_) (fun hc139 => ?_)
                  ·
                    replace h2 := pos_some hc139 h2
                    refine dn_skip ?_
                    refine dn_then ?_
                    refine dn_seq ?_
                    refine dn_block ?_
                    refine dn_seq ?_
                    refine dn_seq ?_
                    refine dn_open 3 rfl rfl ?_
                    rintro ⟨a140, n141, c142, a143, n144, c145, a146, n147, c148⟩
                    refine dn_norm (Qs := [Blk b101 (.cells [.slice a140 n141 c142, .slice a143 n144 c145, .slice a146 n147 c148].toArray 53 (0, 0)), RoL (encI .i64) a140 n141 y134.Ports, RoL encMApiLink a143 n144 y134.Links, RoL encMApiACE a146 n147 y134.ACEs, _, _, _, _, _]) rfl ?_
                    refine dn_any (N := 13) (l0 := #[false, false, false, false, false, false, false, false, false, false, false, false, false]) mixed (fun i => Nat.beq i 11) (fun s => match s with | 0 => [Blk b101 (.cells [.slice a140 n141 c142, .slice a143 n144 c145, .slice a146 n147 c148].toArray 53 (0, 0)), OwnS 112 2 a131 b132 b133 (flat encT112 y130)] | _ => []) [0, 6] rfl rfl rfl ?_
                    refine ds_t (listed' := #[false, true, false, false, false, false, false, false, false, false, false, false, false]) 1 (by kernel_rfl) rfl rfl rfl rfl rfl (op_move rfl) ?_
                    refine ds_t (listed' := #[false, true, true, false, false, false, false, false, false, false, false, false, false]) 2 (by kernel_rfl) rfl rfl rfl rfl rfl (op_move rfl) ?_
                    obtain ⟨y149, hy149, h2⟩ := bind_some h2
                    obtain ⟨hz149, hw149, hx149⟩ := nth_some hy149
                    refine ds_of ?_
                    refine dn_ownN encT112_len rfl 7 rfl (fun hn150 => ?_)
                    refine of_ds ?_
                    refine ds_of ?_
                    refine dn_ownLSome 7 rfl (by omega) (fun hs151 => ?_)
                    refine of_ds ?_
                    refine ds_t (listed' := #[false, true, true, true, false, false, false, false, false, false, false, false, false]) 3 (by kernel_rfl) rfl rfl rfl rfl rfl (op_indexS (k := y135.toNat * 2) hs151 rfl rfl el_109 sz_112 (by omega) (by omega) rfl) ?_
                    refine ds_t (listed' := #[false, true, true, true, true, false, false, false, false, false, false, false, false]) 4 (by kernel_rfl) rfl rfl rfl rfl rfl (op_indexArrS (k' := y135.toNat * 2) hs151 rfl rfl ar_112 sz_3 (by decide) (by decide) (by first | rfl | omega)) ?_
                    refine ds_t (listed' := #[false, true, true, true, true, false, true, false, false, false, false, false, false]) 6 (by kernel_rfl) rfl rfl rfl rfl rfl (op_move rfl) ?_
                    refine ds_t (listed' := #[false, true, true, true, true, false, true, true, false, false, false, false, false]) 7 (by kernel_rfl) rfl rfl rfl rfl rfl (op_move rfl) ?_
                    obtain ⟨y152, hy152, h2⟩ := bind_some h2
                    obtain ⟨hz152, hw152, hx152⟩ := nth_some hy152
                    refine ds_of ?_
                    refine dn_ownN encT112_len rfl 7 rfl (fun hn153 => ?_)
                    refine of_ds ?_
                    refine ds_of ?_
                    refine dn_ownLSome 7 rfl (by omega) (fun hs154 => ?_)
                    refine of_ds ?_
                    refine ds_t (listed' := #[false, true, true, true, true, false, true, true, true, false, false, false, false]) 8 (by kernel_rfl) rfl rfl rfl rfl rfl (op_indexS (k := y135.toNat * 2) hs154 rfl rfl el_109 sz_112 (by omega) (by omega) rfl) ?_
                    refine ds_t (listed' := #[false, true, true, true, true, false, true, true, true, true, false, false, false]) 9 (by kernel_rfl) rfl rfl rfl rfl rfl (op_indexArrS (k' := y135.toNat * 2 + 1) hs154 rfl rfl ar_112 sz_3 (by decide) (by decide) (by first | rfl | omega)) ?_
                    refine ds_r (listed' := #[true, true, true, true, true, false, true, true, true, true, false, false, false]) 0 (by kernel_rfl) rfl rfl rfl rfl rfl 0 rfl (op_loadN rfl ag_53 sz_53 rfl rfl) ?_
                    refine ds_r (listed' := #[true, true, true, true, true, true, true, true, true, true, false, false, false]) 5 (by kernel_rfl) rfl rfl rfl rfl rfl 1 rfl (op_loadO (v := .int .i64 y149.e0) rfl ag_3 (by omega) (flat_cell (j := 0) encT112_len hx149 rfl (by first | rfl | omega))) ?_
                    refine ds_r (listed' := #[true, true, true, true, true, true, true, true, true, true, true, false, false]) 10 (by kernel_rfl) rfl rfl rfl rfl rfl 1 rfl (op_loadO (v := .int .i64 y152.e1) rfl ag_3 (by omega) (flat_cell (j := 1) encT112_len hx152 rfl (by first | rfl | omega))) ?_
                    obtain ⟨y155, hy155, h2⟩ := bind_some h2
                    refine ds_x (s' := 1) (listed' := #[true, true, true, true, true, true, true, true, true, true, true, true, false]) 11 (by kernel_rfl) rfl rfl rfl rfl (op_call (vs := [.agg #[.slice a140 n141 c142, .slice a143 n144 c145, .slice a146 n147 c148], .int .i64 y149.e0, .int .i64 y152.e1]) cl_37 (T_crossbuckref05_Port a140 n141 c142 a143 n144 c145 a146 n147 c148 y134.Ports y134.Links y134.ACEs y149.e0 y152.e1 hy155) rfl [1, 1, 1] (by exact rfl) rfl) [] (fun _ => ⟨_, rfl⟩) ?_
                    rintro ⟨⟩ -
                    refine ds_normv (u := .int .i64 y155) (Qs := [RoL (encI .i64) a140 n141 y134.Ports, RoL encMApiLink a143 n144 y134.Links, RoL encMApiACE a146 n147 y134.ACEs, _, _, _, _, _, _]) rfl rfl ?_
                    refine ds_t (listed' := #[true, true, true, true, true, true, true, true, true, true, true, true, true]) 12 (by kernel_rfl) rfl rfl rfl rfl rfl (op_assign rfl) ?_
                    refine ds_done rfl ?_
                    refine dn_then ?_
                    refine dn_seq ?_
                    refine dn_reg ?_
                    refine dl_t rfl rfl rfl (op_move rfl) ?_
                    refine dl_t rfl rfl rfl (op_neq rfl rfl) ?_
                    refine dn_done ?_
                    refine dn_then ?_
                    refine dn_cond (p := ¬ (y155 = 0)) rfl (fun hc156 => ?_) (fun hc156 => ?_)
                    ·
                      replace h2 := pos_some hc156 h2
                      refine dn_seq ?_
                      refine dn_reg ?_
                      refine dl_t rfl rfl rfl (op_move rfl) ?_
                      refine dl_t rfl rfl rfl (op_assign rfl) ?_
                      refine dn_done ?_
                      refine dn_then ?_
                      refine dn_ret ?_
                      refine dn_thenR ?_
                      refine dn_inBR ?_
                      refine dn_thenR ?_
                      refine dn_thenR ?_
                      replace h2 := Option.some.inj h2
                      subst h2
                      replace h := elim_l h
                      try dsimp only at h
                      refine dn_inBR ?_
                      refine dn_thenR ?_
                      replace h := Option.some.inj h
                      subst h
                      exact dn_end () rfl rfl (by rfl) trivial [4, 4, 4, 5] (Rs := [RoL (encI .i64) a140 n141 y134.Ports, RoL encMApiLink a143 n144 y134.Links, RoL encMApiACE a146 n147 y134.ACEs, Blk b101 (.cells [.slice a140 n141 c142, .slice a143 n144 c145, .slice a146 n147 c148].toArray 53 (0, 0)), OwnS 112 2 a131 b132 b133 (flat encT112 y130)]) (by kernel_rfl) (.inl rfl)
                    ·
                      replace h2 := neg_some hc156 h2
                      refine dn_skip ?_
                      refine dn_then ?_
                      refine dn_seq ?_
                      refine dn_reg ?_
                      refine dl_t rfl rfl rfl (op_assign rfl) ?_
                      refine dn_done ?_
                      refine dn_then ?_
                      refine dn_block ?_
                      refine dn_roDup 0 rfl ?_
                      refine dn_norm (Qs := [_, _, _, _, _, _, _, _, _, _]) rfl ?_
                      refine dn_roDup 2 rfl ?_
                      refine dn_norm (Qs := [_, _, _, _, _, _, _, _, _, _, _]) rfl ?_
                      refine dn_roDup 4 rfl ?_
                      refine dn_norm (Qs := [_, _, _, _, _, _, _, _, _, _, _, _]) rfl ?_
                      refine dn_shutR (Q := P_MApiTopo b101 y134) rfl (a140, n141, c142, a143, n144, c145, a146, n147, c148) [6, 2, 1, 0] (Rs := [RoL (encI .i64) a140 n141 y134.Ports, RoL encMApiLink a143 n144 y134.Links, RoL encMApiACE a146 n147 y134.ACEs, RoL (encI .i64) a1 n2 x1, RoL encMApiLink a4 n5 x2, RoL encMApiACE a7 n8 x3, OwnS 112 2 a131 b132 b133 (flat encT112 y130), R]) (by kernel_rfl) ?_
                      refine dn_norm (Qs := [_, _, _, _, _, _, _, _, _]) rfl ?_
                      obtain ⟨y158, h3, h2⟩ := bind_some h2
                      refine dn_loop (α := Nat × Int) (fun g => M_crossbuckref05_Check.l3 y135 y130 g.1 g.2 = some y158) (fun g => g.1) (fun g => [(1, .pointer (some ⟨b101, 0, none⟩)), (4, .slice a131 b132 b133), (5, .int .i64 y135), (7, .int .i64 g.2)]) (fun g => [RoL (encI .i64) a1 n2 x1, RoL encMApiLink a4 n5 x2, RoL encMApiACE a7 n8 x3, P_MApiTopo b101 y134, OwnS 112 2 a131 b132 b133 (flat encT112 y130), R]) ?_ ?_
                      ·
                        exact dn_meet (fuel, 0) h3 (Less.cons rfl (Less.cons rfl (Less.cons rfl (Less.cons rfl (Less.nil _))))) [4, 4, 4, 0, 3, 3] (Rs := [RoL (encI .i64) a140 n141 y134.Ports, RoL encMApiLink a143 n144 y134.Links, RoL encMApiACE a146 n147 y134.ACEs]) (by kernel_rfl)
                      ·
                        rintro ⟨k159, y157⟩ h3
                        cases k159 with
                        | zero => cases h3
                        | succ k159 =>
                          replace h3 : M_crossbuckref05_Check.l3 y135 y130 (k159 + 1) y157 = some y158 := h3
                          rw [M_crossbuckref05_Check.l3.eq_2] at h3
                          show Dn E 119 [] _ [(1, .pointer (some ⟨b101, 0, none⟩)), (4, .slice a131 b132 b133), (5, .int .i64 y135), (7, .int .i64 y157)] [RoL (encI .i64) a1 n2 x1, RoL encMApiLink a4 n5 x2, RoL encMApiACE a7 n8 x3, P_MApiTopo b101 y134, OwnS 112 2 a131 b132 b133 (flat encT112 y130), R]
                          refine dn_seq ?_
                          refine dn_seq ?_
                          refine dn_reg ?_
                          refine dl_t rfl rfl rfl (op_move rfl) ?_
                          refine dl_t rfl rfl rfl (op_move rfl) ?_
                          refine dl_t rfl rfl rfl (op_lss rfl rfl) ?_
                          refine dn_done ?_
                          refine dn_then ?_
                          refine dn_cond (p := y157 < y135) rfl (fun hc160 => ?_) (fun hc160 => ?_)
                          ·
                            replace h3 := pos_some hc160 h3
                            refine dn_skip ?_
                            refine dn_then ?_
                            refine dn_seq ?_
                            refine dn_block ?_
                            refine dn_seq ?_
                            refine dn_any (N := 9) (l0 := #[false, false, false, false, false, false, false, false, false]) mixed (fun i => false) (fun _ => [OwnS 112 2 a131 b132 b133 (flat encT112 y130)]) [4] rfl rfl rfl ?_
                            refine ds_t (listed' := #[true, false, false, false, false, false, false, false, false]) 0 (by kernel_rfl) rfl rfl rfl rfl rfl (op_move rfl) ?_
                            refine ds_t (listed' := #[true, true, false, false, false, false, false, false, false]) 1 (by kernel_rfl) rfl rfl rfl rfl rfl (op_move rfl) ?_
                            obtain ⟨y161, hy161, h3⟩ := bind_some h3
                            obtain ⟨hz161, hw161, hx161⟩ := nth_some hy161
                            refine ds_of ?_
                            refine dn_ownN encT112_len rfl 4 rfl (fun hn162 => ?_)
                            refine of_ds ?_
                            refine ds_of ?_
                            refine dn_ownLSome 4 rfl (by omega) (fun hs163 => ?_)
                            refine of_ds ?_
                            refine ds_t (listed' := #[true, true, true, false, false, false, false, false, false]) 2 (by kernel_rfl) rfl rfl rfl rfl rfl (op_indexS (k := y157.toNat * 2) hs163 rfl rfl el_109 sz_112 (by omega) (by omega) rfl) ?_
                            refine ds_t (listed' := #[true, true, true, false, true, false, false, false, false]) 4 (by kernel_rfl) rfl rfl rfl rfl rfl (op_move rfl) ?_
                            refine ds_t (listed' := #[true, true, true, false, true, true, false, false, false]) 5 (by kernel_rfl) rfl rfl rfl rfl rfl (op_move rfl) ?_
                            obtain ⟨y164, hy164, h3⟩ := bind_some h3
                            obtain ⟨hz164, hw164, hx164⟩ := nth_some hy164
                            refine ds_of ?_
                            refine dn_ownN encT112_len rfl 4 rfl (fun hn165 => ?_)
                            refine of_ds ?_
                            refine ds_of ?_
                            refine dn_ownLSome 4 rfl (by omega) (fun hs166 => ?_)
                            refine of_ds ?_
                            refine ds_t (listed' := #[true, true, true, false, true, true, true, false, false]) 6 (by kernel_rfl) rfl rfl rfl rfl rfl (op_indexS (k := y135.toNat * 2) hs166 rfl rfl el_109 sz_112 (by omega) (by omega) rfl) ?_
                            refine ds_r (listed' := #[true, true, true, true, true, true, true, false, false]) 3 (by kernel_rfl) rfl rfl rfl rfl rfl 0 rfl (op_loadON (vs := [.int .i64 y161.e0, .int .i64 y161.e1]) rfl ag_112 sz_112 (by omega) (flat_part encT112_len hx161) rfl) ?_
                            refine ds_r (listed' := #[true, true, true, true, true, true, true, true, false]) 7 (by kernel_rfl) rfl rfl rfl rfl rfl 0 rfl (op_loadON (vs := [.int .i64 y164.e0, .int .i64 y164.e1]) rfl ag_112 sz_112 (by omega) (flat_part encT112_len hx164) rfl) ?_
                            refine ds_t (listed' := #[true, true, true, true, true, true, true, true, true]) 8 (by kernel_rfl) rfl rfl rfl rfl rfl (op_aggeql (p := y161 = y164) rfl rfl eg_112 (fun w => eqs_112 w 9998 y161 y164)) ?_
                            refine ds_done rfl ?_
                            refine dn_then ?_
                            refine dn_cond (p := y161 = y164) rfl (fun hc167 => ?_) (fun hc167 => ?_)
                            ·
                              replace h3 := pos_some hc167 h3
                              refine dn_seq ?_
                              refine dn_reg ?_
                              refine dl_t rfl rfl rfl (op_assign rfl) ?_
                              refine dn_done ?_
                              refine dn_then ?_
                              refine dn_ret ?_
                              refine dn_inBR ?_
                              refine dn_thenR ?_
                              refine dn_thenR ?_
                              replace h3 := Option.some.inj h3
                              subst h3
                              replace h2 := elim_l h2
                              try dsimp only at h2
                              refine dn_inBR ?_
                              refine dn_inBR ?_
                              refine dn_thenR ?_
                              refine dn_thenR ?_
                              replace h2 := Option.some.inj h2
                              subst h2
                              replace h := elim_r h
                              replace h := elim_l h
                              try dsimp only at h
                              refine dn_inBR ?_
                              refine dn_thenR ?_
                              replace h := Option.some.inj h
                              subst h
                              exact dn_end () rfl rfl (by rfl) trivial [0, 0, 0, 2] (Rs := [P_MApiTopo b101 y134, OwnS 112 2 a131 b132 b133 (flat encT112 y130)]) (by kernel_rfl) (.inl rfl)
                            ·
                              replace h3 := neg_some hc167 h3
                              refine dn_skip ?_
                              refine dn_inB ?_
                              refine dn_then ?_
                              refine dn_reg ?_
                              refine dl_t rfl rfl rfl (op_move rfl) ?_
                              refine dl_t rfl rfl rfl (op_add (z := w64 (y157 + 1)) rfl rfl rfl) ?_
                              refine dl_t rfl rfl rfl (op_assign rfl) ?_
                              refine dn_done ?_
                              refine dn_then ?_
                              exact dn_meet (k159, w64 (y157 + 1)) ⟨Nat.lt_succ_self _, h3⟩ (Less.cons rfl (Less.cons rfl (Less.cons rfl (Less.cons rfl (Less.nil _))))) [0, 0, 0, 0, 0, 0] (Rs := []) (by kernel_rfl)
                          ·
                            replace h3 := neg_some hc160 h3
                            refine dn_exit ?_
                            refine dn_thenX ?_
                            refine dn_thenX ?_
                            replace h3 := Option.some.inj h3
                            subst h3
                            replace h2 := elim_r h2
                            try dsimp only at h2
                            refine dn_inBX ?_
                            refine dn_inB ?_
                            refine dn_then ?_
                            refine dn_reg ?_
                            refine dl_t rfl rfl rfl (op_move rfl) ?_
                            refine dl_t rfl rfl rfl (op_add (z := w64 (y135 + 1)) rfl rfl rfl) ?_
                            refine dl_t rfl rfl rfl (op_assign rfl) ?_
                            refine dn_done ?_
                            refine dn_then ?_
                            exact dn_meet (k137, y134, w64 (y135 + 1)) ⟨Nat.lt_succ_self _, h2⟩ (Less.cons rfl (Less.cons rfl (Less.cons rfl (Less.nil _)))) [0, 0, 0, 0, 0, 0] (Rs := []) (by kernel_rfl)
                  ·
                    replace h2 := neg_some hc139 h2
                    refine dn_exit ?_
                    refine dn_thenX ?_
                    refine dn_thenX ?_
                    replace h2 := Option.some.inj h2
                    subst h2
                    replace h := elim_r h
                    replace h := elim_r h
                    try dsimp only at h
                    refine dn_inBX ?_
                    refine dn_then ?_
                    refine dn_seq ?_
                    refine dn_seq ?_
                    refine dn_reg ?_
                    refine dl_t rfl rfl rfl (op_assign rfl) ?_
                    refine dn_done ?_
                    refine dn_then ?_
                    refine dn_block ?_
                    obtain ⟨y169, h4, h⟩ := bind_some h
                    refine dn_loop (α := Nat × Int) (fun g => M_crossbuckref05_Check.l4 y134 g.1 g.2 = some y169) (fun g => g.1) (fun g => [(1, .pointer (some ⟨b101, 0, none⟩)), (8, .int .i64 g.2)]) (fun g => [RoL (encI .i64) a1 n2 x1, RoL encMApiLink a4 n5 x2, RoL encMApiACE a7 n8 x3, P_MApiTopo b101 y134, R]) ?_ ?_
                    ·
                      exact dn_meet (fuel, 0) h4 (Less.cons rfl (Less.cons rfl (Less.nil _))) [0, 0, 0, 0, 1] (Rs := [OwnS 112 2 a131 b132 b133 (flat encT112 y130)]) (by kernel_rfl)
                    ·
                      rintro ⟨k170, y168⟩ h4
                      cases k170 with
                      | zero => cases h4
                      | succ k170 =>
                        replace h4 : M_crossbuckref05_Check.l4 y134 (k170 + 1) y168 = some y169 := h4
                        rw [M_crossbuckref05_Check.l4.eq_2] at h4
                        show Dn E 119 [] _ [(1, .pointer (some ⟨b101, 0, none⟩)), (8, .int .i64 y168)] [RoL (encI .i64) a1 n2 x1, RoL encMApiLink a4 n5 x2, RoL encMApiACE a7 n8 x3, P_MApiTopo b101 y134, R]
                        refine dn_seq ?_
                        refine dn_seq ?_
                        refine dn_reg ?_
                        refine dl_t rfl rfl rfl (op_move rfl) ?_
                        refine dl_t rfl rfl rfl (op_fieldAddr (i' := 2) rfl fd_53_2 rfl) ?_
                        refine dn_open 3 rfl rfl ?_
                        rintro ⟨a171, n172, c173, a174, n175, c176, a177, n178, c179⟩
                        refine dn_norm (Qs := [Blk b101 (.cells [.slice a171 n172 c173, .slice a174 n175 c176, .slice a177 n178 c179].toArray 53 (0, 0)), RoL (encI .i64) a171 n172 y134.Ports, RoL encMApiLink a174 n175 y134.Links, RoL encMApiACE a177 n178 y134.ACEs, _, _, _, _]) rfl ?_
                        refine dl_r 0 rfl rfl rfl rfl (op_load rfl ag_51 rfl) ?_
                        refine dn_roN 3 rfl (fun hn180 => ?_)
                        refine dl_t rfl rfl rfl (op_len rfl el_51) ?_
                        refine dn_slot (u := .int .i64 ((y134.ACEs.length : Nat) : Int)) 88 rfl (by rw [hn180]) ?_
                        refine dl_t rfl rfl rfl (op_lss rfl rfl) ?_
                        refine dn_done ?_
                        refine dn_then ?_
                        refine dn_cond (p := y168 < ((y134.ACEs.length : Nat) : Int)) rfl (fun hc181 => ?_) (fun hc181 => ?_)
                        ·
                          replace h4 := pos_some hc181 h4
                          refine dn_skip ?_
                          refine dn_then ?_
                          refine dn_seq ?_
                          refine dn_block ?_
                          refine dn_seq ?_
                          refine dn_seq ?_
                          refine dn_any (N := 15) (l0 := #[false, false, false, false, false, false, false, false, false, false, false, false, false, false, false]) mixed (fun i => Nat.beq i 13) (fun s => match s with | 0 => [Blk b101 (.cells [.slice a171 n172 c173, .slice a174 n175 c176, .slice a177 n178 c179].toArray 53 (0, 0)), RoL encMApiACE a177 n178 y134.ACEs] | _ => []) [0, 2] rfl rfl rfl ?_
                          refine ds_t (listed' := #[false, true, false, false, false, false, false, false, false, false, false, false, false, false, false]) 1 (by kernel_rfl) rfl rfl rfl rfl rfl (op_fieldAddr (i' := 2) rfl fd_53_2 rfl) ?_
                          refine ds_t (listed' := #[false, true, false, true, false, false, false, false, false, false, false, false, false, false, false]) 3 (by kernel_rfl) rfl rfl rfl rfl rfl (op_move rfl) ?_
                          refine ds_t (listed' := #[false, true, false, true, false, false, false, true, false, false, false, false, false, false, false]) 7 (by kernel_rfl) rfl rfl rfl rfl rfl (op_fieldAddr (i' := 2) rfl fd_53_2 rfl) ?_
                          refine ds_t (listed' := #[false, true, false, true, false, false, false, true, false, true, false, false, false, false, false]) 9 (by kernel_rfl) rfl rfl rfl rfl rfl (op_move rfl) ?_
                          refine ds_r (listed' := #[true, true, false, true, false, false, false, true, false, true, false, false, false, false, false]) 0 (by kernel_rfl) rfl rfl rfl rfl rfl 0 rfl (op_loadN rfl ag_53 sz_53 rfl rfl) ?_
                          refine ds_r (listed' := #[true, true, true, true, false, false, false, true, false, true, false, false, false, false, false]) 2 (by kernel_rfl) rfl rfl rfl rfl rfl 0 rfl (op_load rfl ag_51 rfl) ?_
                          obtain ⟨y182, hy182, h4⟩ := bind_some h4
                          obtain ⟨hz182, hw182, hx182⟩ := nth_some hy182
                          refine ds_of ?_
                          refine dn_roN 3 rfl (fun hn183 => ?_)
                          refine of_ds ?_
                          refine ds_of ?_
                          refine dn_roLSome encMApiACE_len rfl 3 rfl (by omega) (fun hs184 => ?_)
                          refine of_ds ?_
                          refine ds_t (listed' := #[true, true, true, true, true, false, false, true, false, true, false, false, false, false, false]) 4 (by kernel_rfl) rfl rfl rfl rfl rfl (op_indexS (k := y168.toNat * 13) hs184 rfl rfl el_51 sz_114 (by omega) (by omega) rfl) ?_
                          refine ds_t (listed' := #[true, true, true, true, true, true, false, true, false, true, false, false, false, false, false]) 5 (by kernel_rfl) rfl rfl rfl rfl rfl (op_fieldS (k' := y168.toNat * 13) hs184 rfl fd_114_0 (by first | rfl | omega)) ?_
                          refine ds_r (listed' := #[true, true, true, true, true, true, true, true, false, true, false, false, false, false, false]) 6 (by kernel_rfl) rfl rfl rfl rfl rfl 1 rfl (op_loadL (v := .int .i64 y182.Dev) rfl ag_3 (flat_cell (j := 0) encMApiACE_len hx182 rfl (by first | rfl | omega))) ?_
                          refine ds_r (listed' := #[true, true, true, true, true, true, true, true, true, true, false, false, false, false, false]) 8 (by kernel_rfl) rfl rfl rfl rfl rfl 0 rfl (op_load rfl ag_51 rfl) ?_
                          obtain ⟨y185, hy185, h4⟩ := bind_some h4
                          obtain ⟨hz185, hw185, hx185⟩ := nth_some hy185
                          refine ds_of ?_
                          refine dn_roN 3 rfl (fun hn186 => ?_)
                          refine of_ds ?_
                          refine ds_of ?_
                          refine dn_roLSome encMApiACE_len rfl 3 rfl (by omega) (fun hs187 => ?_)
                          refine of_ds ?_
                          refine ds_t (listed' := #[true, true, true, true, true, true, true, true, true, true, true, false, false, false, false]) 10 (by kernel_rfl) rfl rfl rfl rfl rfl (op_indexS (k := y168.toNat * 13) hs187 rfl rfl el_51 sz_114 (by omega) (by omega) rfl) ?_
                          refine ds_t (listed' := #[true, true, true, true, true, true, true, true, true, true, true, true, false, false, false]) 11 (by kernel_rfl) rfl rfl rfl rfl rfl (op_fieldS (k' := y168.toNat * 13 + 1) hs187 rfl fd_114_1 (by first | rfl | omega)) ?_
                          refine ds_r (listed' := #[true, true, true, true, true, true, true, true, true, true, true, true, true, false, false]) 12 (by kernel_rfl) rfl rfl rfl rfl rfl 1 rfl (op_loadL (v := .int .i64 y185.Port) rfl ag_3 (flat_cell (j := 1) encMApiACE_len hx185 rfl (by first | rfl | omega))) ?_
                          obtain ⟨y188, hy188, h4⟩ := bind_some h4
                          refine ds_x (s' := 1) (listed' := #[true, true, true, true, true, true, true, true, true, true, true, true, true, true, false]) 13 (by kernel_rfl) rfl rfl rfl rfl (op_call (vs := [.agg #[.slice a171 n172 c173, .slice a174 n175 c176, .slice a177 n178 c179], .int .i64 y182.Dev, .int .i64 y185.Port]) cl_37 (T_crossbuckref05_Port a171 n172 c173 a174 n175 c176 a177 n178 c179 y134.Ports y134.Links y134.ACEs y182.Dev y185.Port hy188) rfl [1, 1, 1] (by exact rfl) rfl) [] (fun _ => ⟨_, rfl⟩) ?_
                          rintro ⟨⟩ -
                          refine ds_normv (u := .int .i64 y188) (Qs := [RoL (encI .i64) a171 n172 y134.Ports, RoL encMApiLink a174 n175 y134.Links, RoL encMApiACE a177 n178 y134.ACEs, _, _, _, _, _]) rfl rfl ?_
                          refine ds_t (listed' := #[true, true, true, true, true, true, true, true, true, true, true, true, true, true, true]) 14 (by kernel_rfl) rfl rfl rfl rfl rfl (op_assign rfl) ?_
                          refine ds_done rfl ?_
                          refine dn_then ?_
                          refine dn_seq ?_
                          refine dn_reg ?_
                          refine dl_t rfl rfl rfl (op_move rfl) ?_
                          refine dl_t rfl rfl rfl (op_neq rfl rfl) ?_
                          refine dn_done ?_
                          refine dn_then ?_
                          refine dn_cond (p := ¬ (y188 = 0)) rfl (fun hc189 => ?_) (fun hc189 => ?_)
                          ·
                            replace h4 := pos_some hc189 h4
                            refine dn_seq ?_
                            refine dn_reg ?_
                            refine dl_t rfl rfl rfl (op_move rfl) ?_
                            refine dl_t rfl rfl rfl (op_assign rfl) ?_
                            refine dn_done ?_
                            refine dn_then ?_
                            refine dn_ret ?_
                            refine dn_thenR ?_
                            refine dn_inBR ?_
                            refine dn_thenR ?_
                            refine dn_thenR ?_
                            replace h4 := Option.some.inj h4
                            subst h4
                            replace h := elim_l h
                            try dsimp only at h
                            refine dn_inBR ?_
                            refine dn_thenR ?_
                            replace h := Option.some.inj h
                            subst h
                            exact dn_end () rfl rfl (by rfl) trivial [4, 4, 4, 4] (Rs := [RoL (encI .i64) a171 n172 y134.Ports, RoL encMApiLink a174 n175 y134.Links, RoL encMApiACE a177 n178 y134.ACEs, Blk b101 (.cells [.slice a171 n172 c173, .slice a174 n175 c176, .slice a177 n178 c179].toArray 53 (0, 0))]) (by kernel_rfl) (.inl rfl)
                          ·
                            replace h4 := neg_some hc189 h4
                            refine dn_skip ?_
                            refine dn_then ?_
                            refine dn_seq ?_
                            refine dn_reg ?_
                            refine dl_t rfl rfl rfl (op_fieldAddr (i' := 2) rfl fd_53_2 rfl) ?_
                            refine dl_r 3 rfl rfl rfl rfl (op_load rfl ag_51 rfl) ?_
                            refine dl_t rfl rfl rfl (op_move rfl) ?_
                            obtain ⟨y190, hy190, h4⟩ := bind_some h4
                            obtain ⟨hz190, hw190, hx190⟩ := nth_some hy190
                            refine dn_roN 2 rfl (fun hn191 => ?_)
                            refine dn_roLSome encMApiACE_len rfl 2 rfl (by omega) (fun hs192 => ?_)
                            refine dl_t rfl rfl rfl (op_indexS (k := y168.toNat * 13) hs192 rfl rfl el_51 sz_114 (by omega) (by omega) rfl) ?_
                            refine dl_t rfl rfl rfl (op_fieldS (k' := y168.toNat * 13 + 4) hs192 rfl fd_114_4 (by first | rfl | omega)) ?_
                            refine dl_r 2 rfl rfl rfl rfl (op_loadLN (vs := [.int .u32 y190.F.Dst.Addr, .int .i64 y190.F.Dst.Bits, .int .u32 y190.F.Src.Addr, .int .i64 y190.F.Src.Bits, .int .i64 y190.F.Proto, .int .u16 y190.F.SPort.Low, .int .u16 y190.F.SPort.High, .int .u16 y190.F.DPort.Low, .int .u16 y190.F.DPort.High]) rfl ag_72 sz_72 (flat_sub (off := 4) (q := 9) encMApiACE_len hx190 rfl rfl rfl) rfl rfl) ?_
                            obtain ⟨y193, hy193, h4⟩ := bind_some h4
                            refine dl_e rfl (op_call (vs := [.agg #[.int .u32 y190.F.Dst.Addr, .int .i64 y190.F.Dst.Bits, .int .u32 y190.F.Src.Addr, .int .i64 y190.F.Src.Bits, .int .i64 y190.F.Proto, .int .u16 y190.F.SPort.Low, .int .u16 y190.F.SPort.High, .int .u16 y190.F.DPort.Low, .int .u16 y190.F.DPort.High]]) cl_38 (T_crossbuckref04_Check  y190.F hy193) rfl [] (by exact rfl) rfl) ?_
                            rintro ⟨⟩ -
                            refine dn_normv (u := .int .i64 y193) (Qs := [_, _, _, _, _, _, _, _]) rfl rfl ?_
                            refine dl_t rfl rfl rfl (op_assign rfl) ?_
                            refine dn_done ?_
                            refine dn_then ?_
                            refine dn_seq ?_
                            refine dn_reg ?_
                            refine dl_t rfl rfl rfl (op_move rfl) ?_
                            refine dl_t rfl rfl rfl (op_neq rfl rfl) ?_
                            refine dn_done ?_
                            refine dn_then ?_
                            refine dn_cond (p := ¬ (y193 = 0)) rfl (fun hc194 => ?_) (fun hc194 => ?_)
                            ·
                              replace h4 := pos_some hc194 h4
                              refine dn_seq ?_
                              refine dn_reg ?_
                              refine dl_t rfl rfl rfl (op_move rfl) ?_
                              refine dl_t rfl rfl rfl (op_assign rfl) ?_
                              refine dn_done ?_
                              refine dn_then ?_
                              refine dn_ret ?_
                              refine dn_inBR ?_
                              refine dn_thenR ?_
                              refine dn_thenR ?_
                              replace h4 := Option.some.inj h4
                              subst h4
                              replace h := elim_r h
                              replace h := elim_l h
                              try dsimp only at h
                              refine dn_inBR ?_
                              refine dn_thenR ?_
                              replace h := Option.some.inj h
                              subst h
                              exact dn_end () rfl rfl (by rfl) trivial [4, 4, 4, 4] (Rs := [RoL (encI .i64) a171 n172 y134.Ports, RoL encMApiLink a174 n175 y134.Links, RoL encMApiACE a177 n178 y134.ACEs, Blk b101 (.cells [.slice a171 n172 c173, .slice a174 n175 c176, .slice a177 n178 c179].toArray 53 (0, 0))]) (by kernel_rfl) (.inl rfl)
                            ·
                              replace h4 := neg_some hc194 h4
                              refine dn_skip ?_
                              refine dn_inB ?_
                              refine dn_then ?_
                              refine dn_reg ?_
                              refine dl_t rfl rfl rfl (op_move rfl) ?_
                              refine dl_t rfl rfl rfl (op_add (z := w64 (y168 + 1)) rfl rfl rfl) ?_
                              refine dl_t rfl rfl rfl (op_assign rfl) ?_
                              refine dn_done ?_
                              refine dn_then ?_
                              refine dn_roDup 0 rfl ?_
                              refine dn_norm (Qs := [_, _, _, _, _, _, _, _, _]) rfl ?_
                              refine dn_roDup 2 rfl ?_
                              refine dn_norm (Qs := [_, _, _, _, _, _, _, _, _, _]) rfl ?_
                              refine dn_roDup 4 rfl ?_
                              refine dn_norm (Qs := [_, _, _, _, _, _, _, _, _, _, _]) rfl ?_
                              refine dn_shutR (Q := P_MApiTopo b101 y134) rfl (a171, n172, c173, a174, n175, c176, a177, n178, c179) [6, 2, 1, 0] (Rs := [RoL (encI .i64) a171 n172 y134.Ports, RoL encMApiLink a174 n175 y134.Links, RoL encMApiACE a177 n178 y134.ACEs, RoL (encI .i64) a1 n2 x1, RoL encMApiLink a4 n5 x2, RoL encMApiACE a7 n8 x3, R]) (by kernel_rfl) ?_
                              refine dn_norm (Qs := [_, _, _, _, _, _, _, _]) rfl ?_
                              exact dn_meet (k170, w64 (y168 + 1)) ⟨Nat.lt_succ_self _, h4⟩ (Less.cons rfl (Less.cons rfl (Less.nil _))) [4, 4, 4, 0, 3] (Rs := [RoL (encI .i64) a171 n172 y134.Ports, RoL encMApiLink a174 n175 y134.Links, RoL encMApiACE a177 n178 y134.ACEs]) (by kernel_rfl)
                        ·
                          replace h4 := neg_some hc181 h4
                          refine dn_exit ?_
                          refine dn_thenX ?_
                          refine dn_thenX ?_
                          replace h4 := Option.some.inj h4
                          subst h4
                          replace h := elim_r h
                          replace h := elim_r h
                          try dsimp only at h
                          refine dn_inBX ?_
                          refine dn_then ?_
                          refine dn_seq ?_
                          refine dn_reg ?_
                          refine dl_t rfl rfl rfl (op_assign rfl) ?_
                          refine dn_done ?_
                          refine dn_then ?_
                          refine dn_ret ?_
                          replace h := Option.some.inj h
                          subst h
                          exact dn_end () rfl rfl (by rfl) trivial [4, 4, 4, 4] (Rs := [Blk b101 (.cells [.slice a171 n172 c173, .slice a174 n175 c176, .slice a177 n178 c179].toArray 53 (0, 0)), RoL (encI .i64) a171 n172 y134.Ports, RoL encMApiLink a174 n175 y134.Links, RoL encMApiACE a177 n178 y134.ACEs]) (by kernel_rfl) (.inl rfl)
def M_crossbucklaw20_Light (x1 : List Int) (x2 : List MApiLink) (x3 : List MApiACE) (x4 : Int) : Option (Bool) := (M_crossbucklaw05_Light x1 x2 x3).bind fun y102 => if ¬ (y102 = true) then (some false) else ((M_crossbuckref05_Check x1 x2 x3).bind fun y104 => if ¬ (y104 = 0) then (some false) else (if (3 : Int) < ((x3.length : Nat) : Int) then (some false) else (if x4 < 0 then (some false) else (some true))))
set_option maxHeartbeats 1000000 in
theorem T_crossbucklaw20_Light (a1 : Option Addr) (n2 : Nat) (c3 : Nat) (a4 : Option Addr) (n5 : Nat) (c6 : Nat) (a7 : Option Addr) (n8 : Nat) (c9 : Nat) (x1 : List Int) (x2 : List MApiLink) (x3 : List MApiACE) (x4 : Int) {r : Bool} (h : M_crossbucklaw20_Light x1 x2 x3 x4 = some r) : Tri Tryz.prog 20 [.agg #[.slice a1 n2 c3, .slice a4 n5 c6, .slice a7 n8 c9], .slice none 0 0, .int .i64 x4].toArray [RoL (encI .i64) a1 n2 x1, RoL encMApiLink a4 n5 x2, RoL encMApiACE a7 n8 x3] (X := Unit) (fun _ => .bool r) (fun _ => True) (fun _ => [RoL (encI .i64) a1 n2 x1, RoL encMApiLink a4 n5 x2, RoL encMApiACE a7 n8 x3]) := by
  unfold M_crossbucklaw20_Light at h
  refine tri_intro (n := 44) (vs := [.agg #[.slice a1 n2 c3, .slice a4 n5 c6, .slice a7 n8 c9], .slice none 0 0, .int .i64 x4]) Tryz.func20 rfl rfl rfl (fun R E => ?_)
  show Dn E 44 [] _ [(0, .agg #[.slice a1 n2 c3, .slice a4 n5 c6, .slice a7 n8 c9]), (1, .slice none 0 0), (2, .int .i64 x4)] [RoL (encI .i64) a1 n2 x1, RoL encMApiLink a4 n5 x2, RoL encMApiACE a7 n8 x3, R]
  refine dn_seq ?_
  refine dn_reg ?_
  refine dl_e rfl (op_box (vs := [.slice a1 n2 c3, .slice a4 n5 c6, .slice a7 n8 c9]) rfl rfl rfl) ?_
  rintro b101 -
  refine dn_norm (Qs := [_, _, _, _, _]) rfl ?_
  refine dl_t rfl rfl rfl (op_assign rfl) ?_
  refine dn_done ?_
  refine dn_then ?_
  refine dn_seq ?_
  refine dn_seq ?_
  refine dn_reg ?_
  refine dl_r 0 rfl rfl rfl rfl (op_loadN rfl ag_53 sz_53 rfl rfl) ?_
  obtain ⟨y102, hy102, h⟩ := bind_some h
  refine dl_e rfl (op_call (vs := [.agg #[.slice a1 n2 c3, .slice a4 n5 c6, .slice a7 n8 c9]]) cl_25 (T_crossbucklaw05_Light a1 n2 c3 a4 n5 c6 a7 n8 c9 x1 x2 x3 hy102) rfl [1, 1, 1] (by exact rfl) rfl) ?_
  rintro ⟨⟩ -
  refine dn_normv (u := .bool y102) (Qs := [RoL (encI .i64) a1 n2 x1, RoL encMApiLink a4 n5 x2, RoL encMApiACE a7 n8 x3, _, _]) rfl rfl ?_
  refine dn_slot (u := .bool (decide (y102 = true))) 11 rfl (bdec _) ?_
  refine dl_t rfl rfl rfl (op_not rfl) ?_
  refine dl_t rfl rfl rfl (op_move rfl) ?_
  refine dn_test (p := ¬ (y102 = true)) 13 rfl (fun hc103 => ?_) (fun hc103 => ?_)
  ·
    replace h := pos_some hc103 h
    refine dl_no rfl rfl rfl rfl (by decide) rfl rfl ?_
    refine dl_no rfl rfl rfl rfl (by decide) rfl rfl ?_
    refine dl_no rfl rfl rfl rfl (by decide) rfl rfl ?_
    refine dl_t rfl rfl rfl (op_pick (b := true) rfl rfl) ?_
    refine dl_t rfl rfl rfl (op_move rfl) ?_
    refine dl_no rfl rfl rfl rfl (by decide) rfl rfl ?_
    refine dl_no rfl rfl rfl rfl (by decide) rfl rfl ?_
    refine dl_no rfl rfl rfl rfl (by decide) rfl rfl ?_
    refine dl_no rfl rfl rfl rfl (by decide) rfl rfl ?_
    refine dl_t rfl rfl rfl (op_pick (b := true) rfl rfl) ?_
    refine dl_t rfl rfl rfl (op_move rfl) ?_
    refine dl_no rfl rfl rfl rfl (by decide) rfl rfl ?_
    refine dl_no rfl rfl rfl rfl (by decide) rfl rfl ?_
    refine dl_no rfl rfl rfl rfl (by decide) rfl rfl ?_
    refine dl_no rfl rfl rfl rfl (by decide) rfl rfl ?_
    refine dl_t rfl rfl rfl (op_pick (b := true) rfl rfl) ?_
    refine dn_done ?_
    refine dn_then ?_
    refine dn_cond_true rfl ?_
    refine dn_seq ?_
    refine dn_reg ?_
    refine dl_t rfl rfl rfl (op_assign rfl) ?_
    refine dn_done ?_
    refine dn_then ?_
    refine dn_ret ?_
    refine dn_thenR ?_
    replace h := Option.some.inj h
    subst h
    exact dn_end () rfl rfl (by rfl) trivial [0, 0, 0, 1] (Rs := [Blk b101 (.cells [.slice a1 n2 c3, .slice a4 n5 c6, .slice a7 n8 c9].toArray 53 (0, 0))]) (by kernel_rfl) (.inl rfl)
  ·
    replace h := neg_some hc103 h
    refine dl_wr 3 rfl rfl rfl rfl rfl rfl rfl (op_loadN rfl ag_53 sz_53 rfl rfl) ?_
    obtain ⟨y104, hy104, h⟩ := bind_some h
    refine dl_we rfl rfl rfl rfl (op_call (vs := [.agg #[.slice a1 n2 c3, .slice a4 n5 c6, .slice a7 n8 c9]]) cl_26 (T_crossbuckref05_Check a1 n2 c3 a4 n5 c6 a7 n8 c9 x1 x2 x3 hy104) rfl [0, 0, 0] (by exact rfl) rfl) ?_
    rintro ⟨⟩ -
    refine dn_normv (u := .int .i64 y104) (Qs := [RoL (encI .i64) a1 n2 x1, RoL encMApiLink a4 n5 x2, RoL encMApiACE a7 n8 x3, _, _]) rfl rfl ?_
    refine dl_wt rfl rfl rfl rfl rfl rfl (op_neq rfl rfl) ?_
    refine dl_t rfl rfl rfl (op_pick (b := false) rfl rfl) ?_
    refine dl_t rfl rfl rfl (op_move rfl) ?_
    refine dn_test (p := ¬ (y104 = 0)) 18 rfl (fun hc105 => ?_) (fun hc105 => ?_)
    ·
      replace h := pos_some hc105 h
      refine dl_no rfl rfl rfl rfl (by decide) rfl rfl ?_
      refine dl_no rfl rfl rfl rfl (by decide) rfl rfl ?_
      refine dl_no rfl rfl rfl rfl (by decide) rfl rfl ?_
      refine dl_no rfl rfl rfl rfl (by decide) rfl rfl ?_
      refine dl_t rfl rfl rfl (op_pick (b := true) rfl rfl) ?_
      refine dl_t rfl rfl rfl (op_move rfl) ?_
      refine dl_no rfl rfl rfl rfl (by decide) rfl rfl ?_
      refine dl_no rfl rfl rfl rfl (by decide) rfl rfl ?_
      refine dl_no rfl rfl rfl rfl (by decide) rfl rfl ?_
      refine dl_no rfl rfl rfl rfl (by decide) rfl rfl ?_
      refine dl_t rfl rfl rfl (op_pick (b := true) rfl rfl) ?_
      refine dn_done ?_
      refine dn_then ?_
      refine dn_cond_true rfl ?_
      refine dn_seq ?_
      refine dn_reg ?_
      refine dl_t rfl rfl rfl (op_assign rfl) ?_
      refine dn_done ?_
      refine dn_then ?_
      refine dn_ret ?_
      refine dn_thenR ?_
      replace h := Option.some.inj h
      subst h
      exact dn_end () rfl rfl (by rfl) trivial [0, 0, 0, 1] (Rs := [Blk b101 (.cells [.slice a1 n2 c3, .slice a4 n5 c6, .slice a7 n8 c9].toArray 53 (0, 0))]) (by kernel_rfl) (.inl rfl)
    ·
      replace h := neg_some hc105 h
      refine dl_wt rfl rfl rfl rfl rfl rfl (op_fieldAddr (i' := 2) rfl fd_53_2 rfl) ?_
      refine dl_wr 3 rfl rfl rfl rfl rfl rfl rfl (op_load rfl ag_51 rfl) ?_
      refine dn_roN 2 rfl (fun hn106 => ?_)
      refine dl_wt rfl rfl rfl rfl rfl rfl (op_len rfl el_51) ?_
      refine dn_slot (u := .int .i64 ((x3.length : Nat) : Int)) 21 rfl (by rw [hn106]) ?_
      refine dl_wt rfl rfl rfl rfl rfl rfl (op_gtr rfl rfl) ?_
      refine dl_t rfl rfl rfl (op_pick (b := false) rfl rfl) ?_
      refine dl_t rfl rfl rfl (op_move rfl) ?_
      refine dn_test (p := (3 : Int) < ((x3.length : Nat) : Int)) 24 rfl (fun hc107 => ?_) (fun hc107 => ?_)
      ·
        replace h := pos_some hc107 h
        refine dl_no rfl rfl rfl rfl (by decide) rfl rfl ?_
        refine dl_no rfl rfl rfl rfl (by decide) rfl rfl ?_
        refine dl_no rfl rfl rfl rfl (by decide) rfl rfl ?_
        refine dl_no rfl rfl rfl rfl (by decide) rfl rfl ?_
        refine dl_t rfl rfl rfl (op_pick (b := true) rfl rfl) ?_
        refine dn_done ?_
        refine dn_then ?_
        refine dn_cond_true rfl ?_
        refine dn_seq ?_
        refine dn_reg ?_
        refine dl_t rfl rfl rfl (op_assign rfl) ?_
        refine dn_done ?_
        refine dn_then ?_
        refine dn_ret ?_
        refine dn_thenR ?_
        replace h := Option.some.inj h
        subst h
        exact dn_end () rfl rfl (by rfl) trivial [0, 0, 0, 1] (Rs := [Blk b101 (.cells [.slice a1 n2 c3, .slice a4 n5 c6, .slice a7 n8 c9].toArray 53 (0, 0))]) (by kernel_rfl) (.inl rfl)
      ·
        replace h := neg_some hc107 h
        refine dl_wt rfl rfl rfl rfl rfl rfl (op_move rfl) ?_
        refine dl_wt rfl rfl rfl rfl rfl rfl (op_len rfl el_65) ?_
        refine dl_wt rfl rfl rfl rfl rfl rfl (op_move rfl) ?_
        refine dl_wt rfl rfl rfl rfl rfl rfl (op_gtr rfl rfl) ?_
        refine dl_t rfl rfl rfl (op_pick (b := false) rfl rfl) ?_
        refine dn_done ?_
        refine dn_then ?_
        refine dn_cond (p := x4 < 0) rfl (fun hc108 => ?_) (fun hc108 => ?_)
        ·
          replace h := pos_some hc108 h
          refine dn_seq ?_
          refine dn_reg ?_
          refine dl_t rfl rfl rfl (op_assign rfl) ?_
          refine dn_done ?_
          refine dn_then ?_
          refine dn_ret ?_
          refine dn_thenR ?_
          replace h := Option.some.inj h
          subst h
          exact dn_end () rfl rfl (by rfl) trivial [0, 0, 0, 1] (Rs := [Blk b101 (.cells [.slice a1 n2 c3, .slice a4 n5 c6, .slice a7 n8 c9].toArray 53 (0, 0))]) (by kernel_rfl) (.inl rfl)
        ·
          replace h := neg_some hc108 h
          refine dn_skip ?_
          refine dn_then ?_
          refine dn_seq ?_
          refine dn_reg ?_
          refine dl_t rfl rfl rfl (op_assign rfl) ?_
          refine dn_done ?_
          refine dn_then ?_
          refine dn_seq ?_
          refine dn_seq ?_
          refine dn_reg ?_
          refine dl_t rfl rfl rfl (op_move rfl) ?_
          refine dl_t rfl rfl rfl (op_len rfl el_65) ?_
          refine dl_t rfl rfl rfl (op_move rfl) ?_
          refine dn_done ?_
          refine dn_then ?_
          refine dn_block ?_
          refine dn_loop0 ?_
          refine dn_round ?_
          refine dn_seq ?_
          refine dn_reg ?_
          refine dl_t rfl rfl rfl (op_cmpc (b := false) rfl rfl rfl) ?_
          refine dn_done ?_
          refine dn_then ?_
          refine dn_seq ?_
          refine dn_cond_false rfl ?_
          refine dn_exit ?_
          refine dn_thenX ?_
          refine dn_thenX ?_
          refine dn_inBX ?_
          refine dn_then ?_
          refine dn_seq ?_
          refine dn_reg ?_
          refine dl_t rfl rfl rfl (op_assign rfl) ?_
          refine dn_done ?_
          refine dn_then ?_
          refine dn_ret ?_
          replace h := Option.some.inj h
          subst h
          exact dn_end () rfl rfl (by rfl) trivial [0, 0, 0, 1] (Rs := [Blk b101 (.cells [.slice a1 n2 c3, .slice a4 n5 c6, .slice a7 n8 c9].toArray 53 (0, 0))]) (by kernel_rfl) (.inl rfl)
def M_crossbucklaw21_Light (x1 : List Int) (x2 : List MApiLink) (x3 : List MApiACE) (x4 : Int) : Option (Bool) := (M_crossbucklaw20_Light x1 x2 x3 x4).bind fun y102 => some y102
set_option maxHeartbeats 1000000 in
theorem T_crossbucklaw21_Light (a1 : Option Addr) (n2 : Nat) (c3 : Nat) (a4 : Option Addr) (n5 : Nat) (c6 : Nat) (a7 : Option Addr) (n8 : Nat) (c9 : Nat) (x1 : List Int) (x2 : List MApiLink) (x3 : List MApiACE) (x4 : Int) {r : Bool} (h : M_crossbucklaw21_Light x1 x2 x3 x4 = some r) : Tri Tryz.prog 14 [.agg #[.slice a1 n2 c3, .slice a4 n5 c6, .slice a7 n8 c9], .slice none 0 0, .int .i64 x4].toArray [RoL (encI .i64) a1 n2 x1, RoL encMApiLink a4 n5 x2, RoL encMApiACE a7 n8 x3] (X := Unit) (fun _ => .bool r) (fun _ => True) (fun _ => [RoL (encI .i64) a1 n2 x1, RoL encMApiLink a4 n5 x2, RoL encMApiACE a7 n8 x3]) := by
  unfold M_crossbucklaw21_Light at h
  refine tri_intro (n := 38) (vs := [.agg #[.slice a1 n2 c3, .slice a4 n5 c6, .slice a7 n8 c9], .slice none 0 0, .int .i64 x4]) Tryz.func14 rfl rfl rfl (fun R E => ?_)
  show Dn E 38 [] _ [(0, .agg #[.slice a1 n2 c3, .slice a4 n5 c6, .slice a7 n8 c9]), (1, .slice none 0 0), (2, .int .i64 x4)] [RoL (encI .i64) a1 n2 x1, RoL encMApiLink a4 n5 x2, RoL encMApiACE a7 n8 x3, R]
  refine dn_seq ?_
  refine dn_reg ?_
  refine dl_e rfl (op_box (vs := [.slice a1 n2 c3, .slice a4 n5 c6, .slice a7 n8 c9]) rfl rfl rfl) ?_
  rintro b101 -
  refine dn_norm (Qs := [_, _, _, _, _]) rfl ?_
  refine dl_t rfl rfl rfl (op_assign rfl) ?_
  refine dn_done ?_
  refine dn_then ?_
  refine dn_seq ?_
  refine dn_reg ?_
  refine dl_t rfl rfl rfl (op_assign rfl) ?_
  refine dn_done ?_
  refine dn_then ?_
  refine dn_seq ?_
  refine dn_seq ?_
  refine dn_reg ?_
  refine dl_t rfl rfl rfl (op_move rfl) ?_
  refine dl_t rfl rfl rfl (op_len rfl el_64) ?_
  refine dl_t rfl rfl rfl (op_move rfl) ?_
  refine dn_done ?_
  refine dn_then ?_
  refine dn_block ?_
  refine dn_loop0 ?_
  refine dn_round ?_
  refine dn_seq ?_
  refine dn_reg ?_
  refine dl_t rfl rfl rfl (op_cmpc (b := false) rfl rfl rfl) ?_
  refine dn_done ?_
  refine dn_then ?_
  refine dn_seq ?_
  refine dn_cond_false rfl ?_
  refine dn_exit ?_
  refine dn_thenX ?_
  refine dn_thenX ?_
  refine dn_inBX ?_
  refine dn_then ?_
  refine dn_seq ?_
  refine dn_reg ?_
  refine dl_r 0 rfl rfl rfl rfl (op_loadN rfl ag_53 sz_53 rfl rfl) ?_
  refine dl_t rfl rfl rfl (op_move rfl) ?_
  refine dl_t rfl rfl rfl (op_move rfl) ?_
  obtain ⟨y102, hy102, h⟩ := bind_some h
  refine dl_e rfl (op_call (vs := [.agg #[.slice a1 n2 c3, .slice a4 n5 c6, .slice a7 n8 c9], .slice none 0 0, .int .i64 x4]) cl_20 (T_crossbucklaw20_Light a1 n2 c3 a4 n5 c6 a7 n8 c9 x1 x2 x3 x4 hy102) rfl [1, 1, 1] (by exact rfl) rfl) ?_
  rintro ⟨⟩ -
  refine dn_normv (u := .bool y102) (Qs := [RoL (encI .i64) a1 n2 x1, RoL encMApiLink a4 n5 x2, RoL encMApiACE a7 n8 x3, _, _]) rfl rfl ?_
  refine dl_t rfl rfl rfl (op_assign rfl) ?_
  refine dn_done ?_
  refine dn_then ?_
  refine dn_ret ?_
  replace h := Option.some.inj h
  subst h
  exact dn_end () rfl rfl (by rfl) trivial [0, 0, 0, 1] (Rs := [Blk b101 (.cells [.slice a1 n2 c3, .slice a4 n5 c6, .slice a7 n8 c9].toArray 53 (0, 0))]) (by kernel_rfl) (.inl rfl)
def M_topo_Check_1 (x1 : Int) : Option (Bool) := if x1 < 0 then (some true) else (some (decide ((8 : Int) < x1)))
set_option maxHeartbeats 1000000 in
theorem T_topo_Check_1  (x1 : Int) {r : Bool} (h : M_topo_Check_1 x1 = some r) : Tri Tryz.prog 53 [.int .i64 x1].toArray [] (X := Unit) (fun _ => .bool r) (fun _ => True) (fun _ => []) := by
  unfold M_topo_Check_1 at h
  refine tri_intro (n := 9) (vs := [.int .i64 x1]) Tryz.func53 rfl rfl rfl (fun R E => ?_)
  show Dn E 9 [] _ [(0, .int .i64 x1)] [R]
  refine dn_seq ?_
  refine dn_reg ?_
  refine dl_t rfl rfl rfl (op_assign rfl) ?_
  refine dn_done ?_
  refine dn_then ?_
  refine dn_seq ?_
  refine dn_reg ?_
  refine dl_t rfl rfl rfl (op_move rfl) ?_
  refine dl_t rfl rfl rfl (op_lss rfl rfl) ?_
  refine dl_t rfl rfl rfl (op_move rfl) ?_
  refine dn_test (p := x1 < 0) 5 rfl (fun hc101 => ?_) (fun hc101 => ?_)
  ·
    replace h := pos_some hc101 h
    refine dl_no rfl rfl rfl rfl (by decide) rfl rfl ?_
    refine dl_no rfl rfl rfl rfl (by decide) rfl rfl ?_
    refine dl_t rfl rfl rfl (op_pick (b := true) rfl rfl) ?_
    refine dl_t rfl rfl rfl (op_assign rfl) ?_
    refine dn_done ?_
    refine dn_then ?_
    refine dn_ret ?_
    replace h := Option.some.inj h
    subst h
    exact dn_end () rfl rfl (by rfl) trivial [0] (by rfl) (.inl rfl)
  ·
    replace h := neg_some hc101 h
    refine dl_wt rfl rfl rfl rfl rfl rfl (op_move rfl) ?_
    refine dl_wt rfl rfl rfl rfl rfl rfl (op_gtr rfl rfl) ?_
    refine dl_t rfl rfl rfl (op_pick (b := false) rfl rfl) ?_
    refine dl_t rfl rfl rfl (op_assign rfl) ?_
    refine dn_done ?_
    refine dn_then ?_
    refine dn_ret ?_
    replace h := Option.some.inj h
    subst h
    exact dn_end () rfl rfl (by rfl) trivial [0] (by rfl) (.inl rfl)
def M_slices_IndexFunc.l1 (x1 : List Int) : Nat → Int → Option (Int ⊕ Unit)
  | 0, _ => none
  | k + 1, y102 => if y102 < ((x1.length : Nat) : Int) then ((nth x1 y102).bind fun y106 => (M_topo_Check_1 y106).bind fun y109 => if y109 = true then (some (.inl y102)) else (M_slices_IndexFunc.l1 x1 k (w64 (y102 + 1)))) else (some (.inr ()))
def M_slices_IndexFunc (x1 : List Int) : Option (Int) := (M_slices_IndexFunc.l1 x1 fuel 0).bind fun y103 => Sum.elim (fun y103 => some y103) ((fun y103 => some (-1))) y103
set_option maxHeartbeats 1000000 in
theorem T_slices_IndexFunc (a1 : Option Addr) (n2 : Nat) (c3 : Nat) (x1 : List Int) {r : Int} (h : M_slices_IndexFunc x1 = some r) : Tri Tryz.prog 75 [.slice a1 n2 c3, .func (.func 53) #[] #[]].toArray [RoL (encI .i64) a1 n2 x1] (X := Unit) (fun _ => .int .i64 r) (fun _ => True) (fun _ => [RoL (encI .i64) a1 n2 x1]) := by
  unfold M_slices_IndexFunc at h
  refine tri_intro (n := 19) (vs := [.slice a1 n2 c3, .func (.func 53) #[] #[]]) Tryz.func75 rfl rfl rfl (fun R E => ?_)
  show Dn E 19 [] _ [(0, .slice a1 n2 c3), (1, .func (.func 53) #[] #[])] [RoL (encI .i64) a1 n2 x1, R]
  refine dn_seq ?_
  refine dn_reg ?_
  refine dl_t rfl rfl rfl (op_assign rfl) ?_
  refine dn_done ?_
  refine dn_then ?_
  refine dn_seq ?_
  refine dn_seq ?_
  refine dn_reg ?_
  refine dl_t rfl rfl rfl (op_move rfl) ?_
  refine dn_roN 0 rfl (fun hn101 => ?_)
  refine dl_t rfl rfl rfl (op_len rfl el_49) ?_
  refine dn_slot (u := .int .i64 ((x1.length : Nat) : Int)) 7 rfl (by rw [hn101]) ?_
  refine dl_t rfl rfl rfl (op_move rfl) ?_
  refine dn_done ?_
  refine dn_then ?_
  refine dn_block ?_
  obtain ⟨y103, h1, h⟩ := bind_some h
  refine dn_loop (α := Nat × Int) (fun g => M_slices_IndexFunc.l1 x1 g.1 g.2 = some y103) (fun g => g.1) (fun g => [(0, .slice a1 n2 c3), (1, .func (.func 53) #[] #[]), (7, .int .i64 ((x1.length : Nat) : Int)), (8, .int .i64 g.2)]) (fun g => [RoL (encI .i64) a1 n2 x1, R]) ?_ ?_
  ·
    exact dn_meet (fuel, 0) h1 (Less.cons rfl (Less.cons rfl (Less.cons rfl (Less.cons rfl (Less.nil _))))) [0, 0] (by rfl)
  ·
    rintro ⟨k104, y102⟩ h1
    cases k104 with
    | zero => cases h1
    | succ k104 =>
      replace h1 : M_slices_IndexFunc.l1 x1 (k104 + 1) y102 = some y103 := h1
      rw [M_slices_IndexFunc.l1.eq_2] at h1
      show Dn E 19 [] _ [(0, .slice a1 n2 c3), (1, .func (.func 53) #[] #[]), (7, .int .i64 ((x1.length : Nat) : Int)), (8, .int .i64 y102)] [RoL (encI .i64) a1 n2 x1, R]
      refine dn_seq ?_
      refine dn_reg ?_
      refine dl_t rfl rfl rfl (op_lss rfl rfl) ?_
      refine dn_done ?_
      refine dn_then ?_
      refine dn_seq ?_
      refine dn_cond (p := y102 < ((x1.length : Nat) : Int)) rfl (fun hc105 => ?_) (fun hc105 => ?_)
      ·
        replace h1 := pos_some hc105 h1
        refine dn_skip ?_
        refine dn_then ?_
        refine dn_seq ?_
        refine dn_block ?_
        refine dn_seq ?_
        refine dn_reg ?_
        refine dl_t rfl rfl rfl (op_move rfl) ?_
        refine dl_t rfl rfl rfl (op_assign rfl) ?_
        refine dn_done ?_
        refine dn_then ?_
        refine dn_seq ?_
        refine dn_reg ?_
        refine dl_t rfl rfl rfl (op_move rfl) ?_
        refine dl_t rfl rfl rfl (op_move rfl) ?_
        refine dl_t rfl rfl rfl (op_move rfl) ?_
        obtain ⟨y106, hy106, h1⟩ := bind_some h1
        obtain ⟨hz106, hw106, hx106⟩ := nth_some hy106
        refine dn_roN 0 rfl (fun hn107 => ?_)
        refine dn_roLSome (encI_len .i64) rfl 0 rfl (by omega) (fun hs108 => ?_)
        refine dl_t rfl rfl rfl (op_indexS (k := y102.toNat * 1) hs108 rfl rfl el_49 sz_3 (by omega) (by omega) rfl) ?_
        refine dl_r 0 rfl rfl rfl rfl (op_loadL (v := .int .i64 y106) rfl ag_3 (flat_cell (j := 0) (encI_len .i64) hx106 rfl (by first | rfl | omega))) ?_
        obtain ⟨y109, hy109, h1⟩ := bind_some h1
        refine dl_e rfl (op_callv (first := []) (capt := []) (us := [.int .i64 y106]) cl_53 rfl rfl rfl (T_topo_Check_1  y106 hy109) [] (by exact rfl) rfl) ?_
        rintro ⟨⟩ -
        refine dn_normv (u := .bool y109) (Qs := [_, _]) rfl rfl ?_
        refine dn_done ?_
        refine dn_then ?_
        refine dn_slot (u := .bool (decide (y109 = true))) 16 rfl (bdec _) ?_
        refine dn_cond (p := y109 = true) rfl (fun hc110 => ?_) (fun hc110 => ?_)
        ·
          replace h1 := pos_some hc110 h1
          refine dn_seq ?_
          refine dn_reg ?_
          refine dl_t rfl rfl rfl (op_move rfl) ?_
          refine dl_t rfl rfl rfl (op_assign rfl) ?_
          refine dn_done ?_
          refine dn_then ?_
          refine dn_ret ?_
          refine dn_inBR ?_
          refine dn_thenR ?_
          refine dn_thenR ?_
          replace h1 := Option.some.inj h1
          subst h1
          replace h := elim_l h
          try dsimp only at h
          refine dn_inBR ?_
          refine dn_thenR ?_
          replace h := Option.some.inj h
          subst h
          exact dn_end () rfl rfl (by rfl) trivial [0, 0] (by rfl) (.inl rfl)
        ·
          replace h1 := neg_some hc110 h1
          refine dn_skip ?_
          refine dn_inB ?_
          refine dn_then ?_
          refine dn_reg ?_
          refine dl_t rfl rfl rfl (op_add (z := w64 (y102 + 1)) rfl rfl rfl) ?_
          refine dl_t rfl rfl rfl (op_move rfl) ?_
          refine dn_done ?_
          refine dn_then ?_
          exact dn_meet (k104, w64 (y102 + 1)) ⟨Nat.lt_succ_self _, h1⟩ (Less.cons rfl (Less.cons rfl (Less.cons rfl (Less.cons rfl (Less.nil _))))) [0, 0] (by rfl)
      ·
        replace h1 := neg_some hc105 h1
        refine dn_exit ?_
        refine dn_thenX ?_
        refine dn_thenX ?_
        replace h1 := Option.some.inj h1
        subst h1
        replace h := elim_r h
        try dsimp only at h
        refine dn_inBX ?_
        refine dn_then ?_
        refine dn_seq ?_
        refine dn_reg ?_
        refine dl_t rfl rfl rfl (op_assign rfl) ?_
        refine dn_done ?_
        refine dn_then ?_
        refine dn_ret ?_
        replace h := Option.some.inj h
        subst h
        exact dn_end () rfl rfl (by rfl) trivial [0, 0] (by rfl) (.inl rfl)
def M_slices_ContainsFunc (x1 : List Int) : Option (Bool) := (M_slices_IndexFunc x1).bind fun y101 => some (decide ((0 : Int) ≤ y101))
set_option maxHeartbeats 1000000 in
theorem T_slices_ContainsFunc (a1 : Option Addr) (n2 : Nat) (c3 : Nat) (x1 : List Int) {r : Bool} (h : M_slices_ContainsFunc x1 = some r) : Tri Tryz.prog 52 [.slice a1 n2 c3, .func (.func 53) #[] #[]].toArray [RoL (encI .i64) a1 n2 x1] (X := Unit) (fun _ => .bool r) (fun _ => True) (fun _ => [RoL (encI .i64) a1 n2 x1]) := by
  unfold M_slices_ContainsFunc at h
  refine tri_intro (n := 9) (vs := [.slice a1 n2 c3, .func (.func 53) #[] #[]]) Tryz.func52 rfl rfl rfl (fun R E => ?_)
  show Dn E 9 [] _ [(0, .slice a1 n2 c3), (1, .func (.func 53) #[] #[])] [RoL (encI .i64) a1 n2 x1, R]
  refine dn_seq ?_
  refine dn_reg ?_
  refine dl_t rfl rfl rfl (op_assign rfl) ?_
  refine dn_done ?_
  refine dn_then ?_
  refine dn_seq ?_
  refine dn_reg ?_
  refine dl_t rfl rfl rfl (op_move rfl) ?_
  refine dl_t rfl rfl rfl (op_move rfl) ?_
  obtain ⟨y101, hy101, h⟩ := bind_some h
  refine dl_e rfl (op_call (vs := [.slice a1 n2 c3, .func (.func 53) #[] #[]]) cl_75 (T_slices_IndexFunc a1 n2 c3 x1 hy101) rfl [0] (by exact rfl) rfl) ?_
  rintro ⟨⟩ -
  refine dn_normv (u := .int .i64 y101) (Qs := [RoL (encI .i64) a1 n2 x1, _]) rfl rfl ?_
  refine dl_t rfl rfl rfl (op_geq rfl rfl) ?_
  refine dl_t rfl rfl rfl (op_assign rfl) ?_
  refine dn_done ?_
  refine dn_then ?_
  refine dn_ret ?_
  replace h := Option.some.inj h
  subst h
  exact dn_end () rfl rfl (by rfl) trivial [0, 0] (by rfl) (.inl rfl)
def M_topo_Port (x1 : List Int) (x2 : List MApiLink) (x3 : List MApiACE) (x4 : Int) (x5 : Int) : Option (Int) := if x4 < 0 then (some 10) else (if ((x1.length : Nat) : Int) ≤ x4 then (some 10) else (if x5 < 0 then (some 11) else ((nth x1 x4).bind fun y106 => if y106 ≤ x5 then (some 11) else (some 0))))
set_option maxHeartbeats 1000000 in
theorem T_topo_Port (a1 : Option Addr) (n2 : Nat) (c3 : Nat) (a4 : Option Addr) (n5 : Nat) (c6 : Nat) (a7 : Option Addr) (n8 : Nat) (c9 : Nat) (x1 : List Int) (x2 : List MApiLink) (x3 : List MApiACE) (x4 : Int) (x5 : Int) {r : Int} (h : M_topo_Port x1 x2 x3 x4 x5 = some r) : Tri Tryz.prog 55 [.agg #[.slice a1 n2 c3, .slice a4 n5 c6, .slice a7 n8 c9], .int .i64 x4, .int .i64 x5].toArray [RoL (encI .i64) a1 n2 x1, RoL encMApiLink a4 n5 x2, RoL encMApiACE a7 n8 x3] (X := Unit) (fun _ => .int .i64 r) (fun _ => True) (fun _ => [RoL (encI .i64) a1 n2 x1, RoL encMApiLink a4 n5 x2, RoL encMApiACE a7 n8 x3]) := by
  unfold M_topo_Port at h
  refine tri_intro (n := 29) (vs := [.agg #[.slice a1 n2 c3, .slice a4 n5 c6, .slice a7 n8 c9], .int .i64 x4, .int .i64 x5]) Tryz.func55 rfl rfl rfl (fun R E => ?_)
  show Dn E 29 [] _ [(0, .agg #[.slice a1 n2 c3, .slice a4 n5 c6, .slice a7 n8 c9]), (1, .int .i64 x4), (2, .int .i64 x5)] [RoL (encI .i64) a1 n2 x1, RoL encMApiLink a4 n5 x2, RoL encMApiACE a7 n8 x3, R]
  refine dn_seq ?_
  refine dn_reg ?_
  refine dl_e rfl (op_box (vs := [.slice a1 n2 c3, .slice a4 n5 c6, .slice a7 n8 c9]) rfl rfl rfl) ?_
  rintro b101 -
  refine dn_norm (Qs := [_, _, _, _, _]) rfl ?_
  refine dl_t rfl rfl rfl (op_assign rfl) ?_
  refine dn_done ?_
  refine dn_then ?_
  refine dn_seq ?_
  refine dn_block ?_
  refine dn_seq ?_
  refine dn_reg ?_
  refine dl_t rfl rfl rfl (op_move rfl) ?_
  refine dl_t rfl rfl rfl (op_lss rfl rfl) ?_
  refine dl_t rfl rfl rfl (op_move rfl) ?_
  refine dn_test (p := x4 < 0) 10 rfl (fun hc102 => ?_) (fun hc102 => ?_)
  ·
    replace h := pos_some hc102 h
    refine dl_no rfl rfl rfl rfl (by decide) rfl rfl ?_
    refine dl_no rfl rfl rfl rfl (by decide) rfl rfl ?_
    refine dl_no rfl rfl rfl rfl (by decide) rfl rfl ?_
    refine dl_no rfl rfl rfl rfl (by decide) rfl rfl ?_
    refine dl_no rfl rfl rfl rfl (by decide) rfl rfl ?_
    refine dl_t rfl rfl rfl (op_pick (b := true) rfl rfl) ?_
    refine dl_t rfl rfl rfl (op_assign rfl) ?_
    refine dn_done ?_
    refine dn_then ?_
    refine dn_cond_true rfl ?_
    refine dn_seq ?_
    refine dn_reg ?_
    refine dl_t rfl rfl rfl (op_assign rfl) ?_
    refine dn_done ?_
    refine dn_then ?_
    refine dn_ret ?_
    refine dn_inBR ?_
    refine dn_thenR ?_
    replace h := Option.some.inj h
    subst h
    exact dn_end () rfl rfl (by rfl) trivial [1, 1, 1, 1] (Rs := [Blk b101 (.cells [.slice a1 n2 c3, .slice a4 n5 c6, .slice a7 n8 c9].toArray 53 (0, 0))]) (by kernel_rfl) (.inl rfl)
  ·
    replace h := neg_some hc102 h
    refine dl_wt rfl rfl rfl rfl rfl rfl (op_move rfl) ?_
    refine dl_wt rfl rfl rfl rfl rfl rfl (op_fieldAddr (i' := 0) rfl fd_53_0 rfl) ?_
    refine dl_wr 0 rfl rfl rfl rfl rfl rfl rfl (op_load rfl ag_49 rfl) ?_
    refine dn_roN 1 rfl (fun hn103 => ?_)
    refine dl_wt rfl rfl rfl rfl rfl rfl (op_len rfl el_49) ?_
    refine dn_slot (u := .int .i64 ((x1.length : Nat) : Int)) 14 rfl (by rw [hn103]) ?_
    refine dl_wt rfl rfl rfl rfl rfl rfl (op_geq rfl rfl) ?_
    refine dl_t rfl rfl rfl (op_pick (b := false) rfl rfl) ?_
    refine dl_t rfl rfl rfl (op_assign rfl) ?_
    refine dn_done ?_
    refine dn_then ?_
    refine dn_cond (p := ((x1.length : Nat) : Int) ≤ x4) rfl (fun hc104 => ?_) (fun hc104 => ?_)
    ·
      replace h := pos_some hc104 h
      refine dn_seq ?_
      refine dn_reg ?_
      refine dl_t rfl rfl rfl (op_assign rfl) ?_
      refine dn_done ?_
      refine dn_then ?_
      refine dn_ret ?_
      refine dn_inBR ?_
      refine dn_thenR ?_
      replace h := Option.some.inj h
      subst h
      exact dn_end () rfl rfl (by rfl) trivial [1, 1, 1, 1] (Rs := [Blk b101 (.cells [.slice a1 n2 c3, .slice a4 n5 c6, .slice a7 n8 c9].toArray 53 (0, 0))]) (by kernel_rfl) (.inl rfl)
    ·
      replace h := neg_some hc104 h
      refine dn_seq ?_
      refine dn_reg ?_
      refine dl_t rfl rfl rfl (op_move rfl) ?_
      refine dl_t rfl rfl rfl (op_lss rfl rfl) ?_
      refine dl_t rfl rfl rfl (op_move rfl) ?_
      refine dn_test (p := x5 < 0) 20 rfl (fun hc105 => ?_) (fun hc105 => ?_)
      ·
        replace h := pos_some hc105 h
        refine dl_no rfl rfl rfl rfl (by decide) rfl rfl ?_
        refine dl_no rfl rfl rfl rfl (by decide) rfl rfl ?_
        refine dl_no rfl rfl rfl rfl (by decide) rfl rfl ?_
        refine dl_no rfl rfl rfl rfl (by decide) rfl rfl ?_
        refine dl_no rfl rfl rfl rfl (by decide) rfl rfl ?_
        refine dl_no rfl rfl rfl rfl (by decide) rfl rfl ?_
        refine dl_no rfl rfl rfl rfl (by decide) rfl rfl ?_
        refine dl_t rfl rfl rfl (op_pick (b := true) rfl rfl) ?_
        refine dl_t rfl rfl rfl (op_assign rfl) ?_
        refine dn_done ?_
        refine dn_then ?_
        refine dn_cond_true rfl ?_
        refine dn_seq ?_
        refine dn_reg ?_
        refine dl_t rfl rfl rfl (op_assign rfl) ?_
        refine dn_done ?_
        refine dn_then ?_
        refine dn_ret ?_
        refine dn_inBR ?_
        refine dn_thenR ?_
        replace h := Option.some.inj h
        subst h
        exact dn_end () rfl rfl (by rfl) trivial [1, 1, 1, 1] (Rs := [Blk b101 (.cells [.slice a1 n2 c3, .slice a4 n5 c6, .slice a7 n8 c9].toArray 53 (0, 0))]) (by kernel_rfl) (.inl rfl)
      ·
        replace h := neg_some hc105 h
        refine dl_wt rfl rfl rfl rfl rfl rfl (op_move rfl) ?_
        refine dl_wt rfl rfl rfl rfl rfl rfl (op_fieldAddr (i' := 0) rfl fd_53_0 rfl) ?_
        refine dl_wr 0 rfl rfl rfl rfl rfl rfl rfl (op_load rfl ag_49 rfl) ?_
        refine dl_wt rfl rfl rfl rfl rfl rfl (op_move rfl) ?_
        obtain ⟨y106, hy106, h⟩ := bind_some h
        obtain ⟨hz106, hw106, hx106⟩ := nth_some hy106
        refine dn_roN 1 rfl (fun hn107 => ?_)
        refine dn_roLSome (encI_len .i64) rfl 1 rfl (by omega) (fun hs108 => ?_)
        refine dl_wt rfl rfl rfl rfl rfl rfl (op_indexS (k := x4.toNat * 1) hs108 rfl rfl el_49 sz_3 (by omega) (by omega) rfl) ?_
        refine dl_wr 1 rfl rfl rfl rfl rfl rfl rfl (op_loadL (v := .int .i64 y106) rfl ag_3 (flat_cell (j := 0) (encI_len .i64) hx106 rfl (by first | rfl | omega))) ?_
        refine dl_wt rfl rfl rfl rfl rfl rfl (op_geq rfl rfl) ?_
        refine dl_t rfl rfl rfl (op_pick (b := false) rfl rfl) ?_
        refine dl_t rfl rfl rfl (op_assign rfl) ?_
        refine dn_done ?_
        refine dn_then ?_
        refine dn_cond (p := y106 ≤ x5) rfl (fun hc109 => ?_) (fun hc109 => ?_)
        ·
          replace h := pos_some hc109 h
          refine dn_seq ?_
          refine dn_reg ?_
          refine dl_t rfl rfl rfl (op_assign rfl) ?_
          refine dn_done ?_
          refine dn_then ?_
          refine dn_ret ?_
          refine dn_inBR ?_
          refine dn_thenR ?_
          replace h := Option.some.inj h
          subst h
          exact dn_end () rfl rfl (by rfl) trivial [1, 1, 1, 1] (Rs := [Blk b101 (.cells [.slice a1 n2 c3, .slice a4 n5 c6, .slice a7 n8 c9].toArray 53 (0, 0))]) (by kernel_rfl) (.inl rfl)
        ·
          replace h := neg_some hc109 h
          refine dn_skip ?_
          refine dn_inB ?_
          refine dn_then ?_
          refine dn_seq ?_
          refine dn_reg ?_
          refine dl_t rfl rfl rfl (op_assign rfl) ?_
          refine dn_done ?_
          refine dn_then ?_
          refine dn_ret ?_
          replace h := Option.some.inj h
          subst h
          exact dn_end () rfl rfl (by rfl) trivial [1, 1, 1, 1] (Rs := [Blk b101 (.cells [.slice a1 n2 c3, .slice a4 n5 c6, .slice a7 n8 c9].toArray 53 (0, 0))]) (by kernel_rfl) (.inl rfl)
def M_topo_links.l1 (x2 : List MApiLink) (x1 : List Int) (x3 : List MApiACE) : Nat → (List (MTopoEnd × Bool)) → Int → Option (Int ⊕ Unit ⊕ Int ⊕ Unit ⊕ Unit)
  | 0, _, _ => none
  | k + 1, y104, y105 => if y105 < ((x2.length : Nat) : Int) then ((nth x2 y105).bind fun y109 => (M_topo_Port x1 x2 x3 y109.Dev y109.Port).bind fun y114 => if ¬ (y114 = 0) then (some (.inl y114)) else (if fits .i64 ((⟨y109.Dev, y109.Port⟩ : MTopoEnd).vDev) ∧ fits .i64 ((⟨y109.Dev, y109.Port⟩ : MTopoEnd).vPort) then (if ((mget y104 (⟨y109.Dev, y109.Port⟩ : MTopoEnd)).getD false) = true then (some (.inr (.inl ()))) else ((M_topo_Port x1 x2 x3 y109.Peer y109.PeerPort).bind fun y120 => if ¬ (y120 = 0) then (some (.inr (.inr (.inl y120)))) else (if fits .i64 ((⟨y109.Peer, y109.PeerPort⟩ : MTopoEnd).vDev) ∧ fits .i64 ((⟨y109.Peer, y109.PeerPort⟩ : MTopoEnd).vPort) then (if ((mget (mput y104 (⟨y109.Dev, y109.Port⟩ : MTopoEnd) true) (⟨y109.Peer, y109.PeerPort⟩ : MTopoEnd)).getD false) = true then (some (.inr (.inr (.inr (.inl ()))))) else (M_topo_links.l1 x2 x1 x3 k (mput (mput y104 (⟨y109.Dev, y109.Port⟩ : MTopoEnd) true) (⟨y109.Peer, y109.PeerPort⟩ : MTopoEnd) true) (w64 (y105 + 1)))) else none))) else none)) else (some (.inr (.inr (.inr (.inr ())))))
def M_topo_links (x1 : List Int) (x2 : List MApiLink) (x3 : List MApiACE) : Option (Int) := (M_topo_links.l1 x2 x1 x3 fuel ([] : List (MTopoEnd × Bool)) 0).bind fun y106 => Sum.elim (fun y106 => some y106) (Sum.elim (fun y106 => some 12) (Sum.elim (fun y106 => some y106) (Sum.elim (fun y106 => some 12) ((fun y106 => some 0))))) y106
set_option maxHeartbeats 1000000 in
theorem T_topo_links (a1 : Option Addr) (n2 : Nat) (c3 : Nat) (a4 : Option Addr) (n5 : Nat) (c6 : Nat) (a7 : Option Addr) (n8 : Nat) (c9 : Nat) (x1 : List Int) (x2 : List MApiLink) (x3 : List MApiACE) {r : Int} (h : M_topo_links x1 x2 x3 = some r) : Tri Tryz.prog 54 [.agg #[.slice a1 n2 c3, .slice a4 n5 c6, .slice a7 n8 c9]].toArray [RoL (encI .i64) a1 n2 x1, RoL encMApiLink a4 n5 x2, RoL encMApiACE a7 n8 x3] (X := Unit) (fun _ => .int .i64 r) (fun _ => True) (fun _ => [RoL (encI .i64) a1 n2 x1, RoL encMApiLink a4 n5 x2, RoL encMApiACE a7 n8 x3]) := by
  unfold M_topo_links at h
  refine tri_intro (n := 47) (vs := [.agg #[.slice a1 n2 c3, .slice a4 n5 c6, .slice a7 n8 c9]]) Tryz.func54 rfl rfl rfl (fun R E => ?_)
  show Dn E 47 [] _ [(0, .agg #[.slice a1 n2 c3, .slice a4 n5 c6, .slice a7 n8 c9])] [RoL (encI .i64) a1 n2 x1, RoL encMApiLink a4 n5 x2, RoL encMApiACE a7 n8 x3, R]
  refine dn_seq ?_
  refine dn_reg ?_
  refine dl_e rfl (op_box (vs := [.slice a1 n2 c3, .slice a4 n5 c6, .slice a7 n8 c9]) rfl rfl rfl) ?_
  rintro b101 -
  refine dn_norm (Qs := [_, _, _, _, _]) rfl ?_
  refine dl_t rfl rfl rfl (op_assign rfl) ?_
  refine dn_done ?_
  refine dn_then ?_
  refine dn_seq ?_
  refine dn_reg ?_
  refine dl_e rfl (op_makeMap rfl) ?_
  rintro b102 -
  refine dn_norm (Qs := [_, _, _, _, _, _]) rfl ?_
  refine dn_mapNew (fun v : MTopoEnd => fits .i64 v.vDev ∧ fits .i64 v.vPort) (fun v : MTopoEnd => Value.agg (encMTopoEnd v).toArray) (fun v : Bool => Value.bool v) 0 rfl ?_
  refine dn_norm (Qs := [MapS (fun v : MTopoEnd => fits .i64 v.vDev ∧ fits .i64 v.vPort) (fun v : MTopoEnd => Value.agg (encMTopoEnd v).toArray) (fun v : Bool => Value.bool v) b102 ([] : List (MTopoEnd × Bool)), _, _, _, _, _]) rfl ?_
  refine dl_t rfl rfl rfl (op_assign rfl) ?_
  refine dn_done ?_
  refine dn_then ?_
  refine dn_seq ?_
  refine dn_seq ?_
  refine dn_reg ?_
  refine dl_t rfl rfl rfl (op_fieldAddr (i' := 1) rfl fd_53_1 rfl) ?_
  refine dl_r 1 rfl rfl rfl rfl (op_load rfl ag_50 rfl) ?_
  refine dn_roN 3 rfl (fun hn103 => ?_)
  refine dl_t rfl rfl rfl (op_len rfl el_50) ?_
  refine dn_slot (u := .int .i64 ((x2.length : Nat) : Int)) 12 rfl (by rw [hn103]) ?_
  refine dl_t rfl rfl rfl (op_move rfl) ?_
  refine dn_done ?_
  refine dn_then ?_
  refine dn_block ?_
  obtain ⟨y106, h1, h⟩ := bind_some h
  refine dn_loop (α := Nat × (List (MTopoEnd × Bool)) × Int) (fun g => M_topo_links.l1 x2 x1 x3 g.1 g.2.1 g.2.2 = some y106) (fun g => g.1) (fun g => [(1, .pointer (some ⟨b101, 0, none⟩)), (3, .map (some b102)), (11, .slice a4 n5 c6), (12, .int .i64 ((x2.length : Nat) : Int)), (13, .int .i64 g.2.2)]) (fun g => [RoL (encI .i64) a1 n2 x1, RoL encMApiLink a4 n5 x2, RoL encMApiACE a7 n8 x3, Blk b101 (.cells [.slice a1 n2 c3, .slice a4 n5 c6, .slice a7 n8 c9].toArray 53 (0, 0)), MapS (fun v : MTopoEnd => fits .i64 v.vDev ∧ fits .i64 v.vPort) (fun v : MTopoEnd => Value.agg (encMTopoEnd v).toArray) (fun v : Bool => Value.bool v) b102 g.2.1, R]) ?_ ?_
  ·
    exact dn_meet (fuel, ([] : List (MTopoEnd × Bool)), 0) h1 (Less.cons rfl (Less.cons rfl (Less.cons rfl (Less.cons rfl (Less.cons rfl (Less.nil _)))))) [2, 2, 2, 1, 0, 0] (Rs := []) (by kernel_rfl)
  ·
    rintro ⟨k107, y104, y105⟩ h1
    cases k107 with
    | zero => cases h1
    | succ k107 =>
      replace h1 : M_topo_links.l1 x2 x1 x3 (k107 + 1) y104 y105 = some y106 := h1
      rw [M_topo_links.l1.eq_2] at h1
      show Dn E 47 [] _ [(1, .pointer (some ⟨b101, 0, none⟩)), (3, .map (some b102)), (11, .slice a4 n5 c6), (12, .int .i64 ((x2.length : Nat) : Int)), (13, .int .i64 y105)] [RoL (encI .i64) a1 n2 x1, RoL encMApiLink a4 n5 x2, RoL encMApiACE a7 n8 x3, Blk b101 (.cells [.slice a1 n2 c3, .slice a4 n5 c6, .slice a7 n8 c9].toArray 53 (0, 0)), MapS (fun v : MTopoEnd => fits .i64 v.vDev ∧ fits .i64 v.vPort) (fun v : MTopoEnd => Value.agg (encMTopoEnd v).toArray) (fun v : Bool => Value.bool v) b102 y104, R]
      refine dn_seq ?_
      refine dn_reg ?_
      refine dl_t rfl rfl rfl (op_lss rfl rfl) ?_
      refine dn_done ?_
      refine dn_then ?_
      refine dn_seq ?_
      refine dn_cond (p := y105 < ((x2.length : Nat) : Int)) rfl (fun hc108 => ?_) (fun hc108 => ?_)
      ·
        replace h1 := pos_some hc108 h1
        refine dn_skip ?_
        refine dn_then ?_
        refine dn_seq ?_
        refine dn_block ?_
        refine dn_seq ?_
        refine dn_reg ?_
        obtain ⟨y109, hy109, h1⟩ := bind_some h1
        obtain ⟨hz109, hw109, hx109⟩ := nth_some hy109
        refine dn_roN 1 rfl (fun hn110 => ?_)
        refine dn_roLSome encMApiLink_len rfl 1 rfl (by omega) (fun hs111 => ?_)
        refine dl_t rfl rfl rfl (op_indexS (k := y105.toNat * 4) hs111 rfl rfl el_50 sz_148 (by omega) (by omega) rfl) ?_
        refine dl_r 1 rfl rfl rfl rfl (op_loadLN (vs := [.int .i64 y109.Dev, .int .i64 y109.Port, .int .i64 y109.Peer, .int .i64 y109.PeerPort]) rfl ag_148 sz_148 (flat_part encMApiLink_len hx109) rfl rfl) ?_
        refine dl_e rfl (op_alloc (vs := [.int .i64 0, .int .i64 0, .int .i64 0, .int .i64 0]) zr_148 rfl rfl) ?_
        rintro b112 -
        refine dn_norm (Qs := [_, _, _, _, _, _, _]) rfl ?_
        refine dl_s rfl (op_store (vs := [.int .i64 y109.Dev, .int .i64 y109.Port, .int .i64 y109.Peer, .int .i64 y109.PeerPort]) (l' := [.int .i64 y109.Dev, .int .i64 y109.Port, .int .i64 y109.Peer, .int .i64 y109.PeerPort]) 0 rfl rfl rfl sz_148 rfl rfl rfl rfl rfl) ?_
        refine dn_norm (Qs := [_, _, _, _, _, _, _]) rfl ?_
        refine dn_done ?_
        refine dn_then ?_
        refine dn_seq ?_
        refine dn_reg ?_
        refine dl_t rfl rfl rfl (op_fieldAddr (i' := 0) rfl fd_148_0 rfl) ?_
        refine dl_r 0 rfl rfl rfl rfl (op_load rfl ag_3 rfl) ?_
        refine dl_t rfl rfl rfl (op_fieldAddr (i' := 1) rfl fd_148_1 rfl) ?_
        refine dl_r 0 rfl rfl rfl rfl (op_load rfl ag_3 rfl) ?_
        refine dl_t rfl rfl rfl (op_build (qs := [(0, .int .i64 y109.Dev), (1, .int .i64 y109.Port)]) (vs := [.int .i64 y109.Dev, .int .i64 y109.Port]) rfl (by kernel_rfl)) ?_
        refine dl_t rfl rfl rfl (op_fieldAddr (i' := 2) rfl fd_148_2 rfl) ?_
        refine dl_r 0 rfl rfl rfl rfl (op_load rfl ag_3 rfl) ?_
        refine dl_t rfl rfl rfl (op_fieldAddr (i' := 3) rfl fd_148_3 rfl) ?_
        refine dl_r 0 rfl rfl rfl rfl (op_load rfl ag_3 rfl) ?_
        refine dl_t rfl rfl rfl (op_build (qs := [(0, .int .i64 y109.Peer), (1, .int .i64 y109.PeerPort)]) (vs := [.int .i64 y109.Peer, .int .i64 y109.PeerPort]) rfl (by kernel_rfl)) ?_
        refine dl_t rfl rfl rfl (op_build (qs := [(0, .agg #[.int .i64 y109.Dev, .int .i64 y109.Port]), (1, .agg #[.int .i64 y109.Peer, .int .i64 y109.PeerPort])]) (vs := [.int .i64 y109.Dev, .int .i64 y109.Port, .int .i64 y109.Peer, .int .i64 y109.PeerPort]) rfl (by kernel_rfl)) ?_
        refine dl_t rfl rfl rfl (op_move rfl) ?_
        refine dn_done ?_
        refine dn_then ?_
        refine dn_block ?_
        refine dn_loop0 ?_
        refine dn_round ?_
        refine dn_seq ?_
        refine dn_reg ?_
        refine dl_t rfl rfl rfl (op_cmpc (b := true) rfl rfl rfl) ?_
        refine dn_done ?_
        refine dn_then ?_
        refine dn_seq ?_
        refine dn_cond_true rfl ?_
        refine dn_skip ?_
        refine dn_then ?_
        refine dn_seq ?_
        refine dn_block ?_
        refine dn_seq ?_
        refine dn_reg ?_
        refine dl_t rfl rfl rfl (op_indexN (o := 0) (l := [.int .i64 y109.Dev, .int .i64 y109.Port, .int .i64 y109.Peer, .int .i64 y109.PeerPort]) (vs := [.int .i64 y109.Dev, .int .i64 y109.Port]) rfl rfl ar_205 sz_204 ag_204 (by decide) (by decide) rfl rfl) ?_
        refine dl_e rfl (op_alloc (vs := [.int .i64 0, .int .i64 0]) zr_204 rfl rfl) ?_
        rintro b113 -
        refine dn_norm (Qs := [_, _, _, _, _, _, _, _]) rfl ?_
        refine dl_s rfl (op_store (vs := [.int .i64 y109.Dev, .int .i64 y109.Port]) (l' := [.int .i64 y109.Dev, .int .i64 y109.Port]) 0 rfl rfl rfl sz_204 rfl rfl rfl rfl rfl) ?_
        refine dn_norm (Qs := [_, _, _, _, _, _, _, _]) rfl ?_
        refine dn_done ?_
        refine dn_then ?_
        refine dn_seq ?_
        refine dn_seq ?_
        refine dn_reg ?_
        refine dl_r 5 rfl rfl rfl rfl (op_loadN rfl ag_53 sz_53 rfl rfl) ?_
        refine dl_t rfl rfl rfl (op_fieldAddr (i' := 0) rfl fd_204_0 rfl) ?_
        refine dl_r 0 rfl rfl rfl rfl (op_load rfl ag_3 rfl) ?_
        refine dl_t rfl rfl rfl (op_fieldAddr (i' := 1) rfl fd_204_1 rfl) ?_
        refine dl_r 0 rfl rfl rfl rfl (op_load rfl ag_3 rfl) ?_
        obtain ⟨y114, hy114, h1⟩ := bind_some h1
        refine dl_e rfl (op_call (vs := [.agg #[.slice a1 n2 c3, .slice a4 n5 c6, .slice a7 n8 c9], .int .i64 y109.Dev, .int .i64 y109.Port]) cl_55 (T_topo_Port a1 n2 c3 a4 n5 c6 a7 n8 c9 x1 x2 x3 y109.Dev y109.Port hy114) rfl [2, 2, 2] (by exact rfl) rfl) ?_
        rintro ⟨⟩ -
        refine dn_normv (u := .int .i64 y114) (Qs := [RoL (encI .i64) a1 n2 x1, RoL encMApiLink a4 n5 x2, RoL encMApiACE a7 n8 x3, _, _, _, _, _]) rfl rfl ?_
        refine dl_t rfl rfl rfl (op_assign rfl) ?_
        refine dn_done ?_
        refine dn_then ?_
        refine dn_seq ?_
        refine dn_reg ?_
        refine dl_t rfl rfl rfl (op_move rfl) ?_
        refine dl_t rfl rfl rfl (op_neq rfl rfl) ?_
        refine dn_done ?_
        refine dn_then ?_
        refine dn_cond (p := ¬ (y114 = 0)) rfl (fun hc115 => ?_) (fun hc115 => ?_)
        ·
          replace h1 := pos_some hc115 h1
          refine dn_seq ?_
          refine dn_reg ?_
          refine dl_t rfl rfl rfl (op_move rfl) ?_
          refine dl_t rfl rfl rfl (op_assign rfl) ?_
          refine dn_done ?_
          refine dn_then ?_
          refine dn_ret ?_
          refine dn_thenR ?_
          refine dn_inBR ?_
          refine dn_thenR ?_
          refine dn_thenR ?_
          refine dn_inBR ?_
          refine dn_inBR ?_
          refine dn_thenR ?_
          refine dn_thenR ?_
          replace h1 := Option.some.inj h1
          subst h1
          replace h := elim_l h
          try dsimp only at h
          refine dn_inBR ?_
          refine dn_thenR ?_
          replace h := Option.some.inj h
          subst h
          exact dn_end () rfl rfl (by rfl) trivial [0, 0, 0, 4] (Rs := [Blk b113 (.cells [.int .i64 y109.Dev, .int .i64 y109.Port].toArray 204 (0, 0)), Blk b112 (.cells [.int .i64 y109.Dev, .int .i64 y109.Port, .int .i64 y109.Peer, .int .i64 y109.PeerPort].toArray 148 (0, 0)), Blk b101 (.cells [.slice a1 n2 c3, .slice a4 n5 c6, .slice a7 n8 c9].toArray 53 (0, 0)), MapS (fun v : MTopoEnd => fits .i64 v.vDev ∧ fits .i64 v.vPort) (fun v : MTopoEnd => Value.agg (encMTopoEnd v).toArray) (fun v : Bool => Value.bool v) b102 y104]) (by kernel_rfl) (.inl rfl)
        ·
          replace h1 := neg_some hc115 h1
          refine dn_skip ?_
          refine dn_then ?_
          refine dn_seq ?_
          refine dn_seq ?_
          refine dn_reg ?_
          refine dl_t rfl rfl rfl (op_move rfl) ?_
          refine dl_r 3 rfl rfl rfl rfl (op_loadN rfl ag_204 sz_204 rfl rfl) ?_
          obtain ⟨hf116, h1⟩ := guard_some h1
          refine dl_r 6 rfl rfl rfl rfl (op_lookupv (κ := MTopoEnd) (ν := Bool) (k := (⟨y109.Dev, y109.Port⟩ : MTopoEnd)) (u := .bool ((mget y104 (⟨y109.Dev, y109.Port⟩ : MTopoEnd)).getD false)) key_204 mp_202 zr_4 rfl rfl hf116 (mget_map (ev := (fun v : Bool => Value.bool v)) (mget y104 (⟨y109.Dev, y109.Port⟩ : MTopoEnd)) false)) ?_
          refine dn_done ?_
          refine dn_then ?_
          refine dn_slot (u := .bool (decide (((mget y104 (⟨y109.Dev, y109.Port⟩ : MTopoEnd)).getD false) = true))) 42 rfl (bdec _) ?_
          refine dn_cond (p := ((mget y104 (⟨y109.Dev, y109.Port⟩ : MTopoEnd)).getD false) = true) rfl (fun hc117 => ?_) (fun hc117 => ?_)
          ·
            replace h1 := pos_some hc117 h1
            refine dn_seq ?_
            refine dn_reg ?_
            refine dl_t rfl rfl rfl (op_assign rfl) ?_
            refine dn_done ?_
            refine dn_then ?_
            refine dn_ret ?_
            refine dn_thenR ?_
            refine dn_inBR ?_
            refine dn_thenR ?_
            refine dn_thenR ?_
            refine dn_inBR ?_
            refine dn_inBR ?_
            refine dn_thenR ?_
            refine dn_thenR ?_
            replace h1 := Option.some.inj h1
            subst h1
            replace h := elim_r h
            replace h := elim_l h
            try dsimp only at h
            refine dn_inBR ?_
            refine dn_thenR ?_
            replace h := Option.some.inj h
            subst h
            exact dn_end () rfl rfl (by rfl) trivial [0, 0, 0, 4] (Rs := [Blk b113 (.cells [.int .i64 y109.Dev, .int .i64 y109.Port].toArray 204 (0, 0)), Blk b112 (.cells [.int .i64 y109.Dev, .int .i64 y109.Port, .int .i64 y109.Peer, .int .i64 y109.PeerPort].toArray 148 (0, 0)), Blk b101 (.cells [.slice a1 n2 c3, .slice a4 n5 c6, .slice a7 n8 c9].toArray 53 (0, 0)), MapS (fun v : MTopoEnd => fits .i64 v.vDev ∧ fits .i64 v.vPort) (fun v : MTopoEnd => Value.agg (encMTopoEnd v).toArray) (fun v : Bool => Value.bool v) b102 y104]) (by kernel_rfl) (.inl rfl)
          ·
            replace h1 := neg_some hc117 h1
            refine dn_skip ?_
            refine dn_then ?_
            refine dn_reg ?_
            refine dl_t rfl rfl rfl (op_move rfl) ?_
            refine dl_r 3 rfl rfl rfl rfl (op_loadN rfl ag_204 sz_204 rfl rfl) ?_
            refine dl_s rfl (op_mapUpdate (k := (⟨y109.Dev, y109.Port⟩ : MTopoEnd)) (v := true) key_204 mp_202 [6] rfl rfl rfl rfl rfl hf116) ?_
            refine dn_norm (Qs := [_, _, _, _, _, _, _, _]) rfl ?_
            refine dn_done ?_
            refine dn_inB ?_
            refine dn_then ?_
            refine dn_reg ?_
            refine dl_t rfl rfl rfl (op_add (z := 1) rfl rfl (by decide)) ?_
            refine dl_t rfl rfl rfl (op_move rfl) ?_
            refine dn_done ?_
            refine dn_then ?_
            refine dn_round ?_
            refine dn_seq ?_
            refine dn_reg ?_
            refine dl_t rfl rfl rfl (op_cmpc (b := true) rfl rfl rfl) ?_
            refine dn_done ?_
            refine dn_then ?_
            refine dn_seq ?_
            refine dn_cond_true rfl ?_
            refine dn_skip ?_
            refine dn_then ?_
            refine dn_seq ?_
            refine dn_block ?_
            refine dn_seq ?_
            refine dn_reg ?_
            refine dl_t rfl rfl rfl (op_indexN (o := 2) (l := [.int .i64 y109.Dev, .int .i64 y109.Port, .int .i64 y109.Peer, .int .i64 y109.PeerPort]) (vs := [.int .i64 y109.Peer, .int .i64 y109.PeerPort]) rfl rfl ar_205 sz_204 ag_204 (by decide) (by decide) rfl rfl) ?_
            refine dl_e rfl (op_alloc (vs := [.int .i64 0, .int .i64 0]) zr_204 rfl rfl) ?_
            rintro b119 -
            refine dn_norm (Qs := [_, _, _, _, _, _, _, _, _]) rfl ?_
            refine dl_s rfl (op_store (vs := [.int .i64 y109.Peer, .int .i64 y109.PeerPort]) (l' := [.int .i64 y109.Peer, .int .i64 y109.PeerPort]) 0 rfl rfl rfl sz_204 rfl rfl rfl rfl rfl) ?_
            refine dn_norm (Qs := [_, _, _, _, _, _, _, _, _]) rfl ?_
            refine dn_done ?_
            refine dn_then ?_
            refine dn_seq ?_
            refine dn_seq ?_
            refine dn_reg ?_
            refine dl_r 7 rfl rfl rfl rfl (op_loadN rfl ag_53 sz_53 rfl rfl) ?_
            refine dl_t rfl rfl rfl (op_fieldAddr (i' := 0) rfl fd_204_0 rfl) ?_
            refine dl_r 0 rfl rfl rfl rfl (op_load rfl ag_3 rfl) ?_
            refine dl_t rfl rfl rfl (op_fieldAddr (i' := 1) rfl fd_204_1 rfl) ?_
            refine dl_r 0 rfl rfl rfl rfl (op_load rfl ag_3 rfl) ?_
            obtain ⟨y120, hy120, h1⟩ := bind_some h1
            refine dl_e rfl (op_call (vs := [.agg #[.slice a1 n2 c3, .slice a4 n5 c6, .slice a7 n8 c9], .int .i64 y109.Peer, .int .i64 y109.PeerPort]) cl_55 (T_topo_Port a1 n2 c3 a4 n5 c6 a7 n8 c9 x1 x2 x3 y109.Peer y109.PeerPort hy120) rfl [2, 2, 2] (by exact rfl) rfl) ?_
            rintro ⟨⟩ -
            refine dn_normv (u := .int .i64 y120) (Qs := [RoL (encI .i64) a1 n2 x1, RoL encMApiLink a4 n5 x2, RoL encMApiACE a7 n8 x3, _, _, _, _, _, _]) rfl rfl ?_
            refine dl_t rfl rfl rfl (op_assign rfl) ?_
            refine dn_done ?_
            refine dn_then ?_
            refine dn_seq ?_
            refine dn_reg ?_
            refine dl_t rfl rfl rfl (op_move rfl) ?_
            refine dl_t rfl rfl rfl (op_neq rfl rfl) ?_
            refine dn_done ?_
            refine dn_then ?_
            refine dn_cond (p := ¬ (y120 = 0)) rfl (fun hc121 => ?_) (fun hc121 => ?_)
            ·
              replace h1 := pos_some hc121 h1
              refine dn_seq ?_
              refine dn_reg ?_
              refine dl_t rfl rfl rfl (op_move rfl) ?_
              refine dl_t rfl rfl rfl (op_assign rfl) ?_
              refine dn_done ?_
              refine dn_then ?_
              refine dn_ret ?_
              refine dn_thenR ?_
              refine dn_inBR ?_
              refine dn_thenR ?_
              refine dn_thenR ?_
              refine dn_inBR ?_
              refine dn_inBR ?_
              refine dn_thenR ?_
              refine dn_thenR ?_
              replace h1 := Option.some.inj h1
              subst h1
              replace h := elim_r h
              replace h := elim_r h
              replace h := elim_l h
              try dsimp only at h
              refine dn_inBR ?_
              refine dn_thenR ?_
              replace h := Option.some.inj h
              subst h
              exact dn_end () rfl rfl (by rfl) trivial [0, 0, 0, 5] (Rs := [Blk b119 (.cells [.int .i64 y109.Peer, .int .i64 y109.PeerPort].toArray 204 (0, 0)), MapS (fun v : MTopoEnd => fits .i64 v.vDev ∧ fits .i64 v.vPort) (fun v : MTopoEnd => Value.agg (encMTopoEnd v).toArray) (fun v : Bool => Value.bool v) b102 (mput y104 (⟨y109.Dev, y109.Port⟩ : MTopoEnd) true), Blk b113 (.cells [.int .i64 y109.Dev, .int .i64 y109.Port].toArray 204 (0, 0)), Blk b112 (.cells [.int .i64 y109.Dev, .int .i64 y109.Port, .int .i64 y109.Peer, .int .i64 y109.PeerPort].toArray 148 (0, 0)), Blk b101 (.cells [.slice a1 n2 c3, .slice a4 n5 c6, .slice a7 n8 c9].toArray 53 (0, 0))]) (by kernel_rfl) (.inl rfl)
            ·
              replace h1 := neg_some hc121 h1
              refine dn_skip ?_
              refine dn_then ?_
              refine dn_seq ?_
              refine dn_seq ?_
              refine dn_reg ?_
              refine dl_t rfl rfl rfl (op_move rfl) ?_
              refine dl_r 3 rfl rfl rfl rfl (op_loadN rfl ag_204 sz_204 rfl rfl) ?_
              obtain ⟨hf122, h1⟩ := guard_some h1
              refine dl_r 4 rfl rfl rfl rfl (op_lookupv (κ := MTopoEnd) (ν := Bool) (k := (⟨y109.Peer, y109.PeerPort⟩ : MTopoEnd)) (u := .bool ((mget (mput y104 (⟨y109.Dev, y109.Port⟩ : MTopoEnd) true) (⟨y109.Peer, y109.PeerPort⟩ : MTopoEnd)).getD false)) key_204 mp_202 zr_4 rfl rfl hf122 (mget_map (ev := (fun v : Bool => Value.bool v)) (mget (mput y104 (⟨y109.Dev, y109.Port⟩ : MTopoEnd) true) (⟨y109.Peer, y109.PeerPort⟩ : MTopoEnd)) false)) ?_
              refine dn_done ?_
              refine dn_then ?_
              refine dn_slot (u := .bool (decide (((mget (mput y104 (⟨y109.Dev, y109.Port⟩ : MTopoEnd) true) (⟨y109.Peer, y109.PeerPort⟩ : MTopoEnd)).getD false) = true))) 42 rfl (bdec _) ?_
              refine dn_cond (p := ((mget (mput y104 (⟨y109.Dev, y109.Port⟩ : MTopoEnd) true) (⟨y109.Peer, y109.PeerPort⟩ : MTopoEnd)).getD false) = true) rfl (fun hc123 => ?_) (fun hc123 => ?_)
              ·
                replace h1 := pos_some hc123 h1
                refine dn_seq ?_
                refine dn_reg ?_
                refine dl_t rfl rfl rfl (op_assign rfl) ?_
                refine dn_done ?_
                refine dn_then ?_
                refine dn_ret ?_
                refine dn_thenR ?_
                refine dn_inBR ?_
                refine dn_thenR ?_
                refine dn_thenR ?_
                refine dn_inBR ?_
                refine dn_inBR ?_
                refine dn_thenR ?_
                refine dn_thenR ?_
                replace h1 := Option.some.inj h1
                subst h1
                replace h := elim_r h
                replace h := elim_r h
                replace h := elim_r h
                replace h := elim_l h
                try dsimp only at h
                refine dn_inBR ?_
                refine dn_thenR ?_
                replace h := Option.some.inj h
                subst h
                exact dn_end () rfl rfl (by rfl) trivial [0, 0, 0, 5] (Rs := [Blk b119 (.cells [.int .i64 y109.Peer, .int .i64 y109.PeerPort].toArray 204 (0, 0)), MapS (fun v : MTopoEnd => fits .i64 v.vDev ∧ fits .i64 v.vPort) (fun v : MTopoEnd => Value.agg (encMTopoEnd v).toArray) (fun v : Bool => Value.bool v) b102 (mput y104 (⟨y109.Dev, y109.Port⟩ : MTopoEnd) true), Blk b113 (.cells [.int .i64 y109.Dev, .int .i64 y109.Port].toArray 204 (0, 0)), Blk b112 (.cells [.int .i64 y109.Dev, .int .i64 y109.Port, .int .i64 y109.Peer, .int .i64 y109.PeerPort].toArray 148 (0, 0)), Blk b101 (.cells [.slice a1 n2 c3, .slice a4 n5 c6, .slice a7 n8 c9].toArray 53 (0, 0))]) (by kernel_rfl) (.inl rfl)
              ·
                replace h1 := neg_some hc123 h1
                refine dn_skip ?_
                refine dn_then ?_
                refine dn_reg ?_
                refine dl_t rfl rfl rfl (op_move rfl) ?_
                refine dl_r 3 rfl rfl rfl rfl (op_loadN rfl ag_204 sz_204 rfl rfl) ?_
                refine dl_s rfl (op_mapUpdate (k := (⟨y109.Peer, y109.PeerPort⟩ : MTopoEnd)) (v := true) key_204 mp_202 [4] rfl rfl rfl rfl rfl hf122) ?_
                refine dn_norm (Qs := [_, _, _, _, _, _, _, _, _]) rfl ?_
                refine dn_done ?_
                refine dn_inB ?_
                refine dn_then ?_
                refine dn_reg ?_
                refine dl_t rfl rfl rfl (op_add (z := 2) rfl rfl (by decide)) ?_
                refine dl_t rfl rfl rfl (op_move rfl) ?_
                refine dn_done ?_
                refine dn_then ?_
                refine dn_round ?_
                refine dn_seq ?_
                refine dn_reg ?_
                refine dl_t rfl rfl rfl (op_cmpc (b := false) rfl rfl rfl) ?_
                refine dn_done ?_
                refine dn_then ?_
                refine dn_seq ?_
                refine dn_cond_false rfl ?_
                refine dn_exit ?_
                refine dn_thenX ?_
                refine dn_thenX ?_
                refine dn_inBX ?_
                refine dn_inB ?_
                refine dn_then ?_
                refine dn_reg ?_
                refine dl_t rfl rfl rfl (op_add (z := w64 (y105 + 1)) rfl rfl rfl) ?_
                refine dl_t rfl rfl rfl (op_move rfl) ?_
                refine dn_done ?_
                refine dn_then ?_
                exact dn_meet (k107, mput (mput y104 (⟨y109.Dev, y109.Port⟩ : MTopoEnd) true) (⟨y109.Peer, y109.PeerPort⟩ : MTopoEnd) true, w64 (y105 + 1)) ⟨Nat.lt_succ_self _, h1⟩ (Less.cons rfl (Less.cons rfl (Less.cons rfl (Less.cons rfl (Less.cons rfl (Less.nil _)))))) [1, 1, 1, 4, 0, 3] (Rs := [Blk b119 (.cells [.int .i64 y109.Peer, .int .i64 y109.PeerPort].toArray 204 (0, 0)), Blk b113 (.cells [.int .i64 y109.Dev, .int .i64 y109.Port].toArray 204 (0, 0)), Blk b112 (.cells [.int .i64 y109.Dev, .int .i64 y109.Port, .int .i64 y109.Peer, .int .i64 y109.PeerPort].toArray 148 (0, 0))]) (by kernel_rfl)
      ·
        replace h1 := neg_some hc108 h1
        refine dn_exit ?_
        refine dn_thenX ?_
        refine dn_thenX ?_
        replace h1 := Option.some.inj h1
        subst h1
        replace h := elim_r h
        replace h := elim_r h
        replace h := elim_r h
        replace h := elim_r h
        try dsimp only at h
        refine dn_inBX ?_
        refine dn_then ?_
        refine dn_seq ?_
        refine dn_reg ?_
        refine dl_t rfl rfl rfl (op_assign rfl) ?_
        refine dn_done ?_
        refine dn_then ?_
        refine dn_ret ?_
        replace h := Option.some.inj h
        subst h
        exact dn_end () rfl rfl (by rfl) trivial [0, 0, 0, 2] (Rs := [Blk b101 (.cells [.slice a1 n2 c3, .slice a4 n5 c6, .slice a7 n8 c9].toArray 53 (0, 0)), MapS (fun v : MTopoEnd => fits .i64 v.vDev ∧ fits .i64 v.vPort) (fun v : MTopoEnd => Value.agg (encMTopoEnd v).toArray) (fun v : Bool => Value.bool v) b102 y104]) (by kernel_rfl) (.inl rfl)
def M_cidr_mask (x1 : Int) : Option (Int) := if x1 ≤ 0 then (some 0) else (if 0 ≤ w64 (32 - (iMin x1 32)) then (some (bShl .u32 4294967295 (w64 (32 - (iMin x1 32))))) else none)
set_option maxHeartbeats 1000000 in
theorem T_cidr_mask  (x1 : Int) {r : Int} (h : M_cidr_mask x1 = some r) : Tri Tryz.prog 76 [.int .i64 x1].toArray [] (X := Unit) (fun _ => .int .u32 r) (fun _ => True) (fun _ => []) := by
  unfold M_cidr_mask at h
  refine tri_intro (n := 9) (vs := [.int .i64 x1]) Tryz.func76 rfl rfl rfl (fun R E => ?_)
  show Dn E 9 [] _ [(0, .int .i64 x1)] [R]
  refine dn_seq ?_
  refine dn_reg ?_
  refine dl_t rfl rfl rfl (op_assign rfl) ?_
  refine dn_done ?_
  refine dn_then ?_
  refine dn_seq ?_
  refine dn_seq ?_
  refine dn_reg ?_
  refine dl_t rfl rfl rfl (op_move rfl) ?_
  refine dl_t rfl rfl rfl (op_leq rfl rfl) ?_
  refine dn_done ?_
  refine dn_then ?_
  refine dn_cond (p := x1 ≤ 0) rfl (fun hc101 => ?_) (fun hc101 => ?_)
  ·
    replace h := pos_some hc101 h
    refine dn_seq ?_
    refine dn_reg ?_
    refine dl_t rfl rfl rfl (op_assign rfl) ?_
    refine dn_done ?_
    refine dn_then ?_
    refine dn_ret ?_
    refine dn_thenR ?_
    replace h := Option.some.inj h
    subst h
    exact dn_end () rfl rfl (by rfl) trivial [0] (by rfl) (.inl rfl)
  ·
    replace h := neg_some hc101 h
    refine dn_skip ?_
    refine dn_then ?_
    refine dn_seq ?_
    refine dn_reg ?_
    refine dl_t rfl rfl rfl (op_move rfl) ?_
    refine dl_t rfl rfl rfl (op_min (z := (iMin x1 32)) rfl rfl rfl) ?_
    refine dl_t rfl rfl rfl (op_sub (z := w64 (32 - (iMin x1 32))) rfl rfl rfl) ?_
    obtain ⟨hg102, h⟩ := guard_some h
    refine dl_t rfl rfl rfl (op_shl (z := (bShl .u32 4294967295 (w64 (32 - (iMin x1 32))))) rfl rfl hg102 rfl) ?_
    refine dl_t rfl rfl rfl (op_assign rfl) ?_
    refine dn_done ?_
    refine dn_then ?_
    refine dn_ret ?_
    replace h := Option.some.inj h
    subst h
    exact dn_end () rfl rfl (by rfl) trivial [0] (by rfl) (.inl rfl)
def M_cidr_Right (x1 : MApiPrefix) : Option (Bool) := if (0 : Int) ≤ x1.Bits then (if x1.Bits ≤ 32 then ((M_cidr_mask x1.Bits).bind fun y104 => some (decide ((bAndNot .u32 x1.Addr y104) = 0))) else (some false)) else (some false)
set_option maxHeartbeats 1000000 in
theorem T_cidr_Right  (x1 : MApiPrefix) {r : Bool} (h : M_cidr_Right x1 = some r) : Tri Tryz.prog 57 [.agg #[.int .u32 x1.Addr, .int .i64 x1.Bits]].toArray [] (X := Unit) (fun _ => .bool r) (fun _ => True) (fun _ => []) := by
  unfold M_cidr_Right at h
  refine tri_intro (n := 20) (vs := [.agg #[.int .u32 x1.Addr, .int .i64 x1.Bits]]) Tryz.func57 rfl rfl rfl (fun R E => ?_)
  show Dn E 20 [] _ [(0, .agg #[.int .u32 x1.Addr, .int .i64 x1.Bits])] [R]
  refine dn_seq ?_
  refine dn_reg ?_
  refine dl_e rfl (op_box (vs := [.int .u32 x1.Addr, .int .i64 x1.Bits]) rfl rfl rfl) ?_
  rintro b101 -
  refine dn_norm (Qs := [_, _]) rfl ?_
  refine dl_t rfl rfl rfl (op_assign rfl) ?_
  refine dn_done ?_
  refine dn_then ?_
  refine dn_seq ?_
  refine dn_any (N := 18) (l0 := #[false, false, false, false, false, false, false, false, false, false, false, false, false, false, false, false, false, false]) mixed (fun i => false) (fun _ => [Blk b101 (.cells [.int .u32 x1.Addr, .int .i64 x1.Bits].toArray 68 (0, 0))]) [0] rfl rfl rfl ?_
  refine ds_t (listed' := #[true, false, false, false, false, false, false, false, false, false, false, false, false, false, false, false, false, false]) 0 (by kernel_rfl) rfl rfl rfl rfl rfl (op_fieldAddr (i' := 1) rfl fd_68_1 rfl) ?_
  refine ds_r (listed' := #[true, true, false, false, false, false, false, false, false, false, false, false, false, false, false, false, false, false]) 1 (by kernel_rfl) rfl rfl rfl rfl rfl 0 rfl (op_load rfl ag_3 rfl) ?_
  refine ds_t (listed' := #[true, true, true, false, false, false, false, false, false, false, false, false, false, false, false, false, false, false]) 2 (by kernel_rfl) rfl rfl rfl rfl rfl (op_geq rfl rfl) ?_
  refine ds_t (listed' := #[true, true, true, true, false, false, false, false, false, false, false, false, false, false, false, false, false, false]) 3 (by kernel_rfl) rfl rfl rfl rfl rfl (op_move rfl) ?_
  refine ds_test (p := (0 : Int) ≤ x1.Bits) 6 rfl (fun hc102 => ?_) (fun hc102 => ?_)
  ·
    replace h := pos_some hc102 h
    refine ds_wt (listed' := #[true, true, true, true, true, false, false, false, false, false, false, false, false, false, false, false, false, false]) 4 (by kernel_rfl) rfl rfl rfl rfl rfl rfl rfl rfl (op_fieldAddr (i' := 1) rfl fd_68_1 rfl) ?_
    refine ds_wr (listed' := #[true, true, true, true, true, true, false, false, false, false, false, false, false, false, false, false, false, false]) 5 (by kernel_rfl) rfl rfl rfl rfl rfl rfl rfl rfl 0 rfl (op_load rfl ag_3 rfl) ?_
    refine ds_wt (listed' := #[true, true, true, true, true, true, true, false, false, false, false, false, false, false, false, false, false, false]) 6 (by kernel_rfl) rfl rfl rfl rfl rfl rfl rfl rfl (op_leq rfl rfl) ?_
    refine ds_t (listed' := #[true, true, true, true, true, true, true, true, false, false, false, false, false, false, false, false, false, false]) 7 (by kernel_rfl) rfl rfl rfl rfl rfl (op_pick (b := true) rfl rfl) ?_
    refine ds_t (listed' := #[true, true, true, true, true, true, true, true, true, false, false, false, false, false, false, false, false, false]) 8 (by kernel_rfl) rfl rfl rfl rfl rfl (op_move rfl) ?_
    refine ds_test (p := x1.Bits ≤ 32) 11 rfl (fun hc103 => ?_) (fun hc103 => ?_)
    ·
      replace h := pos_some hc103 h
      refine ds_wt (listed' := #[true, true, true, true, true, true, true, true, true, true, false, false, false, false, false, false, false, false]) 9 (by kernel_rfl) rfl rfl rfl rfl rfl rfl rfl rfl (op_fieldAddr (i' := 0) rfl fd_68_0 rfl) ?_
      refine ds_wt (listed' := #[true, true, true, true, true, true, true, true, true, true, false, true, false, false, false, false, false, false]) 11 (by kernel_rfl) rfl rfl rfl rfl rfl rfl rfl rfl (op_fieldAddr (i' := 1) rfl fd_68_1 rfl) ?_
      refine ds_wr (listed' := #[true, true, true, true, true, true, true, true, true, true, true, true, false, false, false, false, false, false]) 10 (by kernel_rfl) rfl rfl rfl rfl rfl rfl rfl rfl 0 rfl (op_load rfl ag_35 rfl) ?_
      refine ds_wr (listed' := #[true, true, true, true, true, true, true, true, true, true, true, true, true, false, false, false, false, false]) 12 (by kernel_rfl) rfl rfl rfl rfl rfl rfl rfl rfl 0 rfl (op_load rfl ag_3 rfl) ?_
      obtain ⟨y104, hy104, h⟩ := bind_some h
      refine ds_wx (s' := 0) (listed' := #[true, true, true, true, true, true, true, true, true, true, true, true, true, true, false, false, false, false]) 13 (by kernel_rfl) rfl rfl rfl rfl rfl rfl rfl (op_call (vs := [.int .i64 x1.Bits]) cl_76 (T_cidr_mask  x1.Bits hy104) rfl [] (by exact rfl) rfl) [0] (fun _ => ⟨_, rfl⟩) ?_
      rintro ⟨⟩ -
      refine ds_normv (u := .int .u32 y104) (Qs := [_, _]) rfl rfl ?_
      refine ds_wt (listed' := #[true, true, true, true, true, true, true, true, true, true, true, true, true, true, true, false, false, false]) 14 (by kernel_rfl) rfl rfl rfl rfl rfl rfl rfl rfl (op_bits (z := (bAndNot .u32 x1.Addr y104)) rfl rfl rfl) ?_
      refine ds_wt (listed' := #[true, true, true, true, true, true, true, true, true, true, true, true, true, true, true, true, false, false]) 15 (by kernel_rfl) rfl rfl rfl rfl rfl rfl rfl rfl (op_eql rfl rfl) ?_
      refine ds_t (listed' := #[true, true, true, true, true, true, true, true, true, true, true, true, true, true, true, true, true, false]) 16 (by kernel_rfl) rfl rfl rfl rfl rfl (op_pick (b := true) rfl rfl) ?_
      refine ds_t (listed' := #[true, true, true, true, true, true, true, true, true, true, true, true, true, true, true, true, true, true]) 17 (by kernel_rfl) rfl rfl rfl rfl rfl (op_assign rfl) ?_
      refine ds_done rfl ?_
      refine dn_then ?_
      refine dn_ret ?_
      replace h := Option.some.inj h
      subst h
      exact dn_end () rfl rfl (by rfl) trivial [1] (by rfl) (.inl rfl)
    ·
      replace h := neg_some hc103 h
      refine ds_no (listed' := #[true, true, true, true, true, true, true, true, true, true, false, false, false, false, false, false, false, false]) 9 (by kernel_rfl) rfl rfl rfl rfl rfl rfl (by decide) rfl rfl ?_
      refine ds_no (listed' := #[true, true, true, true, true, true, true, true, true, true, false, true, false, false, false, false, false, false]) 11 (by kernel_rfl) rfl rfl rfl rfl rfl rfl (by decide) rfl rfl ?_
      refine ds_no (listed' := #[true, true, true, true, true, true, true, true, true, true, true, true, false, false, false, false, false, false]) 10 (by kernel_rfl) rfl rfl rfl rfl rfl rfl (by decide) rfl rfl ?_
      refine ds_no (listed' := #[true, true, true, true, true, true, true, true, true, true, true, true, true, false, false, false, false, false]) 12 (by kernel_rfl) rfl rfl rfl rfl rfl rfl (by decide) rfl rfl ?_
      refine ds_no (listed' := #[true, true, true, true, true, true, true, true, true, true, true, true, true, true, false, false, false, false]) 13 (by kernel_rfl) rfl rfl rfl rfl rfl rfl (by decide) rfl rfl ?_
      refine ds_no (listed' := #[true, true, true, true, true, true, true, true, true, true, true, true, true, true, true, false, false, false]) 14 (by kernel_rfl) rfl rfl rfl rfl rfl rfl (by decide) rfl rfl ?_
      refine ds_no (listed' := #[true, true, true, true, true, true, true, true, true, true, true, true, true, true, true, true, false, false]) 15 (by kernel_rfl) rfl rfl rfl rfl rfl rfl (by decide) rfl rfl ?_
      refine ds_t (listed' := #[true, true, true, true, true, true, true, true, true, true, true, true, true, true, true, true, true, false]) 16 (by kernel_rfl) rfl rfl rfl rfl rfl (op_pick (b := false) rfl rfl) ?_
      refine ds_t (listed' := #[true, true, true, true, true, true, true, true, true, true, true, true, true, true, true, true, true, true]) 17 (by kernel_rfl) rfl rfl rfl rfl rfl (op_assign rfl) ?_
      refine ds_done rfl ?_
      refine dn_then ?_
      refine dn_ret ?_
      replace h := Option.some.inj h
      subst h
      exact dn_end () rfl rfl (by rfl) trivial [1] (by rfl) (.inl rfl)
  ·
    replace h := neg_some hc102 h
    refine ds_no (listed' := #[true, true, true, true, true, false, false, false, false, false, false, false, false, false, false, false, false, false]) 4 (by kernel_rfl) rfl rfl rfl rfl rfl rfl (by decide) rfl rfl ?_
    refine ds_no (listed' := #[true, true, true, true, true, true, false, false, false, false, false, false, false, false, false, false, false, false]) 5 (by kernel_rfl) rfl rfl rfl rfl rfl rfl (by decide) rfl rfl ?_
    refine ds_no (listed' := #[true, true, true, true, true, true, true, false, false, false, false, false, false, false, false, false, false, false]) 6 (by kernel_rfl) rfl rfl rfl rfl rfl rfl (by decide) rfl rfl ?_
    refine ds_t (listed' := #[true, true, true, true, true, true, true, true, false, false, false, false, false, false, false, false, false, false]) 7 (by kernel_rfl) rfl rfl rfl rfl rfl (op_pick (b := false) rfl rfl) ?_
    refine ds_t (listed' := #[true, true, true, true, true, true, true, true, true, false, false, false, false, false, false, false, false, false]) 8 (by kernel_rfl) rfl rfl rfl rfl rfl (op_move rfl) ?_
    refine ds_no (listed' := #[true, true, true, true, true, true, true, true, true, true, false, false, false, false, false, false, false, false]) 9 (by kernel_rfl) rfl rfl rfl rfl rfl rfl (by decide) rfl rfl ?_
    refine ds_no (listed' := #[true, true, true, true, true, true, true, true, true, true, false, true, false, false, false, false, false, false]) 11 (by kernel_rfl) rfl rfl rfl rfl rfl rfl (by decide) rfl rfl ?_
    refine ds_no (listed' := #[true, true, true, true, true, true, true, true, true, true, true, true, false, false, false, false, false, false]) 10 (by kernel_rfl) rfl rfl rfl rfl rfl rfl (by decide) rfl rfl ?_
    refine ds_no (listed' := #[true, true, true, true, true, true, true, true, true, true, true, true, true, false, false, false, false, false]) 12 (by kernel_rfl) rfl rfl rfl rfl rfl rfl (by decide) rfl rfl ?_
    refine ds_no (listed' := #[true, true, true, true, true, true, true, true, true, true, true, true, true, true, false, false, false, false]) 13 (by kernel_rfl) rfl rfl rfl rfl rfl rfl (by decide) rfl rfl ?_
    refine ds_no (listed' := #[true, true, true, true, true, true, true, true, true, true, true, true, true, true, true, false, false, false]) 14 (by kernel_rfl) rfl rfl rfl rfl rfl rfl (by decide) rfl rfl ?_
    refine ds_no (listed' := #[true, true, true, true, true, true, true, true, true, true, true, true, true, true, true, true, false, false]) 15 (by kernel_rfl) rfl rfl rfl rfl rfl rfl (by decide) rfl rfl ?_
    refine ds_t (listed' := #[true, true, true, true, true, true, true, true, true, true, true, true, true, true, true, true, true, false]) 16 (by kernel_rfl) rfl rfl rfl rfl rfl (op_pick (b := false) rfl rfl) ?_
    refine ds_t (listed' := #[true, true, true, true, true, true, true, true, true, true, true, true, true, true, true, true, true, true]) 17 (by kernel_rfl) rfl rfl rfl rfl rfl (op_assign rfl) ?_
    refine ds_done rfl ?_
    refine dn_then ?_
    refine dn_ret ?_
    replace h := Option.some.inj h
    subst h
    exact dn_end () rfl rfl (by rfl) trivial [1] (by rfl) (.inl rfl)
def M_filter_Check (x1 : MApiFilter) : Option (Int) := (M_cidr_Right x1.Dst).bind fun y102 => if ¬ (y102 = true) then (some 13) else ((M_cidr_Right x1.Src).bind fun y104 => if ¬ (y104 = true) then (some 13) else (if x1.Proto < (-1) then (some 5) else (if (255 : Int) < x1.Proto then (some 5) else (if x1.SPort.High < x1.SPort.Low then (some 14) else (if x1.DPort.High < x1.DPort.Low then (some 14) else (some 0))))))
set_option maxHeartbeats 1000000 in
theorem T_filter_Check  (x1 : MApiFilter) {r : Int} (h : M_filter_Check x1 = some r) : Tri Tryz.prog 56 [.agg #[.int .u32 x1.Dst.Addr, .int .i64 x1.Dst.Bits, .int .u32 x1.Src.Addr, .int .i64 x1.Src.Bits, .int .i64 x1.Proto, .int .u16 x1.SPort.Low, .int .u16 x1.SPort.High, .int .u16 x1.DPort.Low, .int .u16 x1.DPort.High]].toArray [] (X := Unit) (fun _ => .int .i64 r) (fun _ => True) (fun _ => []) := by
  unfold M_filter_Check at h
  refine tri_intro (n := 40) (vs := [.agg #[.int .u32 x1.Dst.Addr, .int .i64 x1.Dst.Bits, .int .u32 x1.Src.Addr, .int .i64 x1.Src.Bits, .int .i64 x1.Proto, .int .u16 x1.SPort.Low, .int .u16 x1.SPort.High, .int .u16 x1.DPort.Low, .int .u16 x1.DPort.High]]) Tryz.func56 rfl rfl rfl (fun R E => ?_)
  show Dn E 40 [] _ [(0, .agg #[.int .u32 x1.Dst.Addr, .int .i64 x1.Dst.Bits, .int .u32 x1.Src.Addr, .int .i64 x1.Src.Bits, .int .i64 x1.Proto, .int .u16 x1.SPort.Low, .int .u16 x1.SPort.High, .int .u16 x1.DPort.Low, .int .u16 x1.DPort.High])] [R]
  refine dn_seq ?_
  refine dn_reg ?_
  refine dl_e rfl (op_box (vs := [.int .u32 x1.Dst.Addr, .int .i64 x1.Dst.Bits, .int .u32 x1.Src.Addr, .int .i64 x1.Src.Bits, .int .i64 x1.Proto, .int .u16 x1.SPort.Low, .int .u16 x1.SPort.High, .int .u16 x1.DPort.Low, .int .u16 x1.DPort.High]) rfl rfl rfl) ?_
  rintro b101 -
  refine dn_norm (Qs := [_, _]) rfl ?_
  refine dl_t rfl rfl rfl (op_assign rfl) ?_
  refine dn_done ?_
  refine dn_then ?_
  refine dn_seq ?_
  refine dn_block ?_
  refine dn_seq ?_
  refine dn_reg ?_
  refine dl_t rfl rfl rfl (op_fieldAddr (i' := 0) rfl fd_72_0 rfl) ?_
  refine dl_r 0 rfl rfl rfl rfl (op_loadN rfl ag_68 sz_68 rfl rfl) ?_
  obtain ⟨y102, hy102, h⟩ := bind_some h
  refine dl_e rfl (op_call (vs := [.agg #[.int .u32 x1.Dst.Addr, .int .i64 x1.Dst.Bits]]) cl_57 (T_cidr_Right  x1.Dst hy102) rfl [] (by exact rfl) rfl) ?_
  rintro ⟨⟩ -
  refine dn_normv (u := .bool y102) (Qs := [_, _]) rfl rfl ?_
  refine dn_slot (u := .bool (decide (y102 = true))) 6 rfl (bdec _) ?_
  refine dl_t rfl rfl rfl (op_not rfl) ?_
  refine dl_t rfl rfl rfl (op_move rfl) ?_
  refine dn_test (p := ¬ (y102 = true)) 8 rfl (fun hc103 => ?_) (fun hc103 => ?_)
  ·
    replace h := pos_some hc103 h
    refine dl_no rfl rfl rfl rfl (by decide) rfl rfl ?_
    refine dl_no rfl rfl rfl rfl (by decide) rfl rfl ?_
    refine dl_no rfl rfl rfl rfl (by decide) rfl rfl ?_
    refine dl_no rfl rfl rfl rfl (by decide) rfl rfl ?_
    refine dl_t rfl rfl rfl (op_pick (b := true) rfl rfl) ?_
    refine dl_t rfl rfl rfl (op_assign rfl) ?_
    refine dn_done ?_
    refine dn_then ?_
    refine dn_cond_true rfl ?_
    refine dn_seq ?_
    refine dn_reg ?_
    refine dl_t rfl rfl rfl (op_assign rfl) ?_
    refine dn_done ?_
    refine dn_then ?_
    refine dn_ret ?_
    refine dn_inBR ?_
    refine dn_thenR ?_
    replace h := Option.some.inj h
    subst h
    exact dn_end () rfl rfl (by rfl) trivial [1] (by rfl) (.inl rfl)
  ·
    replace h := neg_some hc103 h
    refine dl_wt rfl rfl rfl rfl rfl rfl (op_fieldAddr (i' := 2) rfl fd_72_1 rfl) ?_
    refine dl_wr 0 rfl rfl rfl rfl rfl rfl rfl (op_loadN rfl ag_68 sz_68 rfl rfl) ?_
    obtain ⟨y104, hy104, h⟩ := bind_some h
    refine dl_we rfl rfl rfl rfl (op_call (vs := [.agg #[.int .u32 x1.Src.Addr, .int .i64 x1.Src.Bits]]) cl_57 (T_cidr_Right  x1.Src hy104) rfl [] (by exact rfl) rfl) ?_
    rintro ⟨⟩ -
    refine dn_normv (u := .bool y104) (Qs := [_, _]) rfl rfl ?_
    refine dn_slot (u := .bool (decide (y104 = true))) 11 rfl (bdec _) ?_
    refine dl_wt rfl rfl rfl rfl rfl rfl (op_not rfl) ?_
    refine dl_t rfl rfl rfl (op_pick (b := false) rfl rfl) ?_
    refine dl_t rfl rfl rfl (op_assign rfl) ?_
    refine dn_done ?_
    refine dn_then ?_
    refine dn_cond (p := ¬ (y104 = true)) rfl (fun hc105 => ?_) (fun hc105 => ?_)
    ·
      replace h := pos_some hc105 h
      refine dn_seq ?_
      refine dn_reg ?_
      refine dl_t rfl rfl rfl (op_assign rfl) ?_
      refine dn_done ?_
      refine dn_then ?_
      refine dn_ret ?_
      refine dn_inBR ?_
      refine dn_thenR ?_
      replace h := Option.some.inj h
      subst h
      exact dn_end () rfl rfl (by rfl) trivial [1] (by rfl) (.inl rfl)
    ·
      replace h := neg_some hc105 h
      refine dn_seq ?_
      refine dn_reg ?_
      refine dl_t rfl rfl rfl (op_fieldAddr (i' := 4) rfl fd_72_2 rfl) ?_
      refine dl_r 0 rfl rfl rfl rfl (op_load rfl ag_3 rfl) ?_
      refine dl_t rfl rfl rfl (op_lss rfl rfl) ?_
      refine dl_t rfl rfl rfl (op_move rfl) ?_
      refine dn_test (p := x1.Proto < (-1)) 18 rfl (fun hc106 => ?_) (fun hc106 => ?_)
      ·
        replace h := pos_some hc106 h
        refine dl_no rfl rfl rfl rfl (by decide) rfl rfl ?_
        refine dl_no rfl rfl rfl rfl (by decide) rfl rfl ?_
        refine dl_no rfl rfl rfl rfl (by decide) rfl rfl ?_
        refine dl_t rfl rfl rfl (op_pick (b := true) rfl rfl) ?_
        refine dl_t rfl rfl rfl (op_assign rfl) ?_
        refine dn_done ?_
        refine dn_then ?_
        refine dn_cond_true rfl ?_
        refine dn_seq ?_
        refine dn_reg ?_
        refine dl_t rfl rfl rfl (op_assign rfl) ?_
        refine dn_done ?_
        refine dn_then ?_
        refine dn_ret ?_
        refine dn_inBR ?_
        refine dn_thenR ?_
        replace h := Option.some.inj h
        subst h
        exact dn_end () rfl rfl (by rfl) trivial [1] (by rfl) (.inl rfl)
      ·
        replace h := neg_some hc106 h
        refine dl_wt rfl rfl rfl rfl rfl rfl (op_fieldAddr (i' := 4) rfl fd_72_2 rfl) ?_
        refine dl_wr 0 rfl rfl rfl rfl rfl rfl rfl (op_load rfl ag_3 rfl) ?_
        refine dl_wt rfl rfl rfl rfl rfl rfl (op_gtr rfl rfl) ?_
        refine dl_t rfl rfl rfl (op_pick (b := false) rfl rfl) ?_
        refine dl_t rfl rfl rfl (op_assign rfl) ?_
        refine dn_done ?_
        refine dn_then ?_
        refine dn_cond (p := (255 : Int) < x1.Proto) rfl (fun hc107 => ?_) (fun hc107 => ?_)
        ·
          replace h := pos_some hc107 h
          refine dn_seq ?_
          refine dn_reg ?_
          refine dl_t rfl rfl rfl (op_assign rfl) ?_
          refine dn_done ?_
          refine dn_then ?_
          refine dn_ret ?_
          refine dn_inBR ?_
          refine dn_thenR ?_
          replace h := Option.some.inj h
          subst h
          exact dn_end () rfl rfl (by rfl) trivial [1] (by rfl) (.inl rfl)
        ·
          replace h := neg_some hc107 h
          refine dn_seq ?_
          refine dn_reg ?_
          refine dl_t rfl rfl rfl (op_fieldAddr (i' := 5) rfl fd_72_3 rfl) ?_
          refine dl_t rfl rfl rfl (op_fieldAddr (i' := 5) rfl fd_70_0 rfl) ?_
          refine dl_r 0 rfl rfl rfl rfl (op_load rfl ag_36 rfl) ?_
          refine dl_t rfl rfl rfl (op_fieldAddr (i' := 5) rfl fd_72_3 rfl) ?_
          refine dl_t rfl rfl rfl (op_fieldAddr (i' := 6) rfl fd_70_1 rfl) ?_
          refine dl_r 0 rfl rfl rfl rfl (op_load rfl ag_36 rfl) ?_
          refine dl_t rfl rfl rfl (op_gtr rfl rfl) ?_
          refine dl_t rfl rfl rfl (op_move rfl) ?_
          refine dn_test (p := x1.SPort.High < x1.SPort.Low) 31 rfl (fun hc108 => ?_) (fun hc108 => ?_)
          ·
            replace h := pos_some hc108 h
            refine dl_no rfl rfl rfl rfl (by decide) rfl rfl ?_
            refine dl_no rfl rfl rfl rfl (by decide) rfl rfl ?_
            refine dl_no rfl rfl rfl rfl (by decide) rfl rfl ?_
            refine dl_no rfl rfl rfl rfl (by decide) rfl rfl ?_
            refine dl_no rfl rfl rfl rfl (by decide) rfl rfl ?_
            refine dl_no rfl rfl rfl rfl (by decide) rfl rfl ?_
            refine dl_no rfl rfl rfl rfl (by decide) rfl rfl ?_
            refine dl_t rfl rfl rfl (op_pick (b := true) rfl rfl) ?_
            refine dl_t rfl rfl rfl (op_assign rfl) ?_
            refine dn_done ?_
            refine dn_then ?_
            refine dn_cond_true rfl ?_
            refine dn_seq ?_
            refine dn_reg ?_
            refine dl_t rfl rfl rfl (op_assign rfl) ?_
            refine dn_done ?_
            refine dn_then ?_
            refine dn_ret ?_
            refine dn_inBR ?_
            refine dn_thenR ?_
            replace h := Option.some.inj h
            subst h
            exact dn_end () rfl rfl (by rfl) trivial [1] (by rfl) (.inl rfl)
          ·
            replace h := neg_some hc108 h
            refine dl_wt rfl rfl rfl rfl rfl rfl (op_fieldAddr (i' := 7) rfl fd_72_4 rfl) ?_
            refine dl_wt rfl rfl rfl rfl rfl rfl (op_fieldAddr (i' := 7) rfl fd_70_0 rfl) ?_
            refine dl_wr 0 rfl rfl rfl rfl rfl rfl rfl (op_load rfl ag_36 rfl) ?_
            refine dl_wt rfl rfl rfl rfl rfl rfl (op_fieldAddr (i' := 7) rfl fd_72_4 rfl) ?_
            refine dl_wt rfl rfl rfl rfl rfl rfl (op_fieldAddr (i' := 8) rfl fd_70_1 rfl) ?_
            refine dl_wr 0 rfl rfl rfl rfl rfl rfl rfl (op_load rfl ag_36 rfl) ?_
            refine dl_wt rfl rfl rfl rfl rfl rfl (op_gtr rfl rfl) ?_
            refine dl_t rfl rfl rfl (op_pick (b := false) rfl rfl) ?_
            refine dl_t rfl rfl rfl (op_assign rfl) ?_
            refine dn_done ?_
            refine dn_then ?_
            refine dn_cond (p := x1.DPort.High < x1.DPort.Low) rfl (fun hc109 => ?_) (fun hc109 => ?_)
            ·
              replace h := pos_some hc109 h
              refine dn_seq ?_
              refine dn_reg ?_
              refine dl_t rfl rfl rfl (op_assign rfl) ?_
              refine dn_done ?_
              refine dn_then ?_
              refine dn_ret ?_
              refine dn_inBR ?_
              refine dn_thenR ?_
              replace h := Option.some.inj h
              subst h
              exact dn_end () rfl rfl (by rfl) trivial [1] (by rfl) (.inl rfl)
            ·
              replace h := neg_some hc109 h
              refine dn_skip ?_
              refine dn_inB ?_
              refine dn_then ?_
              refine dn_seq ?_
              refine dn_reg ?_
              refine dl_t rfl rfl rfl (op_assign rfl) ?_
              refine dn_done ?_
              refine dn_then ?_
              refine dn_ret ?_
              replace h := Option.some.inj h
              subst h
              exact dn_end () rfl rfl (by rfl) trivial [1] (by rfl) (.inl rfl)
def M_topo_Check.l1 (x3 : List MApiACE) (x1 : List Int) (x2 : List MApiLink) : Nat → Int → Option (Int ⊕ Int ⊕ Unit)
  | 0, _ => none
  | k + 1, y113 => if y113 < ((x3.length : Nat) : Int) then ((nth x3 y113).bind fun y117 => (M_topo_Port x1 x2 x3 y117.Dev y117.Port).bind fun y121 => if ¬ (y121 = 0) then (some (.inl y121)) else ((M_filter_Check y117.F).bind fun y123 => if ¬ (y123 = 0) then (some (.inr (.inl y123))) else (M_topo_Check.l1 x3 x1 x2 k (w64 (y113 + 1))))) else (some (.inr (.inr ())))
def M_topo_Check (x1 : List Int) (x2 : List MApiLink) (x3 : List MApiACE) : Option (Int) := if ((x1.length : Nat) : Int) = 0 then (some 15) else (if (16 : Int) < ((x1.length : Nat) : Int) then (some 15) else (if (32 : Int) < ((x3.length : Nat) : Int) then (some 15) else ((M_slices_ContainsFunc x1).bind fun y108 => if y108 = true then (some 11) else ((M_topo_links x1 x2 x3).bind fun y110 => if ¬ (y110 = 0) then (some y110) else ((M_topo_Check.l1 x3 x1 x2 fuel 0).bind fun y114 => Sum.elim (fun y114 => some y114) (Sum.elim (fun y114 => some y114) ((fun y114 => some 0))) y114)))))
set_option maxHeartbeats 1000000 in
theorem T_topo_Check (a1 : Option Addr) (n2 : Nat) (c3 : Nat) (a4 : Option Addr) (n5 : Nat) (c6 : Nat) (a7 : Option Addr) (n8 : Nat) (c9 : Nat) (x1 : List Int) (x2 : List MApiLink) (x3 : List MApiACE) {r : Int} (h : M_topo_Check x1 x2 x3 = some r) : Tri Tryz.prog 39 [.agg #[.slice a1 n2 c3, .slice a4 n5 c6, .slice a7 n8 c9]].toArray [RoL (encI .i64) a1 n2 x1, RoL encMApiLink a4 n5 x2, RoL encMApiACE a7 n8 x3] (X := Unit) (fun _ => .int .i64 r) (fun _ => True) (fun _ => [RoL (encI .i64) a1 n2 x1, RoL encMApiLink a4 n5 x2, RoL encMApiACE a7 n8 x3]) := by
  unfold M_topo_Check at h
  refine tri_intro (n := 55) (vs := [.agg #[.slice a1 n2 c3, .slice a4 n5 c6, .slice a7 n8 c9]]) Tryz.func39 rfl rfl rfl (fun R E => ?_)
  show Dn E 55 [] _ [(0, .agg #[.slice a1 n2 c3, .slice a4 n5 c6, .slice a7 n8 c9])] [RoL (encI .i64) a1 n2 x1, RoL encMApiLink a4 n5 x2, RoL encMApiACE a7 n8 x3, R]
  refine dn_seq ?_
  refine dn_reg ?_
  refine dl_e rfl (op_box (vs := [.slice a1 n2 c3, .slice a4 n5 c6, .slice a7 n8 c9]) rfl rfl rfl) ?_
  rintro b101 -
  refine dn_norm (Qs := [_, _, _, _, _]) rfl ?_
  refine dl_t rfl rfl rfl (op_assign rfl) ?_
  refine dn_done ?_
  refine dn_then ?_
  refine dn_seq ?_
  refine dn_seq ?_
  refine dn_reg ?_
  refine dl_t rfl rfl rfl (op_fieldAddr (i' := 0) rfl fd_53_0 rfl) ?_
  refine dl_r 0 rfl rfl rfl rfl (op_load rfl ag_49 rfl) ?_
  refine dn_roN 1 rfl (fun hn102 => ?_)
  refine dl_t rfl rfl rfl (op_len rfl el_49) ?_
  refine dn_slot (u := .int .i64 ((x1.length : Nat) : Int)) 10 rfl (by rw [hn102]) ?_
  refine dl_t rfl rfl rfl (op_eql rfl rfl) ?_
  refine dl_t rfl rfl rfl (op_move rfl) ?_
  refine dn_test (p := ((x1.length : Nat) : Int) = 0) 12 rfl (fun hc103 => ?_) (fun hc103 => ?_)
  ·
    replace h := pos_some hc103 h
    refine dl_no rfl rfl rfl rfl (by decide) rfl rfl ?_
    refine dl_no rfl rfl rfl rfl (by decide) rfl rfl ?_
    refine dl_no rfl rfl rfl rfl (by decide) rfl rfl ?_
    refine dl_no rfl rfl rfl rfl (by decide) rfl rfl ?_
    refine dl_t rfl rfl rfl (op_pick (b := true) rfl rfl) ?_
    refine dl_t rfl rfl rfl (op_move rfl) ?_
    refine dl_no rfl rfl rfl rfl (by decide) rfl rfl ?_
    refine dl_no rfl rfl rfl rfl (by decide) rfl rfl ?_
    refine dl_no rfl rfl rfl rfl (by decide) rfl rfl ?_
    refine dl_no rfl rfl rfl rfl (by decide) rfl rfl ?_
    refine dl_t rfl rfl rfl (op_pick (b := true) rfl rfl) ?_
    refine dn_done ?_
    refine dn_then ?_
    refine dn_cond_true rfl ?_
    refine dn_seq ?_
    refine dn_reg ?_
    refine dl_t rfl rfl rfl (op_assign rfl) ?_
    refine dn_done ?_
    refine dn_then ?_
    refine dn_ret ?_
    refine dn_thenR ?_
    replace h := Option.some.inj h
    subst h
    exact dn_end () rfl rfl (by rfl) trivial [1, 1, 1, 1] (Rs := [Blk b101 (.cells [.slice a1 n2 c3, .slice a4 n5 c6, .slice a7 n8 c9].toArray 53 (0, 0))]) (by kernel_rfl) (.inl rfl)
  ·
    replace h := neg_some hc103 h
    refine dl_wt rfl rfl rfl rfl rfl rfl (op_fieldAddr (i' := 0) rfl fd_53_0 rfl) ?_
    refine dl_wr 0 rfl rfl rfl rfl rfl rfl rfl (op_load rfl ag_49 rfl) ?_
    refine dn_roN 1 rfl (fun hn104 => ?_)
    refine dl_wt rfl rfl rfl rfl rfl rfl (op_len rfl el_49) ?_
    refine dn_slot (u := .int .i64 ((x1.length : Nat) : Int)) 15 rfl (by rw [hn104]) ?_
    refine dl_wt rfl rfl rfl rfl rfl rfl (op_gtr rfl rfl) ?_
    refine dl_t rfl rfl rfl (op_pick (b := false) rfl rfl) ?_
    refine dl_t rfl rfl rfl (op_move rfl) ?_
    refine dn_test (p := (16 : Int) < ((x1.length : Nat) : Int)) 18 rfl (fun hc105 => ?_) (fun hc105 => ?_)
    ·
      replace h := pos_some hc105 h
      refine dl_no rfl rfl rfl rfl (by decide) rfl rfl ?_
      refine dl_no rfl rfl rfl rfl (by decide) rfl rfl ?_
      refine dl_no rfl rfl rfl rfl (by decide) rfl rfl ?_
      refine dl_no rfl rfl rfl rfl (by decide) rfl rfl ?_
      refine dl_t rfl rfl rfl (op_pick (b := true) rfl rfl) ?_
      refine dn_done ?_
      refine dn_then ?_
      refine dn_cond_true rfl ?_
      refine dn_seq ?_
      refine dn_reg ?_
      refine dl_t rfl rfl rfl (op_assign rfl) ?_
      refine dn_done ?_
      refine dn_then ?_
      refine dn_ret ?_
      refine dn_thenR ?_
      replace h := Option.some.inj h
      subst h
      exact dn_end () rfl rfl (by rfl) trivial [1, 1, 1, 1] (Rs := [Blk b101 (.cells [.slice a1 n2 c3, .slice a4 n5 c6, .slice a7 n8 c9].toArray 53 (0, 0))]) (by kernel_rfl) (.inl rfl)
    ·
      replace h := neg_some hc105 h
      refine dl_wt rfl rfl rfl rfl rfl rfl (op_fieldAddr (i' := 2) rfl fd_53_2 rfl) ?_
      refine dl_wr 0 rfl rfl rfl rfl rfl rfl rfl (op_load rfl ag_51 rfl) ?_
      refine dn_roN 3 rfl (fun hn106 => ?_)
      refine dl_wt rfl rfl rfl rfl rfl rfl (op_len rfl el_51) ?_
      refine dn_slot (u := .int .i64 ((x3.length : Nat) : Int)) 21 rfl (by rw [hn106]) ?_
      refine dl_wt rfl rfl rfl rfl rfl rfl (op_gtr rfl rfl) ?_
      refine dl_t rfl rfl rfl (op_pick (b := false) rfl rfl) ?_
      refine dn_done ?_
      refine dn_then ?_
      refine dn_cond (p := (32 : Int) < ((x3.length : Nat) : Int)) rfl (fun hc107 => ?_) (fun hc107 => ?_)
      ·
        replace h := pos_some hc107 h
        refine dn_seq ?_
        refine dn_reg ?_
        refine dl_t rfl rfl rfl (op_assign rfl) ?_
        refine dn_done ?_
        refine dn_then ?_
        refine dn_ret ?_
        refine dn_thenR ?_
        replace h := Option.some.inj h
        subst h
        exact dn_end () rfl rfl (by rfl) trivial [1, 1, 1, 1] (Rs := [Blk b101 (.cells [.slice a1 n2 c3, .slice a4 n5 c6, .slice a7 n8 c9].toArray 53 (0, 0))]) (by kernel_rfl) (.inl rfl)
      ·
        replace h := neg_some hc107 h
        refine dn_skip ?_
        refine dn_then ?_
        refine dn_seq ?_
        refine dn_seq ?_
        refine dn_reg ?_
        refine dl_t rfl rfl rfl (op_fieldAddr (i' := 0) rfl fd_53_0 rfl) ?_
        refine dl_r 0 rfl rfl rfl rfl (op_load rfl ag_49 rfl) ?_
        obtain ⟨y108, hy108, h⟩ := bind_some h
        refine dl_e rfl (op_call (vs := [.slice a1 n2 c3, .func (.func 53) #[] #[]]) cl_52 (T_slices_ContainsFunc a1 n2 c3 x1 hy108) rfl [1] (by exact rfl) rfl) ?_
        rintro ⟨⟩ -
        refine dn_normv (u := .bool y108) (Qs := [RoL (encI .i64) a1 n2 x1, _, _, _, _]) rfl rfl ?_
        refine dn_done ?_
        refine dn_then ?_
        refine dn_slot (u := .bool (decide (y108 = true))) 26 rfl (bdec _) ?_
        refine dn_cond (p := y108 = true) rfl (fun hc109 => ?_) (fun hc109 => ?_)
        ·
          replace h := pos_some hc109 h
          refine dn_seq ?_
          refine dn_reg ?_
          refine dl_t rfl rfl rfl (op_assign rfl) ?_
          refine dn_done ?_
          refine dn_then ?_
          refine dn_ret ?_
          refine dn_thenR ?_
          replace h := Option.some.inj h
          subst h
          exact dn_end () rfl rfl (by rfl) trivial [0, 1, 1, 1] (Rs := [Blk b101 (.cells [.slice a1 n2 c3, .slice a4 n5 c6, .slice a7 n8 c9].toArray 53 (0, 0))]) (by kernel_rfl) (.inl rfl)
        ·
          replace h := neg_some hc109 h
          refine dn_skip ?_
          refine dn_then ?_
          refine dn_seq ?_
          refine dn_seq ?_
          refine dn_reg ?_
          refine dl_r 1 rfl rfl rfl rfl (op_loadN rfl ag_53 sz_53 rfl rfl) ?_
          obtain ⟨y110, hy110, h⟩ := bind_some h
          refine dl_e rfl (op_call (vs := [.agg #[.slice a1 n2 c3, .slice a4 n5 c6, .slice a7 n8 c9]]) cl_54 (T_topo_links a1 n2 c3 a4 n5 c6 a7 n8 c9 x1 x2 x3 hy110) rfl [0, 1, 1] (by exact rfl) rfl) ?_
          rintro ⟨⟩ -
          refine dn_normv (u := .int .i64 y110) (Qs := [RoL (encI .i64) a1 n2 x1, RoL encMApiLink a4 n5 x2, RoL encMApiACE a7 n8 x3, _, _]) rfl rfl ?_
          refine dl_t rfl rfl rfl (op_assign rfl) ?_
          refine dn_done ?_
          refine dn_then ?_
          refine dn_seq ?_
          refine dn_reg ?_
          refine dl_t rfl rfl rfl (op_move rfl) ?_
          refine dl_t rfl rfl rfl (op_neq rfl rfl) ?_
          refine dn_done ?_
          refine dn_then ?_
          refine dn_cond (p := ¬ (y110 = 0)) rfl (fun hc111 => ?_) (fun hc111 => ?_)
          ·
            replace h := pos_some hc111 h
            refine dn_seq ?_
            refine dn_reg ?_
            refine dl_t rfl rfl rfl (op_move rfl) ?_
            refine dl_t rfl rfl rfl (op_assign rfl) ?_
            refine dn_done ?_
            refine dn_then ?_
            refine dn_ret ?_
            refine dn_thenR ?_
            replace h := Option.some.inj h
            subst h
            exact dn_end () rfl rfl (by rfl) trivial [0, 0, 0, 1] (Rs := [Blk b101 (.cells [.slice a1 n2 c3, .slice a4 n5 c6, .slice a7 n8 c9].toArray 53 (0, 0))]) (by kernel_rfl) (.inl rfl)
          ·
            replace h := neg_some hc111 h
            refine dn_skip ?_
            refine dn_then ?_
            refine dn_seq ?_
            refine dn_seq ?_
            refine dn_reg ?_
            refine dl_t rfl rfl rfl (op_fieldAddr (i' := 2) rfl fd_53_2 rfl) ?_
            refine dl_r 3 rfl rfl rfl rfl (op_load rfl ag_51 rfl) ?_
            refine dn_roN 2 rfl (fun hn112 => ?_)
            refine dl_t rfl rfl rfl (op_len rfl el_51) ?_
            refine dn_slot (u := .int .i64 ((x3.length : Nat) : Int)) 34 rfl (by rw [hn112]) ?_
            refine dl_t rfl rfl rfl (op_move rfl) ?_
            refine dn_done ?_
            refine dn_then ?_
            refine dn_block ?_
            obtain ⟨y114, h1, h⟩ := bind_some h
            refine dn_loop (α := Nat × Int) (fun g => M_topo_Check.l1 x3 x1 x2 g.1 g.2 = some y114) (fun g => g.1) (fun g => [(1, .pointer (some ⟨b101, 0, none⟩)), (33, .slice a7 n8 c9), (34, .int .i64 ((x3.length : Nat) : Int)), (35, .int .i64 g.2)]) (fun g => [RoL (encI .i64) a1 n2 x1, RoL encMApiLink a4 n5 x2, RoL encMApiACE a7 n8 x3, Blk b101 (.cells [.slice a1 n2 c3, .slice a4 n5 c6, .slice a7 n8 c9].toArray 53 (0, 0)), R]) ?_ ?_
            ·
              exact dn_meet (fuel, 0) h1 (Less.cons rfl (Less.cons rfl (Less.cons rfl (Less.cons rfl (Less.nil _))))) [0, 0, 0, 0, 0] (Rs := []) (by kernel_rfl)
            ·
              rintro ⟨k115, y113⟩ h1
              cases k115 with
              | zero => cases h1
              | succ k115 =>
                replace h1 : M_topo_Check.l1 x3 x1 x2 (k115 + 1) y113 = some y114 := h1
                rw [M_topo_Check.l1.eq_2] at h1
                show Dn E 55 [] _ [(1, .pointer (some ⟨b101, 0, none⟩)), (33, .slice a7 n8 c9), (34, .int .i64 ((x3.length : Nat) : Int)), (35, .int .i64 y113)] [RoL (encI .i64) a1 n2 x1, RoL encMApiLink a4 n5 x2, RoL encMApiACE a7 n8 x3, Blk b101 (.cells [.slice a1 n2 c3, .slice a4 n5 c6, .slice a7 n8 c9].toArray 53 (0, 0)), R]
                refine dn_seq ?_
                refine dn_reg ?_
                refine dl_t rfl rfl rfl (op_lss rfl rfl) ?_
                refine dn_done ?_
                refine dn_then ?_
                refine dn_seq ?_
                refine dn_cond (p := y113 < ((x3.length : Nat) : Int)) rfl (fun hc116 => ?_) (fun hc116 => ?_)
                ·
                  replace h1 := pos_some hc116 h1
                  refine dn_skip ?_
                  refine dn_then ?_
                  refine dn_seq ?_
                  refine dn_block ?_
                  refine dn_seq ?_
                  refine dn_reg ?_
                  obtain ⟨y117, hy117, h1⟩ := bind_some h1
                  obtain ⟨hz117, hw117, hx117⟩ := nth_some hy117
                  refine dn_roN 2 rfl (fun hn118 => ?_)
                  refine dn_roLSome encMApiACE_len rfl 2 rfl (by omega) (fun hs119 => ?_)
                  refine dl_t rfl rfl rfl (op_indexS (k := y113.toNat * 13) hs119 rfl rfl el_51 sz_114 (by omega) (by omega) rfl) ?_
                  refine dl_r 2 rfl rfl rfl rfl (op_loadLN (vs := [.int .i64 y117.Dev, .int .i64 y117.Port, .bool y117.In, .bool y117.Permit, .int .u32 y117.F.Dst.Addr, .int .i64 y117.F.Dst.Bits, .int .u32 y117.F.Src.Addr, .int .i64 y117.F.Src.Bits, .int .i64 y117.F.Proto, .int .u16 y117.F.SPort.Low, .int .u16 y117.F.SPort.High, .int .u16 y117.F.DPort.Low, .int .u16 y117.F.DPort.High]) rfl ag_114 sz_114 (flat_part encMApiACE_len hx117) rfl rfl) ?_
                  refine dl_e rfl (op_alloc (vs := [.int .i64 0, .int .i64 0, .bool false, .bool false, .int .u32 0, .int .i64 0, .int .u32 0, .int .i64 0, .int .i64 0, .int .u16 0, .int .u16 0, .int .u16 0, .int .u16 0]) zr_114 rfl rfl) ?_
                  rintro b120 -
                  refine dn_norm (Qs := [_, _, _, _, _, _]) rfl ?_
                  refine dl_s rfl (op_store (vs := [.int .i64 y117.Dev, .int .i64 y117.Port, .bool y117.In, .bool y117.Permit, .int .u32 y117.F.Dst.Addr, .int .i64 y117.F.Dst.Bits, .int .u32 y117.F.Src.Addr, .int .i64 y117.F.Src.Bits, .int .i64 y117.F.Proto, .int .u16 y117.F.SPort.Low, .int .u16 y117.F.SPort.High, .int .u16 y117.F.DPort.Low, .int .u16 y117.F.DPort.High]) (l' := [.int .i64 y117.Dev, .int .i64 y117.Port, .bool y117.In, .bool y117.Permit, .int .u32 y117.F.Dst.Addr, .int .i64 y117.F.Dst.Bits, .int .u32 y117.F.Src.Addr, .int .i64 y117.F.Src.Bits, .int .i64 y117.F.Proto, .int .u16 y117.F.SPort.Low, .int .u16 y117.F.SPort.High, .int .u16 y117.F.DPort.Low, .int .u16 y117.F.DPort.High]) 0 rfl rfl rfl sz_114 rfl rfl rfl rfl rfl) ?_
                  refine dn_norm (Qs := [_, _, _, _, _, _]) rfl ?_
                  refine dn_done ?_
                  refine dn_then ?_
                  refine dn_seq ?_
                  refine dn_seq ?_
                  refine dn_reg ?_
                  refine dl_r 4 rfl rfl rfl rfl (op_loadN rfl ag_53 sz_53 rfl rfl) ?_
                  refine dl_t rfl rfl rfl (op_fieldAddr (i' := 0) rfl fd_114_0 rfl) ?_
                  refine dl_r 0 rfl rfl rfl rfl (op_load rfl ag_3 rfl) ?_
                  refine dl_t rfl rfl rfl (op_fieldAddr (i' := 1) rfl fd_114_1 rfl) ?_
                  refine dl_r 0 rfl rfl rfl rfl (op_load rfl ag_3 rfl) ?_
                  obtain ⟨y121, hy121, h1⟩ := bind_some h1
                  refine dl_e rfl (op_call (vs := [.agg #[.slice a1 n2 c3, .slice a4 n5 c6, .slice a7 n8 c9], .int .i64 y117.Dev, .int .i64 y117.Port]) cl_55 (T_topo_Port a1 n2 c3 a4 n5 c6 a7 n8 c9 x1 x2 x3 y117.Dev y117.Port hy121) rfl [1, 1, 1] (by exact rfl) rfl) ?_
                  rintro ⟨⟩ -
                  refine dn_normv (u := .int .i64 y121) (Qs := [RoL (encI .i64) a1 n2 x1, RoL encMApiLink a4 n5 x2, RoL encMApiACE a7 n8 x3, _, _, _]) rfl rfl ?_
                  refine dl_t rfl rfl rfl (op_assign rfl) ?_
                  refine dn_done ?_
                  refine dn_then ?_
                  refine dn_seq ?_
                  refine dn_reg ?_
                  refine dl_t rfl rfl rfl (op_move rfl) ?_
                  refine dl_t rfl rfl rfl (op_neq rfl rfl) ?_
                  refine dn_done ?_
                  refine dn_then ?_
                  refine dn_cond (p := ¬ (y121 = 0)) rfl (fun hc122 => ?_) (fun hc122 => ?_)
                  ·
                    replace h1 := pos_some hc122 h1
                    refine dn_seq ?_
                    refine dn_reg ?_
                    refine dl_t rfl rfl rfl (op_move rfl) ?_
                    refine dl_t rfl rfl rfl (op_assign rfl) ?_
                    refine dn_done ?_
                    refine dn_then ?_
                    refine dn_ret ?_
                    refine dn_thenR ?_
                    refine dn_inBR ?_
                    refine dn_thenR ?_
                    refine dn_thenR ?_
                    replace h1 := Option.some.inj h1
                    subst h1
                    replace h := elim_l h
                    try dsimp only at h
                    refine dn_inBR ?_
                    refine dn_thenR ?_
                    replace h := Option.some.inj h
                    subst h
                    exact dn_end () rfl rfl (by rfl) trivial [0, 0, 0, 2] (Rs := [Blk b120 (.cells [.int .i64 y117.Dev, .int .i64 y117.Port, .bool y117.In, .bool y117.Permit, .int .u32 y117.F.Dst.Addr, .int .i64 y117.F.Dst.Bits, .int .u32 y117.F.Src.Addr, .int .i64 y117.F.Src.Bits, .int .i64 y117.F.Proto, .int .u16 y117.F.SPort.Low, .int .u16 y117.F.SPort.High, .int .u16 y117.F.DPort.Low, .int .u16 y117.F.DPort.High].toArray 114 (0, 0)), Blk b101 (.cells [.slice a1 n2 c3, .slice a4 n5 c6, .slice a7 n8 c9].toArray 53 (0, 0))]) (by kernel_rfl) (.inl rfl)
                  ·
                    replace h1 := neg_some hc122 h1
                    refine dn_skip ?_
                    refine dn_then ?_
                    refine dn_seq ?_
                    refine dn_reg ?_
                    refine dl_t rfl rfl rfl (op_fieldAddr (i' := 4) rfl fd_114_4 rfl) ?_
                    refine dl_r 3 rfl rfl rfl rfl (op_loadN rfl ag_72 sz_72 rfl rfl) ?_
                    obtain ⟨y123, hy123, h1⟩ := bind_some h1
                    refine dl_e rfl (op_call (vs := [.agg #[.int .u32 y117.F.Dst.Addr, .int .i64 y117.F.Dst.Bits, .int .u32 y117.F.Src.Addr, .int .i64 y117.F.Src.Bits, .int .i64 y117.F.Proto, .int .u16 y117.F.SPort.Low, .int .u16 y117.F.SPort.High, .int .u16 y117.F.DPort.Low, .int .u16 y117.F.DPort.High]]) cl_56 (T_filter_Check  y117.F hy123) rfl [] (by exact rfl) rfl) ?_
                    rintro ⟨⟩ -
                    refine dn_normv (u := .int .i64 y123) (Qs := [_, _, _, _, _, _]) rfl rfl ?_
                    refine dl_t rfl rfl rfl (op_assign rfl) ?_
                    refine dn_done ?_
                    refine dn_then ?_
                    refine dn_seq ?_
                    refine dn_reg ?_
                    refine dl_t rfl rfl rfl (op_move rfl) ?_
                    refine dl_t rfl rfl rfl (op_neq rfl rfl) ?_
                    refine dn_done ?_
                    refine dn_then ?_
                    refine dn_cond (p := ¬ (y123 = 0)) rfl (fun hc124 => ?_) (fun hc124 => ?_)
                    ·
                      replace h1 := pos_some hc124 h1
                      refine dn_seq ?_
                      refine dn_reg ?_
                      refine dl_t rfl rfl rfl (op_move rfl) ?_
                      refine dl_t rfl rfl rfl (op_assign rfl) ?_
                      refine dn_done ?_
                      refine dn_then ?_
                      refine dn_ret ?_
                      refine dn_inBR ?_
                      refine dn_thenR ?_
                      refine dn_thenR ?_
                      replace h1 := Option.some.inj h1
                      subst h1
                      replace h := elim_r h
                      replace h := elim_l h
                      try dsimp only at h
                      refine dn_inBR ?_
                      refine dn_thenR ?_
                      replace h := Option.some.inj h
                      subst h
                      exact dn_end () rfl rfl (by rfl) trivial [0, 0, 0, 2] (Rs := [Blk b120 (.cells [.int .i64 y117.Dev, .int .i64 y117.Port, .bool y117.In, .bool y117.Permit, .int .u32 y117.F.Dst.Addr, .int .i64 y117.F.Dst.Bits, .int .u32 y117.F.Src.Addr, .int .i64 y117.F.Src.Bits, .int .i64 y117.F.Proto, .int .u16 y117.F.SPort.Low, .int .u16 y117.F.SPort.High, .int .u16 y117.F.DPort.Low, .int .u16 y117.F.DPort.High].toArray 114 (0, 0)), Blk b101 (.cells [.slice a1 n2 c3, .slice a4 n5 c6, .slice a7 n8 c9].toArray 53 (0, 0))]) (by kernel_rfl) (.inl rfl)
                    ·
                      replace h1 := neg_some hc124 h1
                      refine dn_skip ?_
                      refine dn_inB ?_
                      refine dn_then ?_
                      refine dn_reg ?_
                      refine dl_t rfl rfl rfl (op_add (z := w64 (y113 + 1)) rfl rfl rfl) ?_
                      refine dl_t rfl rfl rfl (op_move rfl) ?_
                      refine dn_done ?_
                      refine dn_then ?_
                      exact dn_meet (k115, w64 (y113 + 1)) ⟨Nat.lt_succ_self _, h1⟩ (Less.cons rfl (Less.cons rfl (Less.cons rfl (Less.cons rfl (Less.nil _))))) [0, 0, 0, 1, 1] (Rs := [Blk b120 (.cells [.int .i64 y117.Dev, .int .i64 y117.Port, .bool y117.In, .bool y117.Permit, .int .u32 y117.F.Dst.Addr, .int .i64 y117.F.Dst.Bits, .int .u32 y117.F.Src.Addr, .int .i64 y117.F.Src.Bits, .int .i64 y117.F.Proto, .int .u16 y117.F.SPort.Low, .int .u16 y117.F.SPort.High, .int .u16 y117.F.DPort.Low, .int .u16 y117.F.DPort.High].toArray 114 (0, 0))]) (by kernel_rfl)
                ·
                  replace h1 := neg_some hc116 h1
                  refine dn_exit ?_
                  refine dn_thenX ?_
                  refine dn_thenX ?_
                  replace h1 := Option.some.inj h1
                  subst h1
                  replace h := elim_r h
                  replace h := elim_r h
                  try dsimp only at h
                  refine dn_inBX ?_
                  refine dn_then ?_
                  refine dn_seq ?_
                  refine dn_reg ?_
                  refine dl_t rfl rfl rfl (op_assign rfl) ?_
                  refine dn_done ?_
                  refine dn_then ?_
                  refine dn_ret ?_
                  replace h := Option.some.inj h
                  subst h
                  exact dn_end () rfl rfl (by rfl) trivial [0, 0, 0, 1] (Rs := [Blk b101 (.cells [.slice a1 n2 c3, .slice a4 n5 c6, .slice a7 n8 c9].toArray 53 (0, 0))]) (by kernel_rfl) (.inl rfl)
def M_step_New.l1 (x1 : List Int) : Nat → MStepNet → Int → Option (MStepNet)
  | 0, _, _ => none
  | k + 1, y106, y107 => if y107 < ((x1.length : Nat) : Int) then ((M_tableNew ).bind fun y123 => if y106.Tables.length + 1 ≤ appMax then (M_step_New.l1 x1 k (⟨y106.Topo, y106.Tables ++ [y123]⟩ : MStepNet) (w64 (y107 + 1))) else none) else (some y106)
def M_step_New (x1 : List Int) (x2 : List MApiLink) (x3 : List MApiACE) : Option (Int ⊕ (MStepNet × Int)) := (M_topo_Check x1 x2 x3).bind fun y102 => if ¬ (y102 = 0) then (some (.inl y102)) else ((M_step_New.l1 x1 fuel (⟨(⟨x1, x2, x3⟩ : MApiTopo), ([] : List MTable)⟩ : MStepNet) 0).bind fun y108 => some (.inr (y108, 0)))
abbrev step_New_X : Int ⊕ (MStepNet × Int) → Type
  | (.inl _) => Unit
  | (.inr _) => Nat
def step_New_v  : (r : Int ⊕ (MStepNet × Int)) → step_New_X r → Value
  | (.inl r), p => .tuple #[.pointer none, .int .i64 r]
  | (.inr r), p => .tuple #[.pointer (some ⟨p, 0, none⟩), .int .i64 r.2]
def step_New_ch (a1 : Option Addr) (n2 : Nat) (a4 : Option Addr) (n5 : Nat) (a7 : Option Addr) (n8 : Nat) (x1 : List Int) (x2 : List MApiLink) (x3 : List MApiACE) : (r : Int ⊕ (MStepNet × Int)) → step_New_X r → List HP
  | (.inl r), p => [RoL (encI .i64) a1 n2 x1, RoL encMApiLink a4 n5 x2, RoL encMApiACE a7 n8 x3]
  | (.inr r), p => [RoL (encI .i64) a1 n2 x1, RoL encMApiLink a4 n5 x2, RoL encMApiACE a7 n8 x3, P_MStepNet p r.1]
set_option maxHeartbeats 1000000 in
theorem T_step_New (a1 : Option Addr) (n2 : Nat) (c3 : Nat) (a4 : Option Addr) (n5 : Nat) (c6 : Nat) (a7 : Option Addr) (n8 : Nat) (c9 : Nat) (x1 : List Int) (x2 : List MApiLink) (x3 : List MApiACE) {r : Int ⊕ (MStepNet × Int)} (h : M_step_New x1 x2 x3 = some r) : Tri Tryz.prog 27 [.agg #[.slice a1 n2 c3, .slice a4 n5 c6, .slice a7 n8 c9]].toArray [RoL (encI .i64) a1 n2 x1, RoL encMApiLink a4 n5 x2, RoL encMApiACE a7 n8 x3] (X := step_New_X r) (step_New_v  r) (fun _ => True) (step_New_ch a1 n2 a4 n5 a7 n8 x1 x2 x3 r) := by
  unfold M_step_New at h
  refine tri_intro (n := 31) (vs := [.agg #[.slice a1 n2 c3, .slice a4 n5 c6, .slice a7 n8 c9]]) Tryz.func27 rfl rfl rfl (fun R E => ?_)
  show Dn E 31 [] _ [(0, .agg #[.slice a1 n2 c3, .slice a4 n5 c6, .slice a7 n8 c9])] [RoL (encI .i64) a1 n2 x1, RoL encMApiLink a4 n5 x2, RoL encMApiACE a7 n8 x3, R]
  refine dn_seq ?_
  refine dn_reg ?_
  refine dl_e rfl (op_box (vs := [.slice a1 n2 c3, .slice a4 n5 c6, .slice a7 n8 c9]) rfl rfl rfl) ?_
  rintro b101 -
  refine dn_norm (Qs := [_, _, _, _, _]) rfl ?_
  refine dl_t rfl rfl rfl (op_assign rfl) ?_
  refine dl_t rfl rfl rfl (op_assign rfl) ?_
  refine dn_done ?_
  refine dn_then ?_
  refine dn_seq ?_
  refine dn_seq ?_
  refine dn_reg ?_
  refine dl_r 0 rfl rfl rfl rfl (op_loadN rfl ag_53 sz_53 rfl rfl) ?_
  obtain ⟨y102, hy102, h⟩ := bind_some h
  refine dl_e rfl (op_call (vs := [.agg #[.slice a1 n2 c3, .slice a4 n5 c6, .slice a7 n8 c9]]) cl_39 (T_topo_Check a1 n2 c3 a4 n5 c6 a7 n8 c9 x1 x2 x3 hy102) rfl [1, 1, 1] (by exact rfl) rfl) ?_
  rintro ⟨⟩ -
  refine dn_normv (u := .int .i64 y102) (Qs := [RoL (encI .i64) a1 n2 x1, RoL encMApiLink a4 n5 x2, RoL encMApiACE a7 n8 x3, _, _]) rfl rfl ?_
  refine dl_t rfl rfl rfl (op_assign rfl) ?_
  refine dn_done ?_
  refine dn_then ?_
  refine dn_seq ?_
  refine dn_reg ?_
  refine dl_t rfl rfl rfl (op_move rfl) ?_
  refine dl_t rfl rfl rfl (op_neq rfl rfl) ?_
  refine dn_done ?_
  refine dn_then ?_
  refine dn_cond (p := ¬ (y102 = 0)) rfl (fun hc103 => ?_) (fun hc103 => ?_)
  ·
    replace h := pos_some hc103 h
    refine dn_seq ?_
    refine dn_reg ?_
    refine dl_t rfl rfl rfl (op_move rfl) ?_
    refine dl_t rfl rfl rfl (op_assign rfl) ?_
    refine dl_t rfl rfl rfl (op_assign rfl) ?_
    refine dn_done ?_
    refine dn_then ?_
    refine dn_ret ?_
    refine dn_thenR ?_
    replace h := Option.some.inj h
    subst h
    exact dn_end () rfl rfl (by rfl) trivial [0, 0, 0, 1] (Rs := [Blk b101 (.cells [.slice a1 n2 c3, .slice a4 n5 c6, .slice a7 n8 c9].toArray 53 (0, 0))]) (by kernel_rfl) (.inl rfl)
  ·
    replace h := neg_some hc103 h
    refine dn_skip ?_
    refine dn_then ?_
    refine dn_seq ?_
    refine dn_reg ?_
    refine dl_r 3 rfl rfl rfl rfl (op_loadN rfl ag_53 sz_53 rfl rfl) ?_
    refine dl_t rfl rfl rfl (op_build (qs := [(0, .agg #[.slice a1 n2 c3, .slice a4 n5 c6, .slice a7 n8 c9])]) (vs := [.slice a1 n2 c3, .slice a4 n5 c6, .slice a7 n8 c9, .slice none 0 0]) rfl (by kernel_rfl)) ?_
    refine dl_e rfl (op_box (vs := [.slice a1 n2 c3, .slice a4 n5 c6, .slice a7 n8 c9, .slice none 0 0]) rfl rfl rfl) ?_
    rintro b104 -
    refine dn_norm (Qs := [_, _, _, _, _, _]) rfl ?_
    refine dl_t rfl rfl rfl (op_assign rfl) ?_
    refine dn_done ?_
    refine dn_then ?_
    refine dn_seq ?_
    refine dn_seq ?_
    refine dn_reg ?_
    refine dl_t rfl rfl rfl (op_fieldAddr (i' := 0) rfl fd_53_0 rfl) ?_
    refine dl_r 4 rfl rfl rfl rfl (op_load rfl ag_49 rfl) ?_
    refine dn_roN 1 rfl (fun hn105 => ?_)
    refine dl_t rfl rfl rfl (op_len rfl el_49) ?_
    refine dn_slot (u := .int .i64 ((x1.length : Nat) : Int)) 16 rfl (by rw [hn105]) ?_
    refine dl_t rfl rfl rfl (op_move rfl) ?_
    refine dn_done ?_
    refine dn_then ?_
    refine dn_block ?_
    refine dn_roDup 1 rfl ?_
    refine dn_norm (Qs := [_, _, _, _, _, _, _]) rfl ?_
    refine dn_roDup 3 rfl ?_
    refine dn_norm (Qs := [_, _, _, _, _, _, _, _]) rfl ?_
    refine dn_roDup 5 rfl ?_
    refine dn_norm (Qs := [_, _, _, _, _, _, _, _, _]) rfl ?_
    refine dn_pNil 120 1 encN120 ptsN120 ?_
    refine dn_norm (Qs := [OwnP 120 1 encN120 ptsN120 none 0 0 ([] : List MTable), _, _, _, _, _, _, _, _, _]) rfl ?_
    refine dn_shutR (Q := P_MStepNet b104 (⟨(⟨x1, x2, x3⟩ : MApiTopo), ([] : List MTable)⟩ : MStepNet)) rfl (a1, n2, c3, a4, n5, c6, a7, n8, c9, none, 0, 0) [4, 3, 2, 1, 0] (Rs := [RoL (encI .i64) a1 n2 x1, RoL encMApiLink a4 n5 x2, RoL encMApiACE a7 n8 x3, Blk b101 (.cells [.slice a1 n2 c3, .slice a4 n5 c6, .slice a7 n8 c9].toArray 53 (0, 0)), R]) (by kernel_rfl) ?_
    refine dn_norm (Qs := [_, _, _, _, _, _]) rfl ?_
    obtain ⟨y108, h1, h⟩ := bind_some h
    refine dn_loop (α := Nat × MStepNet × Int) (fun g => M_step_New.l1 x1 g.1 g.2.1 g.2.2 = some y108) (fun g => g.1) (fun g => [(5, .pointer (some ⟨b104, 0, none⟩)), (16, .int .i64 ((x1.length : Nat) : Int)), (17, .int .i64 g.2.2)]) (fun g => [RoL (encI .i64) a1 n2 x1, RoL encMApiLink a4 n5 x2, RoL encMApiACE a7 n8 x3, P_MStepNet b104 g.2.1, R]) ?_ ?_
    ·
      exact dn_meet (fuel, (⟨(⟨x1, x2, x3⟩ : MApiTopo), ([] : List MTable)⟩ : MStepNet), 0) h1 (Less.cons rfl (Less.cons rfl (Less.cons rfl (Less.nil _)))) [1, 1, 1, 0, 1] (Rs := [Blk b101 (.cells [.slice a1 n2 c3, .slice a4 n5 c6, .slice a7 n8 c9].toArray 53 (0, 0))]) (by kernel_rfl)
    ·
      rintro ⟨k109, y106, y107⟩ h1
      cases k109 with
      | zero => cases h1
      | succ k109 =>
        replace h1 : M_step_New.l1 x1 (k109 + 1) y106 y107 = some y108 := h1
        rw [M_step_New.l1.eq_2] at h1
        show Dn E 31 [] _ [(5, .pointer (some ⟨b104, 0, none⟩)), (16, .int .i64 ((x1.length : Nat) : Int)), (17, .int .i64 y107)] [RoL (encI .i64) a1 n2 x1, RoL encMApiLink a4 n5 x2, RoL encMApiACE a7 n8 x3, P_MStepNet b104 y106, R]
        refine dn_seq ?_
        refine dn_reg ?_
        refine dl_t rfl rfl rfl (op_lss rfl rfl) ?_
        refine dn_done ?_
        refine dn_then ?_
        refine dn_seq ?_
        refine dn_cond (p := y107 < ((x1.length : Nat) : Int)) rfl (fun hc110 => ?_) (fun hc110 => ?_)
        ·
          replace h1 := pos_some hc110 h1
          refine dn_skip ?_
          refine dn_then ?_
          refine dn_seq ?_
          refine dn_block ?_
          refine dn_open 3 rfl rfl ?_
          rintro ⟨a111, n112, c113, a114, n115, c116, a117, n118, c119, a120, n121, c122⟩
          refine dn_norm (Qs := [Blk b104 (.cells [.slice a111 n112 c113, .slice a114 n115 c116, .slice a117 n118 c119, .slice a120 n121 c122].toArray 119 (0, 0)), RoL (encI .i64) a111 n112 y106.Topo.Ports, RoL encMApiLink a114 n115 y106.Topo.Links, RoL encMApiACE a117 n118 y106.Topo.ACEs, OwnP 120 1 encN120 ptsN120 a120 n121 c122 y106.Tables, _, _, _, _]) rfl ?_
          refine dn_any (N := 11) (l0 := #[false, false, false, false, false, false, false, false, false, false, false]) mixed (fun i => Nat.beq i 7 || Nat.beq i 10) (fun s => match s with | 0 => [Blk b104 (.cells [.slice a111 n112 c113, .slice a114 n115 c116, .slice a117 n118 c119, .slice a120 n121 c122].toArray 119 (0, 0))] | _ => []) [0] rfl rfl rfl ?_
          refine ds_t (listed' := #[true, false, false, false, false, false, false, false, false, false, false]) 0 (by kernel_rfl) rfl rfl rfl rfl rfl (op_move rfl) ?_
          refine ds_t (listed' := #[true, true, false, false, false, false, false, false, false, false, false]) 1 (by kernel_rfl) rfl rfl rfl rfl rfl (op_move rfl) ?_
          refine ds_t (listed' := #[true, true, true, false, false, false, false, false, false, false, false]) 2 (by kernel_rfl) rfl rfl rfl rfl rfl (op_nilCheck rfl) ?_
          refine ds_t (listed' := #[true, true, true, true, false, false, false, false, false, false, false]) 3 (by kernel_rfl) rfl rfl rfl rfl rfl (op_fieldAddr (i' := 3) rfl fd_119_1 rfl) ?_
          refine ds_r (listed' := #[true, true, true, true, true, false, false, false, false, false, false]) 4 (by kernel_rfl) rfl rfl rfl rfl rfl 0 rfl (op_load rfl ag_117 rfl) ?_
          obtain ⟨y123, hy123, h1⟩ := bind_some h1
          refine ds_x (s' := 0) (listed' := #[true, true, true, true, true, true, false, false, false, false, false]) 5 (by kernel_rfl) rfl rfl rfl rfl (op_call (vs := []) cl_40 (T_tableNew   hy123) rfl [] (by exact rfl) rfl) [1] (fun _ => ⟨_, rfl⟩) ?_
          rintro b124 -
          refine ds_normv (u := .pointer (some ⟨b124, 0, none⟩)) (Qs := [P_MTable b124 y123, _, _, _, _, _, _, _, _, _]) rfl rfl ?_
          refine ds_x (s' := 0) (listed' := #[true, true, true, true, true, true, true, false, false, false, false]) 6 (by kernel_rfl) rfl rfl rfl rfl (op_buildSlice (e := 120) (qs := [(0, .pointer (some ⟨b124, 0, none⟩))]) (vs := [.pointer (some ⟨b124, 0, none⟩)]) rfl (by kernel_rfl) rfl) [2] (fun _ => ⟨_, rfl⟩) ?_
          rintro b125 -
          refine ds_norm (Qs := [_, _, _, _, _, _, _, _, _, _, _]) rfl ?_
          obtain ⟨hg126, h1⟩ := guard_some h1
          refine ds_x (s' := 1) (listed' := #[true, true, true, true, true, true, true, true, false, false, false]) 7 (by kernel_rfl) rfl rfl rfl rfl (op_appendP (z := y123) (p := b124) encN120_len [6, 1] (by exact rfl) rfl rfl el_117 sz_120 zr_120 by_120 rfl rfl (news_blk 0 rfl 0 rfl) rfl hg126 rfl rfl) [] (fun _ => ⟨_, rfl⟩) ?_
          rintro ⟨a127, c128⟩ -
          refine ds_norm (Qs := [OwnP 120 1 encN120 ptsN120 a127 (n121 + 1) c128 (y106.Tables ++ [y123]), _, _, _, _, _, _, _, _, _]) rfl ?_
          refine ds_t (listed' := #[true, true, true, true, true, true, true, true, true, false, false]) 8 (by kernel_rfl) rfl rfl rfl rfl rfl (op_nilCheck rfl) ?_
          refine ds_t (listed' := #[true, true, true, true, true, true, true, true, true, true, false]) 9 (by kernel_rfl) rfl rfl rfl rfl rfl (op_fieldAddr (i' := 3) rfl fd_119_1 rfl) ?_
          refine ds_s (s' := 2) (listed' := #[true, true, true, true, true, true, true, true, true, true, true]) 10 (by kernel_rfl) rfl rfl rfl rfl (op_store (vs := [.slice a127 (n121 + 1) c128]) (l' := [.slice a111 n112 c113, .slice a114 n115 c116, .slice a117 n118 c119, .slice a127 (n121 + 1) c128]) 2 rfl rfl rfl sz_117 rfl rfl rfl rfl rfl) [] rfl ?_
          refine ds_norm (Qs := [_, _, _, _, _, _, _, _, _, _]) rfl ?_
          refine ds_done rfl ?_
          refine dn_inB ?_
          refine dn_then ?_
          refine dn_reg ?_
          refine dl_t rfl rfl rfl (op_add (z := w64 (y107 + 1)) rfl rfl rfl) ?_
          refine dl_t rfl rfl rfl (op_move rfl) ?_
          refine dn_done ?_
          refine dn_then ?_
          refine dn_roDup 3 rfl ?_
          refine dn_norm (Qs := [_, _, _, _, _, _, _, _, _, _, _]) rfl ?_
          refine dn_roDup 5 rfl ?_
          refine dn_norm (Qs := [_, _, _, _, _, _, _, _, _, _, _, _]) rfl ?_
          refine dn_roDup 7 rfl ?_
          refine dn_norm (Qs := [_, _, _, _, _, _, _, _, _, _, _, _, _]) rfl ?_
          refine dn_shutR (Q := P_MStepNet b104 (⟨y106.Topo, y106.Tables ++ [y123]⟩ : MStepNet)) rfl (a111, n112, c113, a114, n115, c116, a117, n118, c119, a127, n121 + 1, c128) [3, 2, 1, 0, 0] (Rs := [Blk b125 (.cells [.pointer (some ⟨b124, 0, none⟩)].toArray 120 (0, 0)), RoL (encI .i64) a111 n112 y106.Topo.Ports, RoL encMApiLink a114 n115 y106.Topo.Links, RoL encMApiACE a117 n118 y106.Topo.ACEs, RoL (encI .i64) a1 n2 x1, RoL encMApiLink a4 n5 x2, RoL encMApiACE a7 n8 x3, R]) (by kernel_rfl) ?_
          refine dn_norm (Qs := [_, _, _, _, _, _, _, _, _]) rfl ?_
          exact dn_meet (k109, (⟨y106.Topo, y106.Tables ++ [y123]⟩ : MStepNet), w64 (y107 + 1)) ⟨Nat.lt_succ_self _, h1⟩ (Less.cons rfl (Less.cons rfl (Less.cons rfl (Less.nil _)))) [5, 5, 5, 0, 4] (Rs := [Blk b125 (.cells [.pointer (some ⟨b124, 0, none⟩)].toArray 120 (0, 0)), RoL (encI .i64) a111 n112 y106.Topo.Ports, RoL encMApiLink a114 n115 y106.Topo.Links, RoL encMApiACE a117 n118 y106.Topo.ACEs]) (by kernel_rfl)
        ·
          replace h1 := neg_some hc110 h1
          refine dn_exit ?_
          refine dn_thenX ?_
          refine dn_thenX ?_
          replace h1 := Option.some.inj h1
          subst h1
          try dsimp only at h
          refine dn_inBX ?_
          refine dn_then ?_
          refine dn_seq ?_
          refine dn_reg ?_
          refine dl_t rfl rfl rfl (op_move rfl) ?_
          refine dl_t rfl rfl rfl (op_assign rfl) ?_
          refine dl_t rfl rfl rfl (op_assign rfl) ?_
          refine dn_done ?_
          refine dn_then ?_
          refine dn_ret ?_
          replace h := Option.some.inj h
          subst h
          exact dn_end b104 rfl rfl (by rfl) trivial [0, 0, 0, 0, 0] (Rs := []) (by kernel_rfl) (.inl rfl)
def M_region_Right (x1 : Int) : Option (Bool) := if (0 : Int) ≤ x1 then (some (decide (x1 ≤ 3))) else (some false)
set_option maxHeartbeats 1000000 in
theorem T_region_Right  (x1 : Int) {r : Bool} (h : M_region_Right x1 = some r) : Tri Tryz.prog 28 [.int .i64 x1].toArray [] (X := Unit) (fun _ => .bool r) (fun _ => True) (fun _ => []) := by
  unfold M_region_Right at h
  refine tri_intro (n := 9) (vs := [.int .i64 x1]) Tryz.func28 rfl rfl rfl (fun R E => ?_)
  show Dn E 9 [] _ [(0, .int .i64 x1)] [R]
  refine dn_seq ?_
  refine dn_reg ?_
  refine dl_t rfl rfl rfl (op_assign rfl) ?_
  refine dn_done ?_
  refine dn_then ?_
  refine dn_seq ?_
  refine dn_reg ?_
  refine dl_t rfl rfl rfl (op_move rfl) ?_
  refine dl_t rfl rfl rfl (op_geq rfl rfl) ?_
  refine dl_t rfl rfl rfl (op_move rfl) ?_
  refine dn_test (p := (0 : Int) ≤ x1) 5 rfl (fun hc101 => ?_) (fun hc101 => ?_)
  ·
    replace h := pos_some hc101 h
    refine dl_wt rfl rfl rfl rfl rfl rfl (op_move rfl) ?_
    refine dl_wt rfl rfl rfl rfl rfl rfl (op_leq rfl rfl) ?_
    refine dl_t rfl rfl rfl (op_pick (b := true) rfl rfl) ?_
    refine dl_t rfl rfl rfl (op_assign rfl) ?_
    refine dn_done ?_
    refine dn_then ?_
    refine dn_ret ?_
    replace h := Option.some.inj h
    subst h
    exact dn_end () rfl rfl (by rfl) trivial [0] (by rfl) (.inl rfl)
  ·
    replace h := neg_some hc101 h
    refine dl_no rfl rfl rfl rfl (by decide) rfl rfl ?_
    refine dl_no rfl rfl rfl rfl (by decide) rfl rfl ?_
    refine dl_t rfl rfl rfl (op_pick (b := false) rfl rfl) ?_
    refine dl_t rfl rfl rfl (op_assign rfl) ?_
    refine dn_done ?_
    refine dn_then ?_
    refine dn_ret ?_
    replace h := Option.some.inj h
    subst h
    exact dn_end () rfl rfl (by rfl) trivial [0] (by rfl) (.inl rfl)
def M_region_Count (x1 : Int) : Option (Int) := (M_region_Right x1).bind fun y101 => if ¬ (y101 = true) then (some 0) else (if 0 ≤ x1 then (some (bShl .i64 1 x1)) else none)
set_option maxHeartbeats 1000000 in
theorem T_region_Count  (x1 : Int) {r : Int} (h : M_region_Count x1 = some r) : Tri Tryz.prog 29 [.int .i64 x1].toArray [] (X := Unit) (fun _ => .int .i64 r) (fun _ => True) (fun _ => []) := by
  unfold M_region_Count at h
  refine tri_intro (n := 8) (vs := [.int .i64 x1]) Tryz.func29 rfl rfl rfl (fun R E => ?_)
  show Dn E 8 [] _ [(0, .int .i64 x1)] [R]
  refine dn_seq ?_
  refine dn_reg ?_
  refine dl_t rfl rfl rfl (op_assign rfl) ?_
  refine dn_done ?_
  refine dn_then ?_
  refine dn_seq ?_
  refine dn_seq ?_
  refine dn_reg ?_
  refine dl_t rfl rfl rfl (op_move rfl) ?_
  obtain ⟨y101, hy101, h⟩ := bind_some h
  refine dl_e rfl (op_call (vs := [.int .i64 x1]) cl_28 (T_region_Right  x1 hy101) rfl [] (by exact rfl) rfl) ?_
  rintro ⟨⟩ -
  refine dn_normv (u := .bool y101) (Qs := [_]) rfl rfl ?_
  refine dn_slot (u := .bool (decide (y101 = true))) 4 rfl (bdec _) ?_
  refine dl_t rfl rfl rfl (op_not rfl) ?_
  refine dn_done ?_
  refine dn_then ?_
  refine dn_cond (p := ¬ (y101 = true)) rfl (fun hc102 => ?_) (fun hc102 => ?_)
  ·
    replace h := pos_some hc102 h
    refine dn_seq ?_
    refine dn_reg ?_
    refine dl_t rfl rfl rfl (op_assign rfl) ?_
    refine dn_done ?_
    refine dn_then ?_
    refine dn_ret ?_
    refine dn_thenR ?_
    replace h := Option.some.inj h
    subst h
    exact dn_end () rfl rfl (by rfl) trivial [0] (by rfl) (.inl rfl)
  ·
    replace h := neg_some hc102 h
    refine dn_skip ?_
    refine dn_then ?_
    refine dn_seq ?_
    refine dn_reg ?_
    refine dl_t rfl rfl rfl (op_move rfl) ?_
    obtain ⟨hg103, h⟩ := guard_some h
    refine dl_t rfl rfl rfl (op_shl (z := (bShl .i64 1 x1)) rfl rfl hg103 rfl) ?_
    refine dl_t rfl rfl rfl (op_assign rfl) ?_
    refine dn_done ?_
    refine dn_then ?_
    refine dn_ret ?_
    replace h := Option.some.inj h
    subst h
    exact dn_end () rfl rfl (by rfl) trivial [0] (by rfl) (.inl rfl)
end
end Go.Proofs.YtjfajpoknnifcaaGreat
