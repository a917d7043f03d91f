/-
  No cell of these rows narrows 'for every input' (looked for: loops, veiled, ifaces, maps, wideKeys, modest, calm, conditions, laid).
  DERIVED. THE GIVEN ROWS OF THIS SEAT. 3 by the template 'for every input the law returns true; each argument reads behind the call as it read before'; 0 by the template 'total and deterministic' (their statements: YtjfajpoknnifcaaGreatTotals.lean).
  GIVEN WITH THE SEED: the statements are not yours to turn. If you find one false, say at which input.
  Laid BY PROGRAM, IN A SANDBOX (cutbox-rows.mjs): the forced cells as the released guide's own fill.sh prints them over the translation a11a1b9ae6253fe2… (all of the seat's roots in one cut). By AI agents, Wed Nov 11 2026. No macro, syntax, notation, axiom, sorry.
-/
import Derived.Test.YtjfajpoknnifcaaGreatChecked
import GoSem.Claim
import GoSem.ClaimJoined
import GoSem.ClaimMapViews
import Derived.JoinedTies
import Derived.KernelRfl
namespace Go.Proofs.YtjfajpoknnifcaaGreat
/- THE CELL 'sum', in the pinned program and in every row, IS THE sha256 OF THE DUMP (.gsa) THAT YtjfajpoknnifcaaGreatProg.lean LOADS. Nothing in Lean hashes anything: it is a label: what it is worth is what the hold of that sum in a sandbox is worth. -/
noncomputable def Tryz.pinned : Pinned := { name := "ytjfajpoknnifcaagreat", sum := "a11a1b9ae6253fe209d16ab795926f71b400107d1f9b8276811558c807456ba4", checked := Tryz.checked }
namespace Rows
def none {H : Type} : Left H := { results := [], args := [] }

/-- 'crossbucklaw23.HistoryTimes': WHATEVER THE INPUT: true; the input reads as it did. -/
def historyTimesSpec : ChangeSpec := { name := "historyTimes", fn := fun _ => fun
  | [d] => { results := [.lit (.bool true)], args := [d] }
  | _ => none }
def historyTimesRow : OpenClaim := { program := "ytjfajpoknnifcaagreat", sum := "a11a1b9ae6253fe209d16ab795926f71b400107d1f9b8276811558c807456ba4", func := "crossbuck/crossbucklaw23.HistoryTimes", spec := "historyTimes", inPlace := ["slices.overlaps[int]", "math/bits.Add64"], unfollowed := true, recurses := true, plainKeys := false, apart := false }
def HistoryTimesSaid : Prop := historyTimesRow.holds Tryz.pinned (OpenSpec.ofChange historyTimesSpec)

/-- ITS FALSE NEIGHBOUR: 'it returns false'. Refute it at one input. -/
def historyTimesWrong : ChangeSpec := { name := "historyTimes", fn := fun _ => fun
  | [d] => { results := [.lit (.bool false)], args := [d] }
  | _ => none }
def HistoryTimesWrongFalsely : Prop := historyTimesRow.holds Tryz.pinned (OpenSpec.ofChange historyTimesWrong)

/-- 'crossbucklaw23.HistoryAlike': WHATEVER THE INPUT: true; the input reads as it did. -/
def historyAlikeSpec : ChangeSpec := { name := "historyAlike", fn := fun _ => fun
  | [d1, d2, d3, d4, d5] => { results := [.lit (.bool true)], args := [d1, d2, d3, d4, d5] }
  | _ => none }
def historyAlikeRow : OpenClaim := { program := "ytjfajpoknnifcaagreat", sum := "a11a1b9ae6253fe209d16ab795926f71b400107d1f9b8276811558c807456ba4", func := "crossbuck/crossbucklaw23.HistoryAlike", spec := "historyAlike", inPlace := ["slices.overlaps[int]", "math/bits.Add64"], unfollowed := true, recurses := true, plainKeys := false, apart := false }
def HistoryAlikeSaid : Prop := historyAlikeRow.holds Tryz.pinned (OpenSpec.ofChange historyAlikeSpec)

/-- ITS FALSE NEIGHBOUR: 'it returns false'. Refute it at one input. -/
def historyAlikeWrong : ChangeSpec := { name := "historyAlike", fn := fun _ => fun
  | [d1, d2, d3, d4, d5] => { results := [.lit (.bool false)], args := [d1, d2, d3, d4, d5] }
  | _ => none }
def HistoryAlikeWrongFalsely : Prop := historyAlikeRow.holds Tryz.pinned (OpenSpec.ofChange historyAlikeWrong)

/-- 'crossbucklaw23.HistoryOrders': WHATEVER THE INPUT: true; the input reads as it did. -/
def historyOrdersSpec : ChangeSpec := { name := "historyOrders", fn := fun _ => fun
  | [d] => { results := [.lit (.bool true)], args := [d] }
  | _ => none }
def historyOrdersRow : OpenClaim := { program := "ytjfajpoknnifcaagreat", sum := "a11a1b9ae6253fe209d16ab795926f71b400107d1f9b8276811558c807456ba4", func := "crossbuck/crossbucklaw23.HistoryOrders", spec := "historyOrders", inPlace := ["slices.overlaps[int]", "math/bits.Add64"], unfollowed := true, recurses := true, plainKeys := false, apart := false }
def HistoryOrdersSaid : Prop := historyOrdersRow.holds Tryz.pinned (OpenSpec.ofChange historyOrdersSpec)

/-- ITS FALSE NEIGHBOUR: 'it returns false'. Refute it at one input. -/
def historyOrdersWrong : ChangeSpec := { name := "historyOrders", fn := fun _ => fun
  | [d] => { results := [.lit (.bool false)], args := [d] }
  | _ => none }
def HistoryOrdersWrongFalsely : Prop := historyOrdersRow.holds Tryz.pinned (OpenSpec.ofChange historyOrdersWrong)

/- THE SECOND FORM. 'bulk': how many values and letters a reading holds, each counted each time it is reached (what is shared counts as often as it is met; a slice's spare places count too). A statement '..UptoSaid' is the law's where the arguments, and the package variables that the reading takes, are together of bulk at most 1048576: NARROWER than '..Said'. Prove '..Said' where nothing that the law and all that it calls make is longer than what came in: it says more and counts as full. Else prove '..UptoSaid'. A law counts once. -/
mutual
def uptoBulk {H : Type} : DataW H → Nat
  | .lit (.string bytes) => bytes.length + 1
  | .lit _ => 1
  | .nil => 1
  | .ptr d => uptoBulk d + 1
  | .slice elems spare => uptoBulkAll elems + uptoBulkAll spare + 1
  | .agg parts => uptoBulkAll parts + 1
  | .iface _ d => uptoBulk d + 1
  | .map entries => uptoBulkEntries entries + 1
  | .held _ => 1
def uptoBulkAll {H : Type} : List (DataW H) → Nat
  | [] => 0
  | d :: r => uptoBulk d + uptoBulkAll r
def uptoBulkEntries {H : Type} : List (Lit × DataW H) → Nat
  | [] => 0
  | x :: r => uptoBulkEntry x + uptoBulkEntries r
def uptoBulkEntry {H : Type} : Lit × DataW H → Nat
  | (.string bytes, d) => bytes.length + uptoBulk d + 1
  | (_, d) => uptoBulk d + 1
 end
def uptoSmall : (H : Type) → List (DataW H) → Bool := fun _ ds => decide (uptoBulkAll ds ≤ 1048576)
def OpenSpec.upto (s : _root_.Go.ChangeSpec) : _root_.Go.OpenSpec := { _root_.Go.OpenSpec.ofChange s with cond := some uptoSmall }

/-- 'crossbucklaw23.HistoryTimes', WHERE WHAT IT READS IS OF BULK AT MOST 1048576: true; the input reads as it did. -/
def historyTimesUptoRow : OpenClaim := { program := "ytjfajpoknnifcaagreat", sum := "a11a1b9ae6253fe209d16ab795926f71b400107d1f9b8276811558c807456ba4", func := "crossbuck/crossbucklaw23.HistoryTimes", spec := "historyTimes", inPlace := ["slices.overlaps[int]", "math/bits.Add64"], unfollowed := true, recurses := true, plainKeys := false, apart := false, narrowed := true }
def HistoryTimesUptoSaid : Prop := historyTimesUptoRow.holds Tryz.pinned (OpenSpec.upto historyTimesSpec)

/-- 'crossbucklaw23.HistoryAlike', WHERE WHAT IT READS IS OF BULK AT MOST 1048576: true; the input reads as it did. -/
def historyAlikeUptoRow : OpenClaim := { program := "ytjfajpoknnifcaagreat", sum := "a11a1b9ae6253fe209d16ab795926f71b400107d1f9b8276811558c807456ba4", func := "crossbuck/crossbucklaw23.HistoryAlike", spec := "historyAlike", inPlace := ["slices.overlaps[int]", "math/bits.Add64"], unfollowed := true, recurses := true, plainKeys := false, apart := false, narrowed := true }
def HistoryAlikeUptoSaid : Prop := historyAlikeUptoRow.holds Tryz.pinned (OpenSpec.upto historyAlikeSpec)

/-- 'crossbucklaw23.HistoryOrders', WHERE WHAT IT READS IS OF BULK AT MOST 1048576: true; the input reads as it did. -/
def historyOrdersUptoRow : OpenClaim := { program := "ytjfajpoknnifcaagreat", sum := "a11a1b9ae6253fe209d16ab795926f71b400107d1f9b8276811558c807456ba4", func := "crossbuck/crossbucklaw23.HistoryOrders", spec := "historyOrders", inPlace := ["slices.overlaps[int]", "math/bits.Add64"], unfollowed := true, recurses := true, plainKeys := false, apart := false, narrowed := true }
def HistoryOrdersUptoSaid : Prop := historyOrdersUptoRow.holds Tryz.pinned (OpenSpec.upto historyOrdersSpec)

end Rows
end Go.Proofs.YtjfajpoknnifcaaGreat
