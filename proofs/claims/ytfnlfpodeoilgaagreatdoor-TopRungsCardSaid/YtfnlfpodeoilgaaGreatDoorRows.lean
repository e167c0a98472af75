/-
  NARROWER THAN 'FOR EVERY INPUT', by the rows' own cells (each row's printed sentence says how): TopRungs: laid · TopTaken: laid.
  DERIVED. THE GIVEN ROWS OF THIS SEAT. 2 by the template 'for every input the law returns true; each argument reads behind the call as it read before'; 0 by the template 'total and deterministic' (their statements: YtfnlfpodeoilgaaGreatDoorTotals.lean).
  GIVEN WITH THE SEED: the statements are not yours to turn. If you find one false, say at which input.
  Laid BY PROGRAM, IN A SANDBOX (cutbox-rows.mjs): the forced cells as the released guide's own fill.sh prints them over the translation b5ddd7b80265398e… (all of the seat's roots in one cut). By AI agents, Wed Nov 11 2026. No macro, syntax, notation, axiom, sorry.
-/
import Derived.Test.YtfnlfpodeoilgaaGreatDoorChecked
import GoSem.Claim
import GoSem.ClaimJoined
import GoSem.ClaimMapViews
import Derived.JoinedTies
import Derived.KernelRfl
namespace Go.Proofs.YtfnlfpodeoilgaaGreatDoor
/- THE CELL 'sum', in the pinned program and in every row, IS THE sha256 OF THE DUMP (.gsa) THAT YtfnlfpodeoilgaaGreatDoorProg.lean LOADS. Nothing in Lean hashes anything: it is a label: what it is worth is what the hold of that sum in a sandbox is worth. -/
noncomputable def Tryz.pinned : Pinned := { name := "ytfnlfpodeoilgaagreatdoor", sum := "b5ddd7b80265398ec04ad15df3bc98ca62c6d4423108d618f482bbdbf254380b", checked := Tryz.checked }
namespace Rows
def none {H : Type} : Left H := { results := [], args := [] }

/- WHAT THE LISTED PACKAGE-LEVEL VARIABLES READ AS WHEN THE CALL BEGINS. Each datum BY PROGRAM (the guide's laid-datum.mjs) off the statement by which the dump's own 'gosem.cut.vars' lays the variable. In a bare row this is a premise. The card (YtfnlfpodeoilgaaGreatDoorCards.lean) ties it to the program's text. -/
def laid_ratline_mode_against {H : Type} : DataW H := .agg [.lit (.int .u8 0), .lit (.int .u8 64), .lit (.int .u8 120), .lit (.int .u8 84), .lit (.int .u8 124), .lit (.int .u8 116), .lit (.int .u8 126)]
def laid_ratline_protocol_levels {H : Type} : DataW H := .agg [.agg [.lit (.string []), .agg [.lit (.int .i64 0), .lit (.int .i64 0)], .agg [.lit (.int .i64 0), .lit (.int .i64 0)], .agg [.lit (.int .i64 0), .lit (.int .i64 0)], .agg [.lit (.int .i64 0), .lit (.int .i64 0)], .lit (.int .i64 0)], .agg [.lit (.string [80, 76, 45, 49]), .agg [.lit (.int .i64 0), .lit (.int .i64 0)], .agg [.lit (.int .i64 0), .lit (.int .i64 0)], .agg [.lit (.int .i64 0), .lit (.int .i64 0)], .agg [.lit (.int .i64 5), .lit (.int .i64 2)], .lit (.int .i64 0)], .agg [.lit (.string [80, 76, 45, 50]), .agg [.lit (.int .i64 3), .lit (.int .i64 1)], .agg [.lit (.int .i64 0), .lit (.int .i64 0)], .agg [.lit (.int .i64 3), .lit (.int .i64 1)], .agg [.lit (.int .i64 5), .lit (.int .i64 2)], .lit (.int .i64 1)], .agg [.lit (.string [80, 76, 45, 67, 83]), .agg [.lit (.int .i64 3), .lit (.int .i64 1)], .agg [.lit (.int .i64 0), .lit (.int .i64 0)], .agg [.lit (.int .i64 3), .lit (.int .i64 2)], .agg [.lit (.int .i64 5), .lit (.int .i64 2)], .lit (.int .i64 1)], .agg [.lit (.string [80, 76, 45, 50, 46, 57, 57]), .agg [.lit (.int .i64 3), .lit (.int .i64 3)], .agg [.lit (.int .i64 3), .lit (.int .i64 3)], .agg [.lit (.int .i64 3), .lit (.int .i64 3)], .agg [.lit (.int .i64 5), .lit (.int .i64 3)], .lit (.int .i64 1)], .agg [.lit (.string [80, 76, 45, 51]), .agg [.lit (.int .i64 3), .lit (.int .i64 3)], .agg [.lit (.int .i64 3), .lit (.int .i64 3)], .agg [.lit (.int .i64 3), .lit (.int .i64 3)], .agg [.lit (.int .i64 5), .lit (.int .i64 3)], .lit (.int .i64 3)]]

/-- 'ratlinetop.TopRungs': WHATEVER THE INPUT: true; the input reads as it did. -/
def topRungsSpec : ChangeSpec := { name := "topRungs", fn := fun _ => fun
  | [] => { results := [.lit (.bool true)], args := [] }
  | _ => none }
def topRungsRow : OpenClaim := { program := "ytfnlfpodeoilgaagreatdoor", sum := "b5ddd7b80265398ec04ad15df3bc98ca62c6d4423108d618f482bbdbf254380b", func := "ratline/ratlinetop.TopRungs", spec := "topRungs", inPlace := ["slices.overlaps[ratline/api.Value]", "slices.overlaps[ratline/store.slot]", "slices.overlaps[int]", "slices.overlaps[ratline/fifo.entry[ratline/api.Claim]]"], unfollowed := true, recurses := true, named := ["ratline/mode.against", "ratline/protocol.levels"], plainKeys := false, apart := false, laid := [("ratline/mode.against", laid_ratline_mode_against), ("ratline/protocol.levels", laid_ratline_protocol_levels)] }
def TopRungsSaid : Prop := topRungsRow.holds Tryz.pinned (OpenSpec.ofChange topRungsSpec)

/-- ITS FALSE NEIGHBOUR: 'it returns false'. Refute it at one input. -/
def topRungsWrong : ChangeSpec := { name := "topRungs", fn := fun _ => fun
  | [] => { results := [.lit (.bool false)], args := [] }
  | _ => none }
def TopRungsWrongFalsely : Prop := topRungsRow.holds Tryz.pinned (OpenSpec.ofChange topRungsWrong)

/-- 'ratlinetop.TopTaken': WHATEVER THE INPUT: true; the input reads as it did. -/
def topTakenSpec : ChangeSpec := { name := "topTaken", fn := fun _ => fun
  | [d1, d2] => { results := [.lit (.bool true)], args := [d1, d2] }
  | _ => none }
def topTakenRow : OpenClaim := { program := "ytfnlfpodeoilgaagreatdoor", sum := "b5ddd7b80265398ec04ad15df3bc98ca62c6d4423108d618f482bbdbf254380b", func := "ratline/ratlinetop.TopTaken", spec := "topTaken", inPlace := ["slices.overlaps[ratline/api.Value]", "slices.overlaps[ratline/store.slot]", "slices.overlaps[int]", "slices.overlaps[ratline/fifo.entry[ratline/api.Claim]]"], unfollowed := true, recurses := true, named := ["ratline/mode.against", "ratline/protocol.levels"], plainKeys := false, apart := false, laid := [("ratline/mode.against", laid_ratline_mode_against), ("ratline/protocol.levels", laid_ratline_protocol_levels)] }
def TopTakenSaid : Prop := topTakenRow.holds Tryz.pinned (OpenSpec.ofChange topTakenSpec)

/-- ITS FALSE NEIGHBOUR: 'it returns false'. Refute it at one input. -/
def topTakenWrong : ChangeSpec := { name := "topTaken", fn := fun _ => fun
  | [d1, d2] => { results := [.lit (.bool false)], args := [d1, d2] }
  | _ => none }
def TopTakenWrongFalsely : Prop := topTakenRow.holds Tryz.pinned (OpenSpec.ofChange topTakenWrong)

/- THE SECOND FORM. 'bulk': how many values and letters a reading holds, each counted each time it is reached (what is shared counts as often as it is met; a slice's spare places count too). A statement '..UptoSaid' is the law's where the arguments, and the package variables that the reading takes, are together of bulk at most 1048576: NARROWER than '..Said'. Prove '..Said' where nothing that the law and all that it calls make is longer than what came in: it says more and counts as full. Else prove '..UptoSaid'. A law counts once. -/
mutual
def uptoBulk {H : Type} : DataW H → Nat
  | .lit (.string bytes) => bytes.length + 1
  | .lit _ => 1
  | .nil => 1
  | .ptr d => uptoBulk d + 1
  | .slice elems spare => uptoBulkAll elems + uptoBulkAll spare + 1
  | .agg parts => uptoBulkAll parts + 1
  | .iface _ d => uptoBulk d + 1
  | .map entries => uptoBulkEntries entries + 1
  | .held _ => 1
def uptoBulkAll {H : Type} : List (DataW H) → Nat
  | [] => 0
  | d :: r => uptoBulk d + uptoBulkAll r
def uptoBulkEntries {H : Type} : List (Lit × DataW H) → Nat
  | [] => 0
  | x :: r => uptoBulkEntry x + uptoBulkEntries r
def uptoBulkEntry {H : Type} : Lit × DataW H → Nat
  | (.string bytes, d) => bytes.length + uptoBulk d + 1
  | (_, d) => uptoBulk d + 1
 end
def uptoSmall : (H : Type) → List (DataW H) → Bool := fun _ ds => decide (uptoBulkAll ds ≤ 1048576)
def OpenSpec.upto (s : _root_.Go.ChangeSpec) : _root_.Go.OpenSpec := { _root_.Go.OpenSpec.ofChange s with cond := some uptoSmall }

/-- 'ratlinetop.TopRungs', WHERE WHAT IT READS IS OF BULK AT MOST 1048576: true; the input reads as it did. -/
def topRungsUptoRow : OpenClaim := { program := "ytfnlfpodeoilgaagreatdoor", sum := "b5ddd7b80265398ec04ad15df3bc98ca62c6d4423108d618f482bbdbf254380b", func := "ratline/ratlinetop.TopRungs", spec := "topRungs", inPlace := ["slices.overlaps[ratline/api.Value]", "slices.overlaps[ratline/store.slot]", "slices.overlaps[int]", "slices.overlaps[ratline/fifo.entry[ratline/api.Claim]]"], unfollowed := true, recurses := true, named := ["ratline/mode.against", "ratline/protocol.levels"], plainKeys := false, apart := false, laid := [("ratline/mode.against", laid_ratline_mode_against), ("ratline/protocol.levels", laid_ratline_protocol_levels)], narrowed := true }
def TopRungsUptoSaid : Prop := topRungsUptoRow.holds Tryz.pinned (OpenSpec.upto topRungsSpec)

/-- 'ratlinetop.TopTaken', WHERE WHAT IT READS IS OF BULK AT MOST 1048576: true; the input reads as it did. -/
def topTakenUptoRow : OpenClaim := { program := "ytfnlfpodeoilgaagreatdoor", sum := "b5ddd7b80265398ec04ad15df3bc98ca62c6d4423108d618f482bbdbf254380b", func := "ratline/ratlinetop.TopTaken", spec := "topTaken", inPlace := ["slices.overlaps[ratline/api.Value]", "slices.overlaps[ratline/store.slot]", "slices.overlaps[int]", "slices.overlaps[ratline/fifo.entry[ratline/api.Claim]]"], unfollowed := true, recurses := true, named := ["ratline/mode.against", "ratline/protocol.levels"], plainKeys := false, apart := false, laid := [("ratline/mode.against", laid_ratline_mode_against), ("ratline/protocol.levels", laid_ratline_protocol_levels)], narrowed := true }
def TopTakenUptoSaid : Prop := topTakenUptoRow.holds Tryz.pinned (OpenSpec.upto topTakenSpec)

end Rows
end Go.Proofs.YtfnlfpodeoilgaaGreatDoor
