/-
  No cell of these rows narrows 'for every input' (looked for: loops, veiled, ifaces, maps, wideKeys, modest, calm, conditions, laid).
  DERIVED. THE GIVEN ROWS OF THIS SEAT. 4 by the template 'for every input the law returns true; each argument reads behind the call as it read before'; 0 by the template 'total and deterministic' (their statements: YtmddhglhfgomiaaTotals.lean).
  GIVEN WITH THE SEED: the statements are not yours to turn. If you find one false, say at which input.
  Laid BY PROGRAM, IN A SANDBOX (cutbox-rows.mjs): the forced cells as the released guide's own fill.sh prints them over the translation 4768ba1d72b8cd7a… (all of the seat's roots in one cut). By AI agents, Wed Nov 11 2026. No macro, syntax, notation, axiom, sorry.
-/
import Derived.Test.YtmddhglhfgomiaaChecked
import GoSem.Claim
import GoSem.ClaimJoined
import GoSem.ClaimMapViews
import Derived.JoinedTies
import Derived.KernelRfl
namespace Go.Proofs.Ytmddhglhfgomiaa
/- THE CELL 'sum', in the pinned program and in every row, IS THE sha256 OF THE DUMP (.gsa) THAT YtmddhglhfgomiaaProg.lean LOADS. Nothing in Lean hashes anything: it is a label: what it is worth is what the hold of that sum in a sandbox is worth. -/
noncomputable def Try.pinned : Pinned := { name := "ytmddhglhfgomiaa", sum := "4768ba1d72b8cd7a82c0c418f08c6603c2ee15f98ed301b1e956bc365181352a", checked := Try.checked }
namespace Rows
def none {H : Type} : Left H := { results := [], args := [] }

/-- 'underpasslaw16.BridgeLearns': WHATEVER THE INPUT: true; the input reads as it did. -/
def bridgeLearnsSpec : ChangeSpec := { name := "bridgeLearns", fn := fun _ => fun
  | [d1, d2, d3, d4, d5, d6, d7] => { results := [.lit (.bool true)], args := [d1, d2, d3, d4, d5, d6, d7] }
  | _ => none }
def bridgeLearnsRow : OpenClaim := { program := "ytmddhglhfgomiaa", sum := "4768ba1d72b8cd7a82c0c418f08c6603c2ee15f98ed301b1e956bc365181352a", func := "underpass/underpasslaw16.BridgeLearns", spec := "bridgeLearns", inPlace := ["slices.overlaps[int]", "internal/bytealg.Compare"], unfollowed := true, recurses := true, plainKeys := false, apart := false }
def BridgeLearnsSaid : Prop := bridgeLearnsRow.holds Try.pinned (OpenSpec.ofChange bridgeLearnsSpec)

/-- ITS FALSE NEIGHBOUR: 'it returns false'. Refute it at one input. -/
def bridgeLearnsWrong : ChangeSpec := { name := "bridgeLearns", fn := fun _ => fun
  | [d1, d2, d3, d4, d5, d6, d7] => { results := [.lit (.bool false)], args := [d1, d2, d3, d4, d5, d6, d7] }
  | _ => none }
def BridgeLearnsWrongFalsely : Prop := bridgeLearnsRow.holds Try.pinned (OpenSpec.ofChange bridgeLearnsWrong)

/-- 'underpasslaw16.BridgeStays': WHATEVER THE INPUT: true; the input reads as it did. -/
def bridgeStaysSpec : ChangeSpec := { name := "bridgeStays", fn := fun _ => fun
  | [d1, d2, d3] => { results := [.lit (.bool true)], args := [d1, d2, d3] }
  | _ => none }
def bridgeStaysRow : OpenClaim := { program := "ytmddhglhfgomiaa", sum := "4768ba1d72b8cd7a82c0c418f08c6603c2ee15f98ed301b1e956bc365181352a", func := "underpass/underpasslaw16.BridgeStays", spec := "bridgeStays", inPlace := ["slices.overlaps[int]", "internal/bytealg.Compare"], unfollowed := true, recurses := true, plainKeys := false, apart := false }
def BridgeStaysSaid : Prop := bridgeStaysRow.holds Try.pinned (OpenSpec.ofChange bridgeStaysSpec)

/-- ITS FALSE NEIGHBOUR: 'it returns false'. Refute it at one input. -/
def bridgeStaysWrong : ChangeSpec := { name := "bridgeStays", fn := fun _ => fun
  | [d1, d2, d3] => { results := [.lit (.bool false)], args := [d1, d2, d3] }
  | _ => none }
def BridgeStaysWrongFalsely : Prop := bridgeStaysRow.holds Try.pinned (OpenSpec.ofChange bridgeStaysWrong)

/-- 'underpasslaw16.BridgeFloods': WHATEVER THE INPUT: true; the input reads as it did. -/
def bridgeFloodsSpec : ChangeSpec := { name := "bridgeFloods", fn := fun _ => fun
  | [d1, d2, d3] => { results := [.lit (.bool true)], args := [d1, d2, d3] }
  | _ => none }
def bridgeFloodsRow : OpenClaim := { program := "ytmddhglhfgomiaa", sum := "4768ba1d72b8cd7a82c0c418f08c6603c2ee15f98ed301b1e956bc365181352a", func := "underpass/underpasslaw16.BridgeFloods", spec := "bridgeFloods", inPlace := ["slices.overlaps[int]", "internal/bytealg.Compare"], unfollowed := true, recurses := true, plainKeys := false, apart := false }
def BridgeFloodsSaid : Prop := bridgeFloodsRow.holds Try.pinned (OpenSpec.ofChange bridgeFloodsSpec)

/-- ITS FALSE NEIGHBOUR: 'it returns false'. Refute it at one input. -/
def bridgeFloodsWrong : ChangeSpec := { name := "bridgeFloods", fn := fun _ => fun
  | [d1, d2, d3] => { results := [.lit (.bool false)], args := [d1, d2, d3] }
  | _ => none }
def BridgeFloodsWrongFalsely : Prop := bridgeFloodsRow.holds Try.pinned (OpenSpec.ofChange bridgeFloodsWrong)

/-- 'underpasslaw16.BridgeTells': WHATEVER THE INPUT: true; the input reads as it did. -/
def bridgeTellsSpec : ChangeSpec := { name := "bridgeTells", fn := fun _ => fun
  | [d1, d2, d3] => { results := [.lit (.bool true)], args := [d1, d2, d3] }
  | _ => none }
def bridgeTellsRow : OpenClaim := { program := "ytmddhglhfgomiaa", sum := "4768ba1d72b8cd7a82c0c418f08c6603c2ee15f98ed301b1e956bc365181352a", func := "underpass/underpasslaw16.BridgeTells", spec := "bridgeTells", inPlace := ["slices.overlaps[int]", "internal/bytealg.Compare"], unfollowed := true, recurses := true, plainKeys := false, apart := false }
def BridgeTellsSaid : Prop := bridgeTellsRow.holds Try.pinned (OpenSpec.ofChange bridgeTellsSpec)

/-- ITS FALSE NEIGHBOUR: 'it returns false'. Refute it at one input. -/
def bridgeTellsWrong : ChangeSpec := { name := "bridgeTells", fn := fun _ => fun
  | [d1, d2, d3] => { results := [.lit (.bool false)], args := [d1, d2, d3] }
  | _ => none }
def BridgeTellsWrongFalsely : Prop := bridgeTellsRow.holds Try.pinned (OpenSpec.ofChange bridgeTellsWrong)

/- THE SECOND FORM. 'bulk': how many values and letters a reading holds, each counted each time it is reached (what is shared counts as often as it is met; a slice's spare places count too). A statement '..UptoSaid' is the law's where the arguments, and the package variables that the reading takes, are together of bulk at most 1048576: NARROWER than '..Said'. Prove '..Said' where nothing that the law and all that it calls make is longer than what came in: it says more and counts as full. Else prove '..UptoSaid'. A law counts once. -/
mutual
def uptoBulk {H : Type} : DataW H → Nat
  | .lit (.string bytes) => bytes.length + 1
  | .lit _ => 1
  | .nil => 1
  | .ptr d => uptoBulk d + 1
  | .slice elems spare => uptoBulkAll elems + uptoBulkAll spare + 1
  | .agg parts => uptoBulkAll parts + 1
  | .iface _ d => uptoBulk d + 1
  | .map entries => uptoBulkEntries entries + 1
  | .held _ => 1
def uptoBulkAll {H : Type} : List (DataW H) → Nat
  | [] => 0
  | d :: r => uptoBulk d + uptoBulkAll r
def uptoBulkEntries {H : Type} : List (Lit × DataW H) → Nat
  | [] => 0
  | x :: r => uptoBulkEntry x + uptoBulkEntries r
def uptoBulkEntry {H : Type} : Lit × DataW H → Nat
  | (.string bytes, d) => bytes.length + uptoBulk d + 1
  | (_, d) => uptoBulk d + 1
 end
def uptoSmall : (H : Type) → List (DataW H) → Bool := fun _ ds => decide (uptoBulkAll ds ≤ 1048576)
def OpenSpec.upto (s : _root_.Go.ChangeSpec) : _root_.Go.OpenSpec := { _root_.Go.OpenSpec.ofChange s with cond := some uptoSmall }

/-- 'underpasslaw16.BridgeLearns', WHERE WHAT IT READS IS OF BULK AT MOST 1048576: true; the input reads as it did. -/
def bridgeLearnsUptoRow : OpenClaim := { program := "ytmddhglhfgomiaa", sum := "4768ba1d72b8cd7a82c0c418f08c6603c2ee15f98ed301b1e956bc365181352a", func := "underpass/underpasslaw16.BridgeLearns", spec := "bridgeLearns", inPlace := ["slices.overlaps[int]", "internal/bytealg.Compare"], unfollowed := true, recurses := true, plainKeys := false, apart := false, narrowed := true }
def BridgeLearnsUptoSaid : Prop := bridgeLearnsUptoRow.holds Try.pinned (OpenSpec.upto bridgeLearnsSpec)

/-- 'underpasslaw16.BridgeStays', WHERE WHAT IT READS IS OF BULK AT MOST 1048576: true; the input reads as it did. -/
def bridgeStaysUptoRow : OpenClaim := { program := "ytmddhglhfgomiaa", sum := "4768ba1d72b8cd7a82c0c418f08c6603c2ee15f98ed301b1e956bc365181352a", func := "underpass/underpasslaw16.BridgeStays", spec := "bridgeStays", inPlace := ["slices.overlaps[int]", "internal/bytealg.Compare"], unfollowed := true, recurses := true, plainKeys := false, apart := false, narrowed := true }
def BridgeStaysUptoSaid : Prop := bridgeStaysUptoRow.holds Try.pinned (OpenSpec.upto bridgeStaysSpec)

/-- 'underpasslaw16.BridgeFloods', WHERE WHAT IT READS IS OF BULK AT MOST 1048576: true; the input reads as it did. -/
def bridgeFloodsUptoRow : OpenClaim := { program := "ytmddhglhfgomiaa", sum := "4768ba1d72b8cd7a82c0c418f08c6603c2ee15f98ed301b1e956bc365181352a", func := "underpass/underpasslaw16.BridgeFloods", spec := "bridgeFloods", inPlace := ["slices.overlaps[int]", "internal/bytealg.Compare"], unfollowed := true, recurses := true, plainKeys := false, apart := false, narrowed := true }
def BridgeFloodsUptoSaid : Prop := bridgeFloodsUptoRow.holds Try.pinned (OpenSpec.upto bridgeFloodsSpec)

/-- 'underpasslaw16.BridgeTells', WHERE WHAT IT READS IS OF BULK AT MOST 1048576: true; the input reads as it did. -/
def bridgeTellsUptoRow : OpenClaim := { program := "ytmddhglhfgomiaa", sum := "4768ba1d72b8cd7a82c0c418f08c6603c2ee15f98ed301b1e956bc365181352a", func := "underpass/underpasslaw16.BridgeTells", spec := "bridgeTells", inPlace := ["slices.overlaps[int]", "internal/bytealg.Compare"], unfollowed := true, recurses := true, plainKeys := false, apart := false, narrowed := true }
def BridgeTellsUptoSaid : Prop := bridgeTellsUptoRow.holds Try.pinned (OpenSpec.upto bridgeTellsSpec)

end Rows
end Go.Proofs.Ytmddhglhfgomiaa
