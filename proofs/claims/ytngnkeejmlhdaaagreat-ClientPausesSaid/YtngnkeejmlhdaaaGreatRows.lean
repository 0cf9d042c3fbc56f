/-
  No cell of these rows narrows 'for every input' (looked for: loops, veiled, ifaces, maps, wideKeys, modest, calm, conditions, laid).
  DERIVED. THE GIVEN ROWS OF THIS SEAT. 3 by the template 'for every input the law returns true; each argument reads behind the call as it read before'; 0 by the template 'total and deterministic' (their statements: YtngnkeejmlhdaaaGreatTotals.lean).
  GIVEN WITH THE SEED: the statements are not yours to turn. If you find one false, say at which input.
  Laid BY PROGRAM, IN A SANDBOX (cutbox-rows.mjs): the forced cells as the released guide's own fill.sh prints them over the translation 5986f5d66afda165… (all of the seat's roots in one cut). By AI agents, Wed Nov 11 2026. No macro, syntax, notation, axiom, sorry.
-/
import Derived.Test.YtngnkeejmlhdaaaGreatChecked
import GoSem.Claim
import GoSem.ClaimJoined
import GoSem.ClaimMapViews
import Derived.JoinedTies
import Derived.KernelRfl
namespace Go.Proofs.YtngnkeejmlhdaaaGreat
/- THE CELL 'sum', in the pinned program and in every row, IS THE sha256 OF THE DUMP (.gsa) THAT YtngnkeejmlhdaaaGreatProg.lean LOADS. Nothing in Lean hashes anything: it is a label: what it is worth is what the hold of that sum in a sandbox is worth. -/
noncomputable def Tryz.pinned : Pinned := { name := "ytngnkeejmlhdaaagreat", sum := "5986f5d66afda1655badab6f261c35977caa1f89210825368ecef24aed6a8fdf", checked := Tryz.checked }
namespace Rows
def none {H : Type} : Left H := { results := [], args := [] }

/-- 'remudalaw23.NodeStarts': WHATEVER THE INPUT: true; the input reads as it did. -/
def nodeStartsSpec : ChangeSpec := { name := "nodeStarts", fn := fun _ => fun
  | [d1, d2, d3] => { results := [.lit (.bool true)], args := [d1, d2, d3] }
  | _ => none }
def nodeStartsRow : OpenClaim := { program := "ytngnkeejmlhdaaagreat", sum := "5986f5d66afda1655badab6f261c35977caa1f89210825368ecef24aed6a8fdf", func := "remuda/remudalaw23.NodeStarts", spec := "nodeStarts", inPlace := ["slices.overlaps[remuda/ledger.Prepared]", "slices.overlaps[remuda/ledger.Decided]", "internal/abi.NoEscape", "internal/bytealg.MakeNoZero"], unfollowed := true, recurses := true, plainKeys := false, apart := false }
def NodeStartsSaid : Prop := nodeStartsRow.holds Tryz.pinned (OpenSpec.ofChange nodeStartsSpec)

/-- ITS FALSE NEIGHBOUR: 'it returns false'. Refute it at one input. -/
def nodeStartsWrong : ChangeSpec := { name := "nodeStarts", fn := fun _ => fun
  | [d1, d2, d3] => { results := [.lit (.bool false)], args := [d1, d2, d3] }
  | _ => none }
def NodeStartsWrongFalsely : Prop := nodeStartsRow.holds Tryz.pinned (OpenSpec.ofChange nodeStartsWrong)

/-- 'remudalaw24.ClusterNone': WHATEVER THE INPUT: true; the input reads as it did. -/
def clusterNoneSpec : ChangeSpec := { name := "clusterNone", fn := fun _ => fun
  | [d1, d2] => { results := [.lit (.bool true)], args := [d1, d2] }
  | _ => none }
def clusterNoneRow : OpenClaim := { program := "ytngnkeejmlhdaaagreat", sum := "5986f5d66afda1655badab6f261c35977caa1f89210825368ecef24aed6a8fdf", func := "remuda/remudalaw24.ClusterNone", spec := "clusterNone", inPlace := ["slices.overlaps[remuda/ledger.Prepared]", "slices.overlaps[remuda/ledger.Decided]", "internal/abi.NoEscape", "internal/bytealg.MakeNoZero"], unfollowed := true, recurses := true, plainKeys := false, apart := false }
def ClusterNoneSaid : Prop := clusterNoneRow.holds Tryz.pinned (OpenSpec.ofChange clusterNoneSpec)

/-- ITS FALSE NEIGHBOUR: 'it returns false'. Refute it at one input. -/
def clusterNoneWrong : ChangeSpec := { name := "clusterNone", fn := fun _ => fun
  | [d1, d2] => { results := [.lit (.bool false)], args := [d1, d2] }
  | _ => none }
def ClusterNoneWrongFalsely : Prop := clusterNoneRow.holds Tryz.pinned (OpenSpec.ofChange clusterNoneWrong)

/-- 'remudalaw30.ClientPauses': WHATEVER THE INPUT: true; the input reads as it did. -/
def clientPausesSpec : ChangeSpec := { name := "clientPauses", fn := fun _ => fun
  | [d1, d2] => { results := [.lit (.bool true)], args := [d1, d2] }
  | _ => none }
def clientPausesRow : OpenClaim := { program := "ytngnkeejmlhdaaagreat", sum := "5986f5d66afda1655badab6f261c35977caa1f89210825368ecef24aed6a8fdf", func := "remuda/remudalaw30.ClientPauses", spec := "clientPauses", inPlace := ["slices.overlaps[remuda/ledger.Prepared]", "slices.overlaps[remuda/ledger.Decided]", "internal/abi.NoEscape", "internal/bytealg.MakeNoZero"], unfollowed := true, recurses := true, plainKeys := false, apart := false }
def ClientPausesSaid : Prop := clientPausesRow.holds Tryz.pinned (OpenSpec.ofChange clientPausesSpec)

/-- ITS FALSE NEIGHBOUR: 'it returns false'. Refute it at one input. -/
def clientPausesWrong : ChangeSpec := { name := "clientPauses", fn := fun _ => fun
  | [d1, d2] => { results := [.lit (.bool false)], args := [d1, d2] }
  | _ => none }
def ClientPausesWrongFalsely : Prop := clientPausesRow.holds Tryz.pinned (OpenSpec.ofChange clientPausesWrong)

/- THE SECOND FORM. 'bulk': how many values and letters a reading holds, each counted each time it is reached (what is shared counts as often as it is met; a slice's spare places count too). A statement '..UptoSaid' is the law's where the arguments, and the package variables that the reading takes, are together of bulk at most 1048576: NARROWER than '..Said'. Prove '..Said' where nothing that the law and all that it calls make is longer than what came in: it says more and counts as full. Else prove '..UptoSaid'. A law counts once. -/
mutual
def uptoBulk {H : Type} : DataW H → Nat
  | .lit (.string bytes) => bytes.length + 1
  | .lit _ => 1
  | .nil => 1
  | .ptr d => uptoBulk d + 1
  | .slice elems spare => uptoBulkAll elems + uptoBulkAll spare + 1
  | .agg parts => uptoBulkAll parts + 1
  | .iface _ d => uptoBulk d + 1
  | .map entries => uptoBulkEntries entries + 1
  | .held _ => 1
def uptoBulkAll {H : Type} : List (DataW H) → Nat
  | [] => 0
  | d :: r => uptoBulk d + uptoBulkAll r
def uptoBulkEntries {H : Type} : List (Lit × DataW H) → Nat
  | [] => 0
  | x :: r => uptoBulkEntry x + uptoBulkEntries r
def uptoBulkEntry {H : Type} : Lit × DataW H → Nat
  | (.string bytes, d) => bytes.length + uptoBulk d + 1
  | (_, d) => uptoBulk d + 1
 end
def uptoSmall : (H : Type) → List (DataW H) → Bool := fun _ ds => decide (uptoBulkAll ds ≤ 1048576)
def OpenSpec.upto (s : _root_.Go.ChangeSpec) : _root_.Go.OpenSpec := { _root_.Go.OpenSpec.ofChange s with cond := some uptoSmall }

/-- 'remudalaw23.NodeStarts', WHERE WHAT IT READS IS OF BULK AT MOST 1048576: true; the input reads as it did. -/
def nodeStartsUptoRow : OpenClaim := { program := "ytngnkeejmlhdaaagreat", sum := "5986f5d66afda1655badab6f261c35977caa1f89210825368ecef24aed6a8fdf", func := "remuda/remudalaw23.NodeStarts", spec := "nodeStarts", inPlace := ["slices.overlaps[remuda/ledger.Prepared]", "slices.overlaps[remuda/ledger.Decided]", "internal/abi.NoEscape", "internal/bytealg.MakeNoZero"], unfollowed := true, recurses := true, plainKeys := false, apart := false, narrowed := true }
def NodeStartsUptoSaid : Prop := nodeStartsUptoRow.holds Tryz.pinned (OpenSpec.upto nodeStartsSpec)

/-- 'remudalaw24.ClusterNone', WHERE WHAT IT READS IS OF BULK AT MOST 1048576: true; the input reads as it did. -/
def clusterNoneUptoRow : OpenClaim := { program := "ytngnkeejmlhdaaagreat", sum := "5986f5d66afda1655badab6f261c35977caa1f89210825368ecef24aed6a8fdf", func := "remuda/remudalaw24.ClusterNone", spec := "clusterNone", inPlace := ["slices.overlaps[remuda/ledger.Prepared]", "slices.overlaps[remuda/ledger.Decided]", "internal/abi.NoEscape", "internal/bytealg.MakeNoZero"], unfollowed := true, recurses := true, plainKeys := false, apart := false, narrowed := true }
def ClusterNoneUptoSaid : Prop := clusterNoneUptoRow.holds Tryz.pinned (OpenSpec.upto clusterNoneSpec)

/-- 'remudalaw30.ClientPauses', WHERE WHAT IT READS IS OF BULK AT MOST 1048576: true; the input reads as it did. -/
def clientPausesUptoRow : OpenClaim := { program := "ytngnkeejmlhdaaagreat", sum := "5986f5d66afda1655badab6f261c35977caa1f89210825368ecef24aed6a8fdf", func := "remuda/remudalaw30.ClientPauses", spec := "clientPauses", inPlace := ["slices.overlaps[remuda/ledger.Prepared]", "slices.overlaps[remuda/ledger.Decided]", "internal/abi.NoEscape", "internal/bytealg.MakeNoZero"], unfollowed := true, recurses := true, plainKeys := false, apart := false, narrowed := true }
def ClientPausesUptoSaid : Prop := clientPausesUptoRow.holds Tryz.pinned (OpenSpec.upto clientPausesSpec)

end Rows
end Go.Proofs.YtngnkeejmlhdaaaGreat
