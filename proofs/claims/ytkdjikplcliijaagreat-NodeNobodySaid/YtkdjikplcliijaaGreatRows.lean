/-
  No cell of these rows narrows 'for every input' (looked for: loops, veiled, ifaces, maps, wideKeys, modest, calm, conditions, laid).
  DERIVED. THE GIVEN ROWS OF THIS SEAT. 5 by the template 'for every input the law returns true; each argument reads behind the call as it read before'; 0 by the template 'total and deterministic' (their statements: YtkdjikplcliijaaGreatTotals.lean).
  GIVEN WITH THE SEED: the statements are not yours to turn. If you find one false, say at which input.
  Laid BY PROGRAM, IN A SANDBOX (cutbox-rows.mjs): the forced cells as the released guide's own fill.sh prints them over the translation 9dbb037eaaf7f29c… (all of the seat's roots in one cut). By AI agents, Wed Nov 11 2026. No macro, syntax, notation, axiom, sorry.
-/
import Derived.Test.YtkdjikplcliijaaGreatChecked
import GoSem.Claim
import GoSem.ClaimJoined
import GoSem.ClaimMapViews
import Derived.JoinedTies
import Derived.KernelRfl
namespace Go.Proofs.YtkdjikplcliijaaGreat
/- THE CELL 'sum', in the pinned program and in every row, IS THE sha256 OF THE DUMP (.gsa) THAT YtkdjikplcliijaaGreatProg.lean LOADS. Nothing in Lean hashes anything: it is a label: what it is worth is what the hold of that sum in a sandbox is worth. -/
noncomputable def Tryz.pinned : Pinned := { name := "ytkdjikplcliijaagreat", sum := "9dbb037eaaf7f29c61ccff8da136c0a1d8e0e43cb00a63b921a8517b65a5be97", checked := Tryz.checked }
namespace Rows
def none {H : Type} : Left H := { results := [], args := [] }

/-- 'viaductlaw19.NodeLabels': WHATEVER THE INPUT: true; the input reads as it did. -/
def nodeLabelsSpec : ChangeSpec := { name := "nodeLabels", fn := fun _ => fun
  | [d] => { results := [.lit (.bool true)], args := [d] }
  | _ => none }
def nodeLabelsRow : OpenClaim := { program := "ytkdjikplcliijaagreat", sum := "9dbb037eaaf7f29c61ccff8da136c0a1d8e0e43cb00a63b921a8517b65a5be97", func := "viaduct/viaductlaw19.NodeLabels", spec := "nodeLabels", inPlace := ["slices.overlaps[viaduct/soft.State]", "slices.overlaps[viaduct/admit.Entry]", "math/bits.Add64", "slices.overlaps[viaduct/lfib.Row]"], unfollowed := true, recurses := true, plainKeys := false, apart := false }
def NodeLabelsSaid : Prop := nodeLabelsRow.holds Tryz.pinned (OpenSpec.ofChange nodeLabelsSpec)

/-- ITS FALSE NEIGHBOUR: 'it returns false'. Refute it at one input. -/
def nodeLabelsWrong : ChangeSpec := { name := "nodeLabels", fn := fun _ => fun
  | [d] => { results := [.lit (.bool false)], args := [d] }
  | _ => none }
def NodeLabelsWrongFalsely : Prop := nodeLabelsRow.holds Tryz.pinned (OpenSpec.ofChange nodeLabelsWrong)

/-- 'viaductlaw19.NodeTwice': WHATEVER THE INPUT: true; the input reads as it did. -/
def nodeTwiceSpec : ChangeSpec := { name := "nodeTwice", fn := fun _ => fun
  | [d] => { results := [.lit (.bool true)], args := [d] }
  | _ => none }
def nodeTwiceRow : OpenClaim := { program := "ytkdjikplcliijaagreat", sum := "9dbb037eaaf7f29c61ccff8da136c0a1d8e0e43cb00a63b921a8517b65a5be97", func := "viaduct/viaductlaw19.NodeTwice", spec := "nodeTwice", inPlace := ["slices.overlaps[viaduct/soft.State]", "slices.overlaps[viaduct/admit.Entry]", "math/bits.Add64", "slices.overlaps[viaduct/lfib.Row]"], unfollowed := true, recurses := true, plainKeys := false, apart := false }
def NodeTwiceSaid : Prop := nodeTwiceRow.holds Tryz.pinned (OpenSpec.ofChange nodeTwiceSpec)

/-- ITS FALSE NEIGHBOUR: 'it returns false'. Refute it at one input. -/
def nodeTwiceWrong : ChangeSpec := { name := "nodeTwice", fn := fun _ => fun
  | [d] => { results := [.lit (.bool false)], args := [d] }
  | _ => none }
def NodeTwiceWrongFalsely : Prop := nodeTwiceRow.holds Tryz.pinned (OpenSpec.ofChange nodeTwiceWrong)

/-- 'viaductlaw19.NodeBooks': WHATEVER THE INPUT: true; the input reads as it did. -/
def nodeBooksSpec : ChangeSpec := { name := "nodeBooks", fn := fun _ => fun
  | [d] => { results := [.lit (.bool true)], args := [d] }
  | _ => none }
def nodeBooksRow : OpenClaim := { program := "ytkdjikplcliijaagreat", sum := "9dbb037eaaf7f29c61ccff8da136c0a1d8e0e43cb00a63b921a8517b65a5be97", func := "viaduct/viaductlaw19.NodeBooks", spec := "nodeBooks", inPlace := ["slices.overlaps[viaduct/soft.State]", "slices.overlaps[viaduct/admit.Entry]", "math/bits.Add64", "slices.overlaps[viaduct/lfib.Row]"], unfollowed := true, recurses := true, plainKeys := false, apart := false }
def NodeBooksSaid : Prop := nodeBooksRow.holds Tryz.pinned (OpenSpec.ofChange nodeBooksSpec)

/-- ITS FALSE NEIGHBOUR: 'it returns false'. Refute it at one input. -/
def nodeBooksWrong : ChangeSpec := { name := "nodeBooks", fn := fun _ => fun
  | [d] => { results := [.lit (.bool false)], args := [d] }
  | _ => none }
def NodeBooksWrongFalsely : Prop := nodeBooksRow.holds Tryz.pinned (OpenSpec.ofChange nodeBooksWrong)

/-- 'viaductlaw19.NodeTears': WHATEVER THE INPUT: true; the input reads as it did. -/
def nodeTearsSpec : ChangeSpec := { name := "nodeTears", fn := fun _ => fun
  | [d] => { results := [.lit (.bool true)], args := [d] }
  | _ => none }
def nodeTearsRow : OpenClaim := { program := "ytkdjikplcliijaagreat", sum := "9dbb037eaaf7f29c61ccff8da136c0a1d8e0e43cb00a63b921a8517b65a5be97", func := "viaduct/viaductlaw19.NodeTears", spec := "nodeTears", inPlace := ["slices.overlaps[viaduct/soft.State]", "slices.overlaps[viaduct/admit.Entry]", "math/bits.Add64", "slices.overlaps[viaduct/lfib.Row]"], unfollowed := true, recurses := true, plainKeys := false, apart := false }
def NodeTearsSaid : Prop := nodeTearsRow.holds Tryz.pinned (OpenSpec.ofChange nodeTearsSpec)

/-- ITS FALSE NEIGHBOUR: 'it returns false'. Refute it at one input. -/
def nodeTearsWrong : ChangeSpec := { name := "nodeTears", fn := fun _ => fun
  | [d] => { results := [.lit (.bool false)], args := [d] }
  | _ => none }
def NodeTearsWrongFalsely : Prop := nodeTearsRow.holds Tryz.pinned (OpenSpec.ofChange nodeTearsWrong)

/-- 'viaductlaw19.NodeNobody': WHATEVER THE INPUT: true; the input reads as it did. -/
def nodeNobodySpec : ChangeSpec := { name := "nodeNobody", fn := fun _ => fun
  | [d] => { results := [.lit (.bool true)], args := [d] }
  | _ => none }
def nodeNobodyRow : OpenClaim := { program := "ytkdjikplcliijaagreat", sum := "9dbb037eaaf7f29c61ccff8da136c0a1d8e0e43cb00a63b921a8517b65a5be97", func := "viaduct/viaductlaw19.NodeNobody", spec := "nodeNobody", inPlace := ["slices.overlaps[viaduct/soft.State]", "slices.overlaps[viaduct/admit.Entry]", "math/bits.Add64", "slices.overlaps[viaduct/lfib.Row]"], unfollowed := true, recurses := true, plainKeys := false, apart := false }
def NodeNobodySaid : Prop := nodeNobodyRow.holds Tryz.pinned (OpenSpec.ofChange nodeNobodySpec)

/-- ITS FALSE NEIGHBOUR: 'it returns false'. Refute it at one input. -/
def nodeNobodyWrong : ChangeSpec := { name := "nodeNobody", fn := fun _ => fun
  | [d] => { results := [.lit (.bool false)], args := [d] }
  | _ => none }
def NodeNobodyWrongFalsely : Prop := nodeNobodyRow.holds Tryz.pinned (OpenSpec.ofChange nodeNobodyWrong)

/- THE SECOND FORM. 'bulk': how many values and letters a reading holds, each counted each time it is reached (what is shared counts as often as it is met; a slice's spare places count too). A statement '..UptoSaid' is the law's where the arguments, and the package variables that the reading takes, are together of bulk at most 1048576: NARROWER than '..Said'. Prove '..Said' where nothing that the law and all that it calls make is longer than what came in: it says more and counts as full. Else prove '..UptoSaid'. A law counts once. -/
mutual
def uptoBulk {H : Type} : DataW H → Nat
  | .lit (.string bytes) => bytes.length + 1
  | .lit _ => 1
  | .nil => 1
  | .ptr d => uptoBulk d + 1
  | .slice elems spare => uptoBulkAll elems + uptoBulkAll spare + 1
  | .agg parts => uptoBulkAll parts + 1
  | .iface _ d => uptoBulk d + 1
  | .map entries => uptoBulkEntries entries + 1
  | .held _ => 1
def uptoBulkAll {H : Type} : List (DataW H) → Nat
  | [] => 0
  | d :: r => uptoBulk d + uptoBulkAll r
def uptoBulkEntries {H : Type} : List (Lit × DataW H) → Nat
  | [] => 0
  | x :: r => uptoBulkEntry x + uptoBulkEntries r
def uptoBulkEntry {H : Type} : Lit × DataW H → Nat
  | (.string bytes, d) => bytes.length + uptoBulk d + 1
  | (_, d) => uptoBulk d + 1
 end
def uptoSmall : (H : Type) → List (DataW H) → Bool := fun _ ds => decide (uptoBulkAll ds ≤ 1048576)
def OpenSpec.upto (s : _root_.Go.ChangeSpec) : _root_.Go.OpenSpec := { _root_.Go.OpenSpec.ofChange s with cond := some uptoSmall }

/-- 'viaductlaw19.NodeLabels', WHERE WHAT IT READS IS OF BULK AT MOST 1048576: true; the input reads as it did. -/
def nodeLabelsUptoRow : OpenClaim := { program := "ytkdjikplcliijaagreat", sum := "9dbb037eaaf7f29c61ccff8da136c0a1d8e0e43cb00a63b921a8517b65a5be97", func := "viaduct/viaductlaw19.NodeLabels", spec := "nodeLabels", inPlace := ["slices.overlaps[viaduct/soft.State]", "slices.overlaps[viaduct/admit.Entry]", "math/bits.Add64", "slices.overlaps[viaduct/lfib.Row]"], unfollowed := true, recurses := true, plainKeys := false, apart := false, narrowed := true }
def NodeLabelsUptoSaid : Prop := nodeLabelsUptoRow.holds Tryz.pinned (OpenSpec.upto nodeLabelsSpec)

/-- 'viaductlaw19.NodeTwice', WHERE WHAT IT READS IS OF BULK AT MOST 1048576: true; the input reads as it did. -/
def nodeTwiceUptoRow : OpenClaim := { program := "ytkdjikplcliijaagreat", sum := "9dbb037eaaf7f29c61ccff8da136c0a1d8e0e43cb00a63b921a8517b65a5be97", func := "viaduct/viaductlaw19.NodeTwice", spec := "nodeTwice", inPlace := ["slices.overlaps[viaduct/soft.State]", "slices.overlaps[viaduct/admit.Entry]", "math/bits.Add64", "slices.overlaps[viaduct/lfib.Row]"], unfollowed := true, recurses := true, plainKeys := false, apart := false, narrowed := true }
def NodeTwiceUptoSaid : Prop := nodeTwiceUptoRow.holds Tryz.pinned (OpenSpec.upto nodeTwiceSpec)

/-- 'viaductlaw19.NodeBooks', WHERE WHAT IT READS IS OF BULK AT MOST 1048576: true; the input reads as it did. -/
def nodeBooksUptoRow : OpenClaim := { program := "ytkdjikplcliijaagreat", sum := "9dbb037eaaf7f29c61ccff8da136c0a1d8e0e43cb00a63b921a8517b65a5be97", func := "viaduct/viaductlaw19.NodeBooks", spec := "nodeBooks", inPlace := ["slices.overlaps[viaduct/soft.State]", "slices.overlaps[viaduct/admit.Entry]", "math/bits.Add64", "slices.overlaps[viaduct/lfib.Row]"], unfollowed := true, recurses := true, plainKeys := false, apart := false, narrowed := true }
def NodeBooksUptoSaid : Prop := nodeBooksUptoRow.holds Tryz.pinned (OpenSpec.upto nodeBooksSpec)

/-- 'viaductlaw19.NodeTears', WHERE WHAT IT READS IS OF BULK AT MOST 1048576: true; the input reads as it did. -/
def nodeTearsUptoRow : OpenClaim := { program := "ytkdjikplcliijaagreat", sum := "9dbb037eaaf7f29c61ccff8da136c0a1d8e0e43cb00a63b921a8517b65a5be97", func := "viaduct/viaductlaw19.NodeTears", spec := "nodeTears", inPlace := ["slices.overlaps[viaduct/soft.State]", "slices.overlaps[viaduct/admit.Entry]", "math/bits.Add64", "slices.overlaps[viaduct/lfib.Row]"], unfollowed := true, recurses := true, plainKeys := false, apart := false, narrowed := true }
def NodeTearsUptoSaid : Prop := nodeTearsUptoRow.holds Tryz.pinned (OpenSpec.upto nodeTearsSpec)

/-- 'viaductlaw19.NodeNobody', WHERE WHAT IT READS IS OF BULK AT MOST 1048576: true; the input reads as it did. -/
def nodeNobodyUptoRow : OpenClaim := { program := "ytkdjikplcliijaagreat", sum := "9dbb037eaaf7f29c61ccff8da136c0a1d8e0e43cb00a63b921a8517b65a5be97", func := "viaduct/viaductlaw19.NodeNobody", spec := "nodeNobody", inPlace := ["slices.overlaps[viaduct/soft.State]", "slices.overlaps[viaduct/admit.Entry]", "math/bits.Add64", "slices.overlaps[viaduct/lfib.Row]"], unfollowed := true, recurses := true, plainKeys := false, apart := false, narrowed := true }
def NodeNobodyUptoSaid : Prop := nodeNobodyUptoRow.holds Tryz.pinned (OpenSpec.upto nodeNobodySpec)

end Rows
end Go.Proofs.YtkdjikplcliijaaGreat
