/-
  No cell of these rows narrows 'for every input' (looked for: loops, veiled, ifaces, maps, wideKeys, modest, calm, conditions, laid).
  DERIVED. THE GIVEN ROWS OF THIS SEAT. 6 by the template 'for every input the law returns true; each argument reads behind the call as it read before'; 0 by the template 'total and deterministic' (their statements: YtnglofnelmojnaaTotals.lean).
  GIVEN WITH THE SEED: the statements are not yours to turn. If you find one false, say at which input.
  Laid BY PROGRAM, IN A SANDBOX (cutbox-rows.mjs): the forced cells as the released guide's own fill.sh prints them over the translation 690c3262c1772f80… (all of the seat's roots in one cut). By AI agents, Wed Nov 11 2026. No macro, syntax, notation, axiom, sorry.
-/
import Derived.Test.YtnglofnelmojnaaChecked
import GoSem.Claim
import GoSem.ClaimJoined
import GoSem.ClaimMapViews
import Derived.JoinedTies
import Derived.KernelRfl
namespace Go.Proofs.Ytnglofnelmojnaa
/- THE CELL 'sum', in the pinned program and in every row, IS THE sha256 OF THE DUMP (.gsa) THAT YtnglofnelmojnaaProg.lean LOADS. Nothing in Lean hashes anything: it is a label: what it is worth is what the hold of that sum in a sandbox is worth. -/
noncomputable def Try.pinned : Pinned := { name := "ytnglofnelmojnaa", sum := "690c3262c1772f80898c286c9668d8e05ba2da3716dfde97b01cb60a6f57e5d7", checked := Try.checked }
namespace Rows
def none {H : Type} : Left H := { results := [], args := [] }

/-- 'paliolaw09.BoundMembers': WHATEVER THE INPUT: true; the input reads as it did. -/
def boundMembersSpec : ChangeSpec := { name := "boundMembers", fn := fun _ => fun
  | [d1, d2, d3] => { results := [.lit (.bool true)], args := [d1, d2, d3] }
  | _ => none }
def boundMembersRow : OpenClaim := { program := "ytnglofnelmojnaa", sum := "690c3262c1772f80898c286c9668d8e05ba2da3716dfde97b01cb60a6f57e5d7", func := "palio/paliolaw09.BoundMembers", spec := "boundMembers", unfollowed := true, recurses := true, apart := false }
def BoundMembersSaid : Prop := boundMembersRow.holds Try.pinned (OpenSpec.ofChange boundMembersSpec)

/-- ITS FALSE NEIGHBOUR: 'it returns false'. Refute it at one input. -/
def boundMembersWrong : ChangeSpec := { name := "boundMembers", fn := fun _ => fun
  | [d1, d2, d3] => { results := [.lit (.bool false)], args := [d1, d2, d3] }
  | _ => none }
def BoundMembersWrongFalsely : Prop := boundMembersRow.holds Try.pinned (OpenSpec.ofChange boundMembersWrong)

/-- 'paliolaw09.BoundWider': WHATEVER THE INPUT: true; the input reads as it did. -/
def boundWiderSpec : ChangeSpec := { name := "boundWider", fn := fun _ => fun
  | [d1, d2, d3, d4] => { results := [.lit (.bool true)], args := [d1, d2, d3, d4] }
  | _ => none }
def boundWiderRow : OpenClaim := { program := "ytnglofnelmojnaa", sum := "690c3262c1772f80898c286c9668d8e05ba2da3716dfde97b01cb60a6f57e5d7", func := "palio/paliolaw09.BoundWider", spec := "boundWider", unfollowed := true, recurses := true, apart := false }
def BoundWiderSaid : Prop := boundWiderRow.holds Try.pinned (OpenSpec.ofChange boundWiderSpec)

/-- ITS FALSE NEIGHBOUR: 'it returns false'. Refute it at one input. -/
def boundWiderWrong : ChangeSpec := { name := "boundWider", fn := fun _ => fun
  | [d1, d2, d3, d4] => { results := [.lit (.bool false)], args := [d1, d2, d3, d4] }
  | _ => none }
def BoundWiderWrongFalsely : Prop := boundWiderRow.holds Try.pinned (OpenSpec.ofChange boundWiderWrong)

/-- 'paliolaw09.BoundNone': WHATEVER THE INPUT: true; the input reads as it did. -/
def boundNoneSpec : ChangeSpec := { name := "boundNone", fn := fun _ => fun
  | [d1, d2, d3, d4, d5] => { results := [.lit (.bool true)], args := [d1, d2, d3, d4, d5] }
  | _ => none }
def boundNoneRow : OpenClaim := { program := "ytnglofnelmojnaa", sum := "690c3262c1772f80898c286c9668d8e05ba2da3716dfde97b01cb60a6f57e5d7", func := "palio/paliolaw09.BoundNone", spec := "boundNone", unfollowed := true, recurses := true, apart := false }
def BoundNoneSaid : Prop := boundNoneRow.holds Try.pinned (OpenSpec.ofChange boundNoneSpec)

/-- ITS FALSE NEIGHBOUR: 'it returns false'. Refute it at one input. -/
def boundNoneWrong : ChangeSpec := { name := "boundNone", fn := fun _ => fun
  | [d1, d2, d3, d4, d5] => { results := [.lit (.bool false)], args := [d1, d2, d3, d4, d5] }
  | _ => none }
def BoundNoneWrongFalsely : Prop := boundNoneRow.holds Try.pinned (OpenSpec.ofChange boundNoneWrong)

/-- 'paliolaw09.BoundIn': WHATEVER THE INPUT: true; the input reads as it did. -/
def boundInSpec : ChangeSpec := { name := "boundIn", fn := fun _ => fun
  | [d1, d2, d3, d4, d5] => { results := [.lit (.bool true)], args := [d1, d2, d3, d4, d5] }
  | _ => none }
def boundInRow : OpenClaim := { program := "ytnglofnelmojnaa", sum := "690c3262c1772f80898c286c9668d8e05ba2da3716dfde97b01cb60a6f57e5d7", func := "palio/paliolaw09.BoundIn", spec := "boundIn", unfollowed := true, recurses := true, apart := false }
def BoundInSaid : Prop := boundInRow.holds Try.pinned (OpenSpec.ofChange boundInSpec)

/-- ITS FALSE NEIGHBOUR: 'it returns false'. Refute it at one input. -/
def boundInWrong : ChangeSpec := { name := "boundIn", fn := fun _ => fun
  | [d1, d2, d3, d4, d5] => { results := [.lit (.bool false)], args := [d1, d2, d3, d4, d5] }
  | _ => none }
def BoundInWrongFalsely : Prop := boundInRow.holds Try.pinned (OpenSpec.ofChange boundInWrong)

/-- 'paliolaw09.BoundOrder': WHATEVER THE INPUT: true; the input reads as it did. -/
def boundOrderSpec : ChangeSpec := { name := "boundOrder", fn := fun _ => fun
  | [d1, d2, d3] => { results := [.lit (.bool true)], args := [d1, d2, d3] }
  | _ => none }
def boundOrderRow : OpenClaim := { program := "ytnglofnelmojnaa", sum := "690c3262c1772f80898c286c9668d8e05ba2da3716dfde97b01cb60a6f57e5d7", func := "palio/paliolaw09.BoundOrder", spec := "boundOrder", unfollowed := true, recurses := true, apart := false }
def BoundOrderSaid : Prop := boundOrderRow.holds Try.pinned (OpenSpec.ofChange boundOrderSpec)

/-- ITS FALSE NEIGHBOUR: 'it returns false'. Refute it at one input. -/
def boundOrderWrong : ChangeSpec := { name := "boundOrder", fn := fun _ => fun
  | [d1, d2, d3] => { results := [.lit (.bool false)], args := [d1, d2, d3] }
  | _ => none }
def BoundOrderWrongFalsely : Prop := boundOrderRow.holds Try.pinned (OpenSpec.ofChange boundOrderWrong)

/-- 'paliolaw09.BoundEdges': WHATEVER THE INPUT: true; the input reads as it did. -/
def boundEdgesSpec : ChangeSpec := { name := "boundEdges", fn := fun _ => fun
  | [d1, d2] => { results := [.lit (.bool true)], args := [d1, d2] }
  | _ => none }
def boundEdgesRow : OpenClaim := { program := "ytnglofnelmojnaa", sum := "690c3262c1772f80898c286c9668d8e05ba2da3716dfde97b01cb60a6f57e5d7", func := "palio/paliolaw09.BoundEdges", spec := "boundEdges", unfollowed := true, recurses := true, apart := false }
def BoundEdgesSaid : Prop := boundEdgesRow.holds Try.pinned (OpenSpec.ofChange boundEdgesSpec)

/-- ITS FALSE NEIGHBOUR: 'it returns false'. Refute it at one input. -/
def boundEdgesWrong : ChangeSpec := { name := "boundEdges", fn := fun _ => fun
  | [d1, d2] => { results := [.lit (.bool false)], args := [d1, d2] }
  | _ => none }
def BoundEdgesWrongFalsely : Prop := boundEdgesRow.holds Try.pinned (OpenSpec.ofChange boundEdgesWrong)

/- THE SECOND FORM. 'bulk': how many values and letters a reading holds, each counted each time it is reached (what is shared counts as often as it is met; a slice's spare places count too). A statement '..UptoSaid' is the law's where the arguments, and the package variables that the reading takes, are together of bulk at most 1048576: NARROWER than '..Said'. Prove '..Said' where nothing that the law and all that it calls make is longer than what came in: it says more and counts as full. Else prove '..UptoSaid'. A law counts once. -/
mutual
def uptoBulk {H : Type} : DataW H → Nat
  | .lit (.string bytes) => bytes.length + 1
  | .lit _ => 1
  | .nil => 1
  | .ptr d => uptoBulk d + 1
  | .slice elems spare => uptoBulkAll elems + uptoBulkAll spare + 1
  | .agg parts => uptoBulkAll parts + 1
  | .iface _ d => uptoBulk d + 1
  | .map entries => uptoBulkEntries entries + 1
  | .held _ => 1
def uptoBulkAll {H : Type} : List (DataW H) → Nat
  | [] => 0
  | d :: r => uptoBulk d + uptoBulkAll r
def uptoBulkEntries {H : Type} : List (Lit × DataW H) → Nat
  | [] => 0
  | x :: r => uptoBulkEntry x + uptoBulkEntries r
def uptoBulkEntry {H : Type} : Lit × DataW H → Nat
  | (.string bytes, d) => bytes.length + uptoBulk d + 1
  | (_, d) => uptoBulk d + 1
 end
def uptoSmall : (H : Type) → List (DataW H) → Bool := fun _ ds => decide (uptoBulkAll ds ≤ 1048576)
def OpenSpec.upto (s : _root_.Go.ChangeSpec) : _root_.Go.OpenSpec := { _root_.Go.OpenSpec.ofChange s with cond := some uptoSmall }

/-- 'paliolaw09.BoundMembers', WHERE WHAT IT READS IS OF BULK AT MOST 1048576: true; the input reads as it did. -/
def boundMembersUptoRow : OpenClaim := { program := "ytnglofnelmojnaa", sum := "690c3262c1772f80898c286c9668d8e05ba2da3716dfde97b01cb60a6f57e5d7", func := "palio/paliolaw09.BoundMembers", spec := "boundMembers", unfollowed := true, recurses := true, apart := false, narrowed := true }
def BoundMembersUptoSaid : Prop := boundMembersUptoRow.holds Try.pinned (OpenSpec.upto boundMembersSpec)

/-- 'paliolaw09.BoundWider', WHERE WHAT IT READS IS OF BULK AT MOST 1048576: true; the input reads as it did. -/
def boundWiderUptoRow : OpenClaim := { program := "ytnglofnelmojnaa", sum := "690c3262c1772f80898c286c9668d8e05ba2da3716dfde97b01cb60a6f57e5d7", func := "palio/paliolaw09.BoundWider", spec := "boundWider", unfollowed := true, recurses := true, apart := false, narrowed := true }
def BoundWiderUptoSaid : Prop := boundWiderUptoRow.holds Try.pinned (OpenSpec.upto boundWiderSpec)

/-- 'paliolaw09.BoundNone', WHERE WHAT IT READS IS OF BULK AT MOST 1048576: true; the input reads as it did. -/
def boundNoneUptoRow : OpenClaim := { program := "ytnglofnelmojnaa", sum := "690c3262c1772f80898c286c9668d8e05ba2da3716dfde97b01cb60a6f57e5d7", func := "palio/paliolaw09.BoundNone", spec := "boundNone", unfollowed := true, recurses := true, apart := false, narrowed := true }
def BoundNoneUptoSaid : Prop := boundNoneUptoRow.holds Try.pinned (OpenSpec.upto boundNoneSpec)

/-- 'paliolaw09.BoundIn', WHERE WHAT IT READS IS OF BULK AT MOST 1048576: true; the input reads as it did. -/
def boundInUptoRow : OpenClaim := { program := "ytnglofnelmojnaa", sum := "690c3262c1772f80898c286c9668d8e05ba2da3716dfde97b01cb60a6f57e5d7", func := "palio/paliolaw09.BoundIn", spec := "boundIn", unfollowed := true, recurses := true, apart := false, narrowed := true }
def BoundInUptoSaid : Prop := boundInUptoRow.holds Try.pinned (OpenSpec.upto boundInSpec)

/-- 'paliolaw09.BoundOrder', WHERE WHAT IT READS IS OF BULK AT MOST 1048576: true; the input reads as it did. -/
def boundOrderUptoRow : OpenClaim := { program := "ytnglofnelmojnaa", sum := "690c3262c1772f80898c286c9668d8e05ba2da3716dfde97b01cb60a6f57e5d7", func := "palio/paliolaw09.BoundOrder", spec := "boundOrder", unfollowed := true, recurses := true, apart := false, narrowed := true }
def BoundOrderUptoSaid : Prop := boundOrderUptoRow.holds Try.pinned (OpenSpec.upto boundOrderSpec)

/-- 'paliolaw09.BoundEdges', WHERE WHAT IT READS IS OF BULK AT MOST 1048576: true; the input reads as it did. -/
def boundEdgesUptoRow : OpenClaim := { program := "ytnglofnelmojnaa", sum := "690c3262c1772f80898c286c9668d8e05ba2da3716dfde97b01cb60a6f57e5d7", func := "palio/paliolaw09.BoundEdges", spec := "boundEdges", unfollowed := true, recurses := true, apart := false, narrowed := true }
def BoundEdgesUptoSaid : Prop := boundEdgesUptoRow.holds Try.pinned (OpenSpec.upto boundEdgesSpec)

end Rows
end Go.Proofs.Ytnglofnelmojnaa
