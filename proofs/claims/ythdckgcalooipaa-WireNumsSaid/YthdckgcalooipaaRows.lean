/-
  No cell of these rows narrows 'for every input' (looked for: loops, veiled, ifaces, maps, wideKeys, modest, calm, conditions, laid).
  DERIVED. THE GIVEN ROWS OF THIS SEAT. 6 by the template 'for every input the law returns true; each argument reads behind the call as it read before'; 0 by the template 'total and deterministic' (their statements: YthdckgcalooipaaTotals.lean).
  GIVEN WITH THE SEED: the statements are not yours to turn. If you find one false, say at which input.
  Laid BY PROGRAM, IN A SANDBOX (cutbox-rows.mjs): the forced cells as the released guide's own fill.sh prints them over the translation 310a4f2617353161… (all of the seat's roots in one cut). By AI agents, Wed Nov 11 2026. No macro, syntax, notation, axiom, sorry.
-/
import Derived.Test.YthdckgcalooipaaChecked
import GoSem.Claim
import GoSem.ClaimJoined
import GoSem.ClaimMapViews
import Derived.JoinedTies
import Derived.KernelRfl
namespace Go.Proofs.Ythdckgcalooipaa
/- THE CELL 'sum', in the pinned program and in every row, IS THE sha256 OF THE DUMP (.gsa) THAT YthdckgcalooipaaProg.lean LOADS. Nothing in Lean hashes anything: it is a label: what it is worth is what the hold of that sum in a sandbox is worth. -/
noncomputable def Try.pinned : Pinned := { name := "ythdckgcalooipaa", sum := "310a4f2617353161789d54ae100bf3e5ce7fe19abcea89db4934d7cd757e3730", checked := Try.checked }
namespace Rows
def none {H : Type} : Left H := { results := [], args := [] }

/-- 'cordwoodlaw02.WireNums': WHATEVER THE INPUT: true; the input reads as it did. -/
def wireNumsSpec : ChangeSpec := { name := "wireNums", fn := fun _ => fun
  | [d1, d2, d3] => { results := [.lit (.bool true)], args := [d1, d2, d3] }
  | _ => none }
def wireNumsRow : OpenClaim := { program := "ythdckgcalooipaa", sum := "310a4f2617353161789d54ae100bf3e5ce7fe19abcea89db4934d7cd757e3730", func := "cordwood/cordwoodlaw02.WireNums", spec := "wireNums", unfollowed := true, recurses := true, apart := false }
def WireNumsSaid : Prop := wireNumsRow.holds Try.pinned (OpenSpec.ofChange wireNumsSpec)

/-- ITS FALSE NEIGHBOUR: 'it returns false'. Refute it at one input. -/
def wireNumsWrong : ChangeSpec := { name := "wireNums", fn := fun _ => fun
  | [d1, d2, d3] => { results := [.lit (.bool false)], args := [d1, d2, d3] }
  | _ => none }
def WireNumsWrongFalsely : Prop := wireNumsRow.holds Try.pinned (OpenSpec.ofChange wireNumsWrong)

/-- 'cordwoodlaw02.WireIs': WHATEVER THE INPUT: true; the input reads as it did. -/
def wireIsSpec : ChangeSpec := { name := "wireIs", fn := fun _ => fun
  | [d1, d2, d3, d4, d5] => { results := [.lit (.bool true)], args := [d1, d2, d3, d4, d5] }
  | _ => none }
def wireIsRow : OpenClaim := { program := "ythdckgcalooipaa", sum := "310a4f2617353161789d54ae100bf3e5ce7fe19abcea89db4934d7cd757e3730", func := "cordwood/cordwoodlaw02.WireIs", spec := "wireIs", unfollowed := true, recurses := true, apart := false }
def WireIsSaid : Prop := wireIsRow.holds Try.pinned (OpenSpec.ofChange wireIsSpec)

/-- ITS FALSE NEIGHBOUR: 'it returns false'. Refute it at one input. -/
def wireIsWrong : ChangeSpec := { name := "wireIs", fn := fun _ => fun
  | [d1, d2, d3, d4, d5] => { results := [.lit (.bool false)], args := [d1, d2, d3, d4, d5] }
  | _ => none }
def WireIsWrongFalsely : Prop := wireIsRow.holds Try.pinned (OpenSpec.ofChange wireIsWrong)

/-- 'cordwoodlaw02.WireBack': WHATEVER THE INPUT: true; the input reads as it did. -/
def wireBackSpec : ChangeSpec := { name := "wireBack", fn := fun _ => fun
  | [d1, d2, d3, d4, d5] => { results := [.lit (.bool true)], args := [d1, d2, d3, d4, d5] }
  | _ => none }
def wireBackRow : OpenClaim := { program := "ythdckgcalooipaa", sum := "310a4f2617353161789d54ae100bf3e5ce7fe19abcea89db4934d7cd757e3730", func := "cordwood/cordwoodlaw02.WireBack", spec := "wireBack", unfollowed := true, recurses := true, apart := false }
def WireBackSaid : Prop := wireBackRow.holds Try.pinned (OpenSpec.ofChange wireBackSpec)

/-- ITS FALSE NEIGHBOUR: 'it returns false'. Refute it at one input. -/
def wireBackWrong : ChangeSpec := { name := "wireBack", fn := fun _ => fun
  | [d1, d2, d3, d4, d5] => { results := [.lit (.bool false)], args := [d1, d2, d3, d4, d5] }
  | _ => none }
def WireBackWrongFalsely : Prop := wireBackRow.holds Try.pinned (OpenSpec.ofChange wireBackWrong)

/-- 'cordwoodlaw02.WireShort': WHATEVER THE INPUT: true; the input reads as it did. -/
def wireShortSpec : ChangeSpec := { name := "wireShort", fn := fun _ => fun
  | [d1, d2, d3] => { results := [.lit (.bool true)], args := [d1, d2, d3] }
  | _ => none }
def wireShortRow : OpenClaim := { program := "ythdckgcalooipaa", sum := "310a4f2617353161789d54ae100bf3e5ce7fe19abcea89db4934d7cd757e3730", func := "cordwood/cordwoodlaw02.WireShort", spec := "wireShort", unfollowed := true, recurses := true, apart := false }
def WireShortSaid : Prop := wireShortRow.holds Try.pinned (OpenSpec.ofChange wireShortSpec)

/-- ITS FALSE NEIGHBOUR: 'it returns false'. Refute it at one input. -/
def wireShortWrong : ChangeSpec := { name := "wireShort", fn := fun _ => fun
  | [d1, d2, d3] => { results := [.lit (.bool false)], args := [d1, d2, d3] }
  | _ => none }
def WireShortWrongFalsely : Prop := wireShortRow.holds Try.pinned (OpenSpec.ofChange wireShortWrong)

/-- 'cordwoodlaw02.WireOnly': WHATEVER THE INPUT: true; the input reads as it did. -/
def wireOnlySpec : ChangeSpec := { name := "wireOnly", fn := fun _ => fun
  | [d] => { results := [.lit (.bool true)], args := [d] }
  | _ => none }
def wireOnlyRow : OpenClaim := { program := "ythdckgcalooipaa", sum := "310a4f2617353161789d54ae100bf3e5ce7fe19abcea89db4934d7cd757e3730", func := "cordwood/cordwoodlaw02.WireOnly", spec := "wireOnly", unfollowed := true, recurses := true, apart := false }
def WireOnlySaid : Prop := wireOnlyRow.holds Try.pinned (OpenSpec.ofChange wireOnlySpec)

/-- ITS FALSE NEIGHBOUR: 'it returns false'. Refute it at one input. -/
def wireOnlyWrong : ChangeSpec := { name := "wireOnly", fn := fun _ => fun
  | [d] => { results := [.lit (.bool false)], args := [d] }
  | _ => none }
def WireOnlyWrongFalsely : Prop := wireOnlyRow.holds Try.pinned (OpenSpec.ofChange wireOnlyWrong)

/-- 'cordwoodlaw02.WireSize': WHATEVER THE INPUT: true; the input reads as it did. -/
def wireSizeSpec : ChangeSpec := { name := "wireSize", fn := fun _ => fun
  | [d1, d2] => { results := [.lit (.bool true)], args := [d1, d2] }
  | _ => none }
def wireSizeRow : OpenClaim := { program := "ythdckgcalooipaa", sum := "310a4f2617353161789d54ae100bf3e5ce7fe19abcea89db4934d7cd757e3730", func := "cordwood/cordwoodlaw02.WireSize", spec := "wireSize", unfollowed := true, recurses := true, apart := false }
def WireSizeSaid : Prop := wireSizeRow.holds Try.pinned (OpenSpec.ofChange wireSizeSpec)

/-- ITS FALSE NEIGHBOUR: 'it returns false'. Refute it at one input. -/
def wireSizeWrong : ChangeSpec := { name := "wireSize", fn := fun _ => fun
  | [d1, d2] => { results := [.lit (.bool false)], args := [d1, d2] }
  | _ => none }
def WireSizeWrongFalsely : Prop := wireSizeRow.holds Try.pinned (OpenSpec.ofChange wireSizeWrong)

/- THE SECOND FORM. 'bulk': how many values and letters a reading holds, each counted each time it is reached (what is shared counts as often as it is met; a slice's spare places count too). A statement '..UptoSaid' is the law's where the arguments, and the package variables that the reading takes, are together of bulk at most 1048576: NARROWER than '..Said'. Prove '..Said' where nothing that the law and all that it calls make is longer than what came in: it says more and counts as full. Else prove '..UptoSaid'. A law counts once. -/
mutual
def uptoBulk {H : Type} : DataW H → Nat
  | .lit (.string bytes) => bytes.length + 1
  | .lit _ => 1
  | .nil => 1
  | .ptr d => uptoBulk d + 1
  | .slice elems spare => uptoBulkAll elems + uptoBulkAll spare + 1
  | .agg parts => uptoBulkAll parts + 1
  | .iface _ d => uptoBulk d + 1
  | .map entries => uptoBulkEntries entries + 1
  | .held _ => 1
def uptoBulkAll {H : Type} : List (DataW H) → Nat
  | [] => 0
  | d :: r => uptoBulk d + uptoBulkAll r
def uptoBulkEntries {H : Type} : List (Lit × DataW H) → Nat
  | [] => 0
  | x :: r => uptoBulkEntry x + uptoBulkEntries r
def uptoBulkEntry {H : Type} : Lit × DataW H → Nat
  | (.string bytes, d) => bytes.length + uptoBulk d + 1
  | (_, d) => uptoBulk d + 1
 end
def uptoSmall : (H : Type) → List (DataW H) → Bool := fun _ ds => decide (uptoBulkAll ds ≤ 1048576)
def OpenSpec.upto (s : _root_.Go.ChangeSpec) : _root_.Go.OpenSpec := { _root_.Go.OpenSpec.ofChange s with cond := some uptoSmall }

/-- 'cordwoodlaw02.WireNums', WHERE WHAT IT READS IS OF BULK AT MOST 1048576: true; the input reads as it did. -/
def wireNumsUptoRow : OpenClaim := { program := "ythdckgcalooipaa", sum := "310a4f2617353161789d54ae100bf3e5ce7fe19abcea89db4934d7cd757e3730", func := "cordwood/cordwoodlaw02.WireNums", spec := "wireNums", unfollowed := true, recurses := true, apart := false, narrowed := true }
def WireNumsUptoSaid : Prop := wireNumsUptoRow.holds Try.pinned (OpenSpec.upto wireNumsSpec)

/-- 'cordwoodlaw02.WireIs', WHERE WHAT IT READS IS OF BULK AT MOST 1048576: true; the input reads as it did. -/
def wireIsUptoRow : OpenClaim := { program := "ythdckgcalooipaa", sum := "310a4f2617353161789d54ae100bf3e5ce7fe19abcea89db4934d7cd757e3730", func := "cordwood/cordwoodlaw02.WireIs", spec := "wireIs", unfollowed := true, recurses := true, apart := false, narrowed := true }
def WireIsUptoSaid : Prop := wireIsUptoRow.holds Try.pinned (OpenSpec.upto wireIsSpec)

/-- 'cordwoodlaw02.WireBack', WHERE WHAT IT READS IS OF BULK AT MOST 1048576: true; the input reads as it did. -/
def wireBackUptoRow : OpenClaim := { program := "ythdckgcalooipaa", sum := "310a4f2617353161789d54ae100bf3e5ce7fe19abcea89db4934d7cd757e3730", func := "cordwood/cordwoodlaw02.WireBack", spec := "wireBack", unfollowed := true, recurses := true, apart := false, narrowed := true }
def WireBackUptoSaid : Prop := wireBackUptoRow.holds Try.pinned (OpenSpec.upto wireBackSpec)

/-- 'cordwoodlaw02.WireShort', WHERE WHAT IT READS IS OF BULK AT MOST 1048576: true; the input reads as it did. -/
def wireShortUptoRow : OpenClaim := { program := "ythdckgcalooipaa", sum := "310a4f2617353161789d54ae100bf3e5ce7fe19abcea89db4934d7cd757e3730", func := "cordwood/cordwoodlaw02.WireShort", spec := "wireShort", unfollowed := true, recurses := true, apart := false, narrowed := true }
def WireShortUptoSaid : Prop := wireShortUptoRow.holds Try.pinned (OpenSpec.upto wireShortSpec)

/-- 'cordwoodlaw02.WireOnly', WHERE WHAT IT READS IS OF BULK AT MOST 1048576: true; the input reads as it did. -/
def wireOnlyUptoRow : OpenClaim := { program := "ythdckgcalooipaa", sum := "310a4f2617353161789d54ae100bf3e5ce7fe19abcea89db4934d7cd757e3730", func := "cordwood/cordwoodlaw02.WireOnly", spec := "wireOnly", unfollowed := true, recurses := true, apart := false, narrowed := true }
def WireOnlyUptoSaid : Prop := wireOnlyUptoRow.holds Try.pinned (OpenSpec.upto wireOnlySpec)

/-- 'cordwoodlaw02.WireSize', WHERE WHAT IT READS IS OF BULK AT MOST 1048576: true; the input reads as it did. -/
def wireSizeUptoRow : OpenClaim := { program := "ythdckgcalooipaa", sum := "310a4f2617353161789d54ae100bf3e5ce7fe19abcea89db4934d7cd757e3730", func := "cordwood/cordwoodlaw02.WireSize", spec := "wireSize", unfollowed := true, recurses := true, apart := false, narrowed := true }
def WireSizeUptoSaid : Prop := wireSizeUptoRow.holds Try.pinned (OpenSpec.upto wireSizeSpec)

end Rows
end Go.Proofs.Ythdckgcalooipaa
