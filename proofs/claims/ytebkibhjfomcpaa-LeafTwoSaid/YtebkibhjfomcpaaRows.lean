/-
  No cell of these rows narrows 'for every input' (looked for: loops, veiled, ifaces, maps, wideKeys, modest, calm, conditions, laid).
  DERIVED. THE GIVEN ROWS OF THIS SEAT. 6 by the template 'for every input the law returns true; each argument reads behind the call as it read before'; 0 by the template 'total and deterministic' (their statements: YtebkibhjfomcpaaTotals.lean).
  GIVEN WITH THE SEED: the statements are not yours to turn. If you find one false, say at which input.
  Laid BY PROGRAM, IN A SANDBOX (cutbox-rows.mjs): the forced cells as the released guide's own fill.sh prints them over the translation 076a1c7aedfc0685… (all of the seat's roots in one cut). By AI agents, Wed Nov 11 2026. No macro, syntax, notation, axiom, sorry.
-/
import Derived.Test.YtebkibhjfomcpaaChecked
import GoSem.Claim
import GoSem.ClaimJoined
import GoSem.ClaimMapViews
import Derived.JoinedTies
import Derived.KernelRfl
namespace Go.Proofs.Ytebkibhjfomcpaa
/- THE CELL 'sum', in the pinned program and in every row, IS THE sha256 OF THE DUMP (.gsa) THAT YtebkibhjfomcpaaProg.lean LOADS. Nothing in Lean hashes anything: it is a label: what it is worth is what the hold of that sum in a sandbox is worth. -/
noncomputable def Try.pinned : Pinned := { name := "ytebkibhjfomcpaa", sum := "076a1c7aedfc06855c73ce98da0180abb6154cef0532b7671505adb0fd4e4fa3", checked := Try.checked }
namespace Rows
def none {H : Type} : Left H := { results := [], args := [] }

/-- 'cordwoodlaw07.LeafIs': WHATEVER THE INPUT: true; the input reads as it did. -/
def leafIsSpec : ChangeSpec := { name := "leafIs", fn := fun _ => fun
  | [d1, d2, d3] => { results := [.lit (.bool true)], args := [d1, d2, d3] }
  | _ => none }
def leafIsRow : OpenClaim := { program := "ytebkibhjfomcpaa", sum := "076a1c7aedfc06855c73ce98da0180abb6154cef0532b7671505adb0fd4e4fa3", func := "cordwood/cordwoodlaw07.LeafIs", spec := "leafIs", unfollowed := true, recurses := true, apart := false }
def LeafIsSaid : Prop := leafIsRow.holds Try.pinned (OpenSpec.ofChange leafIsSpec)

/-- ITS FALSE NEIGHBOUR: 'it returns false'. Refute it at one input. -/
def leafIsWrong : ChangeSpec := { name := "leafIs", fn := fun _ => fun
  | [d1, d2, d3] => { results := [.lit (.bool false)], args := [d1, d2, d3] }
  | _ => none }
def LeafIsWrongFalsely : Prop := leafIsRow.holds Try.pinned (OpenSpec.ofChange leafIsWrong)

/-- 'cordwoodlaw07.LeafBack': WHATEVER THE INPUT: true; the input reads as it did. -/
def leafBackSpec : ChangeSpec := { name := "leafBack", fn := fun _ => fun
  | [d1, d2, d3] => { results := [.lit (.bool true)], args := [d1, d2, d3] }
  | _ => none }
def leafBackRow : OpenClaim := { program := "ytebkibhjfomcpaa", sum := "076a1c7aedfc06855c73ce98da0180abb6154cef0532b7671505adb0fd4e4fa3", func := "cordwood/cordwoodlaw07.LeafBack", spec := "leafBack", unfollowed := true, recurses := true, apart := false }
def LeafBackSaid : Prop := leafBackRow.holds Try.pinned (OpenSpec.ofChange leafBackSpec)

/-- ITS FALSE NEIGHBOUR: 'it returns false'. Refute it at one input. -/
def leafBackWrong : ChangeSpec := { name := "leafBack", fn := fun _ => fun
  | [d1, d2, d3] => { results := [.lit (.bool false)], args := [d1, d2, d3] }
  | _ => none }
def LeafBackWrongFalsely : Prop := leafBackRow.holds Try.pinned (OpenSpec.ofChange leafBackWrong)

/-- 'cordwoodlaw07.LeafOnly': WHATEVER THE INPUT: true; the input reads as it did. -/
def leafOnlySpec : ChangeSpec := { name := "leafOnly", fn := fun _ => fun
  | [d] => { results := [.lit (.bool true)], args := [d] }
  | _ => none }
def leafOnlyRow : OpenClaim := { program := "ytebkibhjfomcpaa", sum := "076a1c7aedfc06855c73ce98da0180abb6154cef0532b7671505adb0fd4e4fa3", func := "cordwood/cordwoodlaw07.LeafOnly", spec := "leafOnly", unfollowed := true, recurses := true, apart := false }
def LeafOnlySaid : Prop := leafOnlyRow.holds Try.pinned (OpenSpec.ofChange leafOnlySpec)

/-- ITS FALSE NEIGHBOUR: 'it returns false'. Refute it at one input. -/
def leafOnlyWrong : ChangeSpec := { name := "leafOnly", fn := fun _ => fun
  | [d] => { results := [.lit (.bool false)], args := [d] }
  | _ => none }
def LeafOnlyWrongFalsely : Prop := leafOnlyRow.holds Try.pinned (OpenSpec.ofChange leafOnlyWrong)

/-- 'cordwoodlaw07.LeafApart': WHATEVER THE INPUT: true; the input reads as it did. -/
def leafApartSpec : ChangeSpec := { name := "leafApart", fn := fun _ => fun
  | [d1, d2] => { results := [.lit (.bool true)], args := [d1, d2] }
  | _ => none }
def leafApartRow : OpenClaim := { program := "ytebkibhjfomcpaa", sum := "076a1c7aedfc06855c73ce98da0180abb6154cef0532b7671505adb0fd4e4fa3", func := "cordwood/cordwoodlaw07.LeafApart", spec := "leafApart", unfollowed := true, recurses := true, apart := false }
def LeafApartSaid : Prop := leafApartRow.holds Try.pinned (OpenSpec.ofChange leafApartSpec)

/-- ITS FALSE NEIGHBOUR: 'it returns false'. Refute it at one input. -/
def leafApartWrong : ChangeSpec := { name := "leafApart", fn := fun _ => fun
  | [d1, d2] => { results := [.lit (.bool false)], args := [d1, d2] }
  | _ => none }
def LeafApartWrongFalsely : Prop := leafApartRow.holds Try.pinned (OpenSpec.ofChange leafApartWrong)

/-- 'cordwoodlaw07.LeafTwo': WHATEVER THE INPUT: true; the input reads as it did. -/
def leafTwoSpec : ChangeSpec := { name := "leafTwo", fn := fun _ => fun
  | [d] => { results := [.lit (.bool true)], args := [d] }
  | _ => none }
def leafTwoRow : OpenClaim := { program := "ytebkibhjfomcpaa", sum := "076a1c7aedfc06855c73ce98da0180abb6154cef0532b7671505adb0fd4e4fa3", func := "cordwood/cordwoodlaw07.LeafTwo", spec := "leafTwo", unfollowed := true, recurses := true, apart := false }
def LeafTwoSaid : Prop := leafTwoRow.holds Try.pinned (OpenSpec.ofChange leafTwoSpec)

/-- ITS FALSE NEIGHBOUR: 'it returns false'. Refute it at one input. -/
def leafTwoWrong : ChangeSpec := { name := "leafTwo", fn := fun _ => fun
  | [d] => { results := [.lit (.bool false)], args := [d] }
  | _ => none }
def LeafTwoWrongFalsely : Prop := leafTwoRow.holds Try.pinned (OpenSpec.ofChange leafTwoWrong)

/-- 'cordwoodlaw07.LeafWrong': WHATEVER THE INPUT: true; the input reads as it did. -/
def leafWrongSpec : ChangeSpec := { name := "leafWrong", fn := fun _ => fun
  | [d1, d2] => { results := [.lit (.bool true)], args := [d1, d2] }
  | _ => none }
def leafWrongRow : OpenClaim := { program := "ytebkibhjfomcpaa", sum := "076a1c7aedfc06855c73ce98da0180abb6154cef0532b7671505adb0fd4e4fa3", func := "cordwood/cordwoodlaw07.LeafWrong", spec := "leafWrong", unfollowed := true, recurses := true, apart := false }
def LeafWrongSaid : Prop := leafWrongRow.holds Try.pinned (OpenSpec.ofChange leafWrongSpec)

/-- ITS FALSE NEIGHBOUR: 'it returns false'. Refute it at one input. -/
def leafWrongWrong : ChangeSpec := { name := "leafWrong", fn := fun _ => fun
  | [d1, d2] => { results := [.lit (.bool false)], args := [d1, d2] }
  | _ => none }
def LeafWrongWrongFalsely : Prop := leafWrongRow.holds Try.pinned (OpenSpec.ofChange leafWrongWrong)

/- THE SECOND FORM. 'bulk': how many values and letters a reading holds, each counted each time it is reached (what is shared counts as often as it is met; a slice's spare places count too). A statement '..UptoSaid' is the law's where the arguments, and the package variables that the reading takes, are together of bulk at most 1048576: NARROWER than '..Said'. Prove '..Said' where nothing that the law and all that it calls make is longer than what came in: it says more and counts as full. Else prove '..UptoSaid'. A law counts once. -/
mutual
def uptoBulk {H : Type} : DataW H → Nat
  | .lit (.string bytes) => bytes.length + 1
  | .lit _ => 1
  | .nil => 1
  | .ptr d => uptoBulk d + 1
  | .slice elems spare => uptoBulkAll elems + uptoBulkAll spare + 1
  | .agg parts => uptoBulkAll parts + 1
  | .iface _ d => uptoBulk d + 1
  | .map entries => uptoBulkEntries entries + 1
  | .held _ => 1
def uptoBulkAll {H : Type} : List (DataW H) → Nat
  | [] => 0
  | d :: r => uptoBulk d + uptoBulkAll r
def uptoBulkEntries {H : Type} : List (Lit × DataW H) → Nat
  | [] => 0
  | x :: r => uptoBulkEntry x + uptoBulkEntries r
def uptoBulkEntry {H : Type} : Lit × DataW H → Nat
  | (.string bytes, d) => bytes.length + uptoBulk d + 1
  | (_, d) => uptoBulk d + 1
 end
def uptoSmall : (H : Type) → List (DataW H) → Bool := fun _ ds => decide (uptoBulkAll ds ≤ 1048576)
def OpenSpec.upto (s : _root_.Go.ChangeSpec) : _root_.Go.OpenSpec := { _root_.Go.OpenSpec.ofChange s with cond := some uptoSmall }

/-- 'cordwoodlaw07.LeafIs', WHERE WHAT IT READS IS OF BULK AT MOST 1048576: true; the input reads as it did. -/
def leafIsUptoRow : OpenClaim := { program := "ytebkibhjfomcpaa", sum := "076a1c7aedfc06855c73ce98da0180abb6154cef0532b7671505adb0fd4e4fa3", func := "cordwood/cordwoodlaw07.LeafIs", spec := "leafIs", unfollowed := true, recurses := true, apart := false, narrowed := true }
def LeafIsUptoSaid : Prop := leafIsUptoRow.holds Try.pinned (OpenSpec.upto leafIsSpec)

/-- 'cordwoodlaw07.LeafBack', WHERE WHAT IT READS IS OF BULK AT MOST 1048576: true; the input reads as it did. -/
def leafBackUptoRow : OpenClaim := { program := "ytebkibhjfomcpaa", sum := "076a1c7aedfc06855c73ce98da0180abb6154cef0532b7671505adb0fd4e4fa3", func := "cordwood/cordwoodlaw07.LeafBack", spec := "leafBack", unfollowed := true, recurses := true, apart := false, narrowed := true }
def LeafBackUptoSaid : Prop := leafBackUptoRow.holds Try.pinned (OpenSpec.upto leafBackSpec)

/-- 'cordwoodlaw07.LeafOnly', WHERE WHAT IT READS IS OF BULK AT MOST 1048576: true; the input reads as it did. -/
def leafOnlyUptoRow : OpenClaim := { program := "ytebkibhjfomcpaa", sum := "076a1c7aedfc06855c73ce98da0180abb6154cef0532b7671505adb0fd4e4fa3", func := "cordwood/cordwoodlaw07.LeafOnly", spec := "leafOnly", unfollowed := true, recurses := true, apart := false, narrowed := true }
def LeafOnlyUptoSaid : Prop := leafOnlyUptoRow.holds Try.pinned (OpenSpec.upto leafOnlySpec)

/-- 'cordwoodlaw07.LeafApart', WHERE WHAT IT READS IS OF BULK AT MOST 1048576: true; the input reads as it did. -/
def leafApartUptoRow : OpenClaim := { program := "ytebkibhjfomcpaa", sum := "076a1c7aedfc06855c73ce98da0180abb6154cef0532b7671505adb0fd4e4fa3", func := "cordwood/cordwoodlaw07.LeafApart", spec := "leafApart", unfollowed := true, recurses := true, apart := false, narrowed := true }
def LeafApartUptoSaid : Prop := leafApartUptoRow.holds Try.pinned (OpenSpec.upto leafApartSpec)

/-- 'cordwoodlaw07.LeafTwo', WHERE WHAT IT READS IS OF BULK AT MOST 1048576: true; the input reads as it did. -/
def leafTwoUptoRow : OpenClaim := { program := "ytebkibhjfomcpaa", sum := "076a1c7aedfc06855c73ce98da0180abb6154cef0532b7671505adb0fd4e4fa3", func := "cordwood/cordwoodlaw07.LeafTwo", spec := "leafTwo", unfollowed := true, recurses := true, apart := false, narrowed := true }
def LeafTwoUptoSaid : Prop := leafTwoUptoRow.holds Try.pinned (OpenSpec.upto leafTwoSpec)

/-- 'cordwoodlaw07.LeafWrong', WHERE WHAT IT READS IS OF BULK AT MOST 1048576: true; the input reads as it did. -/
def leafWrongUptoRow : OpenClaim := { program := "ytebkibhjfomcpaa", sum := "076a1c7aedfc06855c73ce98da0180abb6154cef0532b7671505adb0fd4e4fa3", func := "cordwood/cordwoodlaw07.LeafWrong", spec := "leafWrong", unfollowed := true, recurses := true, apart := false, narrowed := true }
def LeafWrongUptoSaid : Prop := leafWrongUptoRow.holds Try.pinned (OpenSpec.upto leafWrongSpec)

end Rows
end Go.Proofs.Ytebkibhjfomcpaa
