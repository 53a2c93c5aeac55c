/-
  No cell of these rows narrows 'for every input' (looked for: loops, veiled, ifaces, maps, wideKeys, modest, calm, conditions, laid).
  DERIVED. THE GIVEN ROWS OF THIS SEAT. 6 by the template 'for every input the law returns true; each argument reads behind the call as it read before'; 0 by the template 'total and deterministic' (their statements: YthcoccoanpmhgaaTotals.lean).
  GIVEN WITH THE SEED: the statements are not yours to turn. If you find one false, say at which input.
  Laid BY PROGRAM, IN A SANDBOX (cutbox-rows.mjs): the forced cells as the released guide's own fill.sh prints them over the translation 33917fc999d7f040… (all of the seat's roots in one cut). By AI agents, Wed Nov 11 2026. No macro, syntax, notation, axiom, sorry.
-/
import Derived.Test.YthcoccoanpmhgaaChecked
import GoSem.Claim
import GoSem.ClaimJoined
import GoSem.ClaimMapViews
import Derived.JoinedTies
import Derived.KernelRfl
namespace Go.Proofs.Ythcoccoanpmhgaa
/- THE CELL 'sum', in the pinned program and in every row, IS THE sha256 OF THE DUMP (.gsa) THAT YthcoccoanpmhgaaProg.lean LOADS. Nothing in Lean hashes anything: it is a label: what it is worth is what the hold of that sum in a sandbox is worth. -/
noncomputable def Try.pinned : Pinned := { name := "ythcoccoanpmhgaa", sum := "33917fc999d7f0406826722b95297c1d0b23b959d96ab1c71c9a78a73c457e43", checked := Try.checked }
namespace Rows
def none {H : Type} : Left H := { results := [], args := [] }

/-- 'cordwoodlaw01.VarintIs': WHATEVER THE INPUT: true; the input reads as it did. -/
def varintIsSpec : ChangeSpec := { name := "varintIs", fn := fun _ => fun
  | [d1, d2] => { results := [.lit (.bool true)], args := [d1, d2] }
  | _ => none }
def varintIsRow : OpenClaim := { program := "ythcoccoanpmhgaa", sum := "33917fc999d7f0406826722b95297c1d0b23b959d96ab1c71c9a78a73c457e43", func := "cordwood/cordwoodlaw01.VarintIs", spec := "varintIs", apart := false }
def VarintIsSaid : Prop := varintIsRow.holds Try.pinned (OpenSpec.ofChange varintIsSpec)

/-- ITS FALSE NEIGHBOUR: 'it returns false'. Refute it at one input. -/
def varintIsWrong : ChangeSpec := { name := "varintIs", fn := fun _ => fun
  | [d1, d2] => { results := [.lit (.bool false)], args := [d1, d2] }
  | _ => none }
def VarintIsWrongFalsely : Prop := varintIsRow.holds Try.pinned (OpenSpec.ofChange varintIsWrong)

/-- 'cordwoodlaw01.VarintBack': WHATEVER THE INPUT: true; the input reads as it did. -/
def varintBackSpec : ChangeSpec := { name := "varintBack", fn := fun _ => fun
  | [d1, d2] => { results := [.lit (.bool true)], args := [d1, d2] }
  | _ => none }
def varintBackRow : OpenClaim := { program := "ythcoccoanpmhgaa", sum := "33917fc999d7f0406826722b95297c1d0b23b959d96ab1c71c9a78a73c457e43", func := "cordwood/cordwoodlaw01.VarintBack", spec := "varintBack", apart := false }
def VarintBackSaid : Prop := varintBackRow.holds Try.pinned (OpenSpec.ofChange varintBackSpec)

/-- ITS FALSE NEIGHBOUR: 'it returns false'. Refute it at one input. -/
def varintBackWrong : ChangeSpec := { name := "varintBack", fn := fun _ => fun
  | [d1, d2] => { results := [.lit (.bool false)], args := [d1, d2] }
  | _ => none }
def VarintBackWrongFalsely : Prop := varintBackRow.holds Try.pinned (OpenSpec.ofChange varintBackWrong)

/-- 'cordwoodlaw01.VarintOnly': WHATEVER THE INPUT: true; the input reads as it did. -/
def varintOnlySpec : ChangeSpec := { name := "varintOnly", fn := fun _ => fun
  | [d] => { results := [.lit (.bool true)], args := [d] }
  | _ => none }
def varintOnlyRow : OpenClaim := { program := "ythcoccoanpmhgaa", sum := "33917fc999d7f0406826722b95297c1d0b23b959d96ab1c71c9a78a73c457e43", func := "cordwood/cordwoodlaw01.VarintOnly", spec := "varintOnly", apart := false }
def VarintOnlySaid : Prop := varintOnlyRow.holds Try.pinned (OpenSpec.ofChange varintOnlySpec)

/-- ITS FALSE NEIGHBOUR: 'it returns false'. Refute it at one input. -/
def varintOnlyWrong : ChangeSpec := { name := "varintOnly", fn := fun _ => fun
  | [d] => { results := [.lit (.bool false)], args := [d] }
  | _ => none }
def VarintOnlyWrongFalsely : Prop := varintOnlyRow.holds Try.pinned (OpenSpec.ofChange varintOnlyWrong)

/-- 'cordwoodlaw01.VarintOrder': WHATEVER THE INPUT: true; the input reads as it did. -/
def varintOrderSpec : ChangeSpec := { name := "varintOrder", fn := fun _ => fun
  | [d1, d2] => { results := [.lit (.bool true)], args := [d1, d2] }
  | _ => none }
def varintOrderRow : OpenClaim := { program := "ythcoccoanpmhgaa", sum := "33917fc999d7f0406826722b95297c1d0b23b959d96ab1c71c9a78a73c457e43", func := "cordwood/cordwoodlaw01.VarintOrder", spec := "varintOrder", apart := false }
def VarintOrderSaid : Prop := varintOrderRow.holds Try.pinned (OpenSpec.ofChange varintOrderSpec)

/-- ITS FALSE NEIGHBOUR: 'it returns false'. Refute it at one input. -/
def varintOrderWrong : ChangeSpec := { name := "varintOrder", fn := fun _ => fun
  | [d1, d2] => { results := [.lit (.bool false)], args := [d1, d2] }
  | _ => none }
def VarintOrderWrongFalsely : Prop := varintOrderRow.holds Try.pinned (OpenSpec.ofChange varintOrderWrong)

/-- 'cordwoodlaw01.VarintTwo': WHATEVER THE INPUT: true; the input reads as it did. -/
def varintTwoSpec : ChangeSpec := { name := "varintTwo", fn := fun _ => fun
  | [d] => { results := [.lit (.bool true)], args := [d] }
  | _ => none }
def varintTwoRow : OpenClaim := { program := "ythcoccoanpmhgaa", sum := "33917fc999d7f0406826722b95297c1d0b23b959d96ab1c71c9a78a73c457e43", func := "cordwood/cordwoodlaw01.VarintTwo", spec := "varintTwo", apart := false }
def VarintTwoSaid : Prop := varintTwoRow.holds Try.pinned (OpenSpec.ofChange varintTwoSpec)

/-- ITS FALSE NEIGHBOUR: 'it returns false'. Refute it at one input. -/
def varintTwoWrong : ChangeSpec := { name := "varintTwo", fn := fun _ => fun
  | [d] => { results := [.lit (.bool false)], args := [d] }
  | _ => none }
def VarintTwoWrongFalsely : Prop := varintTwoRow.holds Try.pinned (OpenSpec.ofChange varintTwoWrong)

/-- 'cordwoodlaw01.VarintSize': WHATEVER THE INPUT: true; the input reads as it did. -/
def varintSizeSpec : ChangeSpec := { name := "varintSize", fn := fun _ => fun
  | [d] => { results := [.lit (.bool true)], args := [d] }
  | _ => none }
def varintSizeRow : OpenClaim := { program := "ythcoccoanpmhgaa", sum := "33917fc999d7f0406826722b95297c1d0b23b959d96ab1c71c9a78a73c457e43", func := "cordwood/cordwoodlaw01.VarintSize", spec := "varintSize", apart := false }
def VarintSizeSaid : Prop := varintSizeRow.holds Try.pinned (OpenSpec.ofChange varintSizeSpec)

/-- ITS FALSE NEIGHBOUR: 'it returns false'. Refute it at one input. -/
def varintSizeWrong : ChangeSpec := { name := "varintSize", fn := fun _ => fun
  | [d] => { results := [.lit (.bool false)], args := [d] }
  | _ => none }
def VarintSizeWrongFalsely : Prop := varintSizeRow.holds Try.pinned (OpenSpec.ofChange varintSizeWrong)

/- THE SECOND FORM. 'bulk': how many values and letters a reading holds, each counted each time it is reached (what is shared counts as often as it is met; a slice's spare places count too). A statement '..UptoSaid' is the law's where the arguments, and the package variables that the reading takes, are together of bulk at most 1048576: NARROWER than '..Said'. Prove '..Said' where nothing that the law and all that it calls make is longer than what came in: it says more and counts as full. Else prove '..UptoSaid'. A law counts once. -/
mutual
def uptoBulk {H : Type} : DataW H → Nat
  | .lit (.string bytes) => bytes.length + 1
  | .lit _ => 1
  | .nil => 1
  | .ptr d => uptoBulk d + 1
  | .slice elems spare => uptoBulkAll elems + uptoBulkAll spare + 1
  | .agg parts => uptoBulkAll parts + 1
  | .iface _ d => uptoBulk d + 1
  | .map entries => uptoBulkEntries entries + 1
  | .held _ => 1
def uptoBulkAll {H : Type} : List (DataW H) → Nat
  | [] => 0
  | d :: r => uptoBulk d + uptoBulkAll r
def uptoBulkEntries {H : Type} : List (Lit × DataW H) → Nat
  | [] => 0
  | x :: r => uptoBulkEntry x + uptoBulkEntries r
def uptoBulkEntry {H : Type} : Lit × DataW H → Nat
  | (.string bytes, d) => bytes.length + uptoBulk d + 1
  | (_, d) => uptoBulk d + 1
 end
def uptoSmall : (H : Type) → List (DataW H) → Bool := fun _ ds => decide (uptoBulkAll ds ≤ 1048576)
def OpenSpec.upto (s : _root_.Go.ChangeSpec) : _root_.Go.OpenSpec := { _root_.Go.OpenSpec.ofChange s with cond := some uptoSmall }

/-- 'cordwoodlaw01.VarintIs', WHERE WHAT IT READS IS OF BULK AT MOST 1048576: true; the input reads as it did. -/
def varintIsUptoRow : OpenClaim := { program := "ythcoccoanpmhgaa", sum := "33917fc999d7f0406826722b95297c1d0b23b959d96ab1c71c9a78a73c457e43", func := "cordwood/cordwoodlaw01.VarintIs", spec := "varintIs", apart := false, narrowed := true }
def VarintIsUptoSaid : Prop := varintIsUptoRow.holds Try.pinned (OpenSpec.upto varintIsSpec)

/-- 'cordwoodlaw01.VarintBack', WHERE WHAT IT READS IS OF BULK AT MOST 1048576: true; the input reads as it did. -/
def varintBackUptoRow : OpenClaim := { program := "ythcoccoanpmhgaa", sum := "33917fc999d7f0406826722b95297c1d0b23b959d96ab1c71c9a78a73c457e43", func := "cordwood/cordwoodlaw01.VarintBack", spec := "varintBack", apart := false, narrowed := true }
def VarintBackUptoSaid : Prop := varintBackUptoRow.holds Try.pinned (OpenSpec.upto varintBackSpec)

/-- 'cordwoodlaw01.VarintOnly', WHERE WHAT IT READS IS OF BULK AT MOST 1048576: true; the input reads as it did. -/
def varintOnlyUptoRow : OpenClaim := { program := "ythcoccoanpmhgaa", sum := "33917fc999d7f0406826722b95297c1d0b23b959d96ab1c71c9a78a73c457e43", func := "cordwood/cordwoodlaw01.VarintOnly", spec := "varintOnly", apart := false, narrowed := true }
def VarintOnlyUptoSaid : Prop := varintOnlyUptoRow.holds Try.pinned (OpenSpec.upto varintOnlySpec)

/-- 'cordwoodlaw01.VarintOrder', WHERE WHAT IT READS IS OF BULK AT MOST 1048576: true; the input reads as it did. -/
def varintOrderUptoRow : OpenClaim := { program := "ythcoccoanpmhgaa", sum := "33917fc999d7f0406826722b95297c1d0b23b959d96ab1c71c9a78a73c457e43", func := "cordwood/cordwoodlaw01.VarintOrder", spec := "varintOrder", apart := false, narrowed := true }
def VarintOrderUptoSaid : Prop := varintOrderUptoRow.holds Try.pinned (OpenSpec.upto varintOrderSpec)

/-- 'cordwoodlaw01.VarintTwo', WHERE WHAT IT READS IS OF BULK AT MOST 1048576: true; the input reads as it did. -/
def varintTwoUptoRow : OpenClaim := { program := "ythcoccoanpmhgaa", sum := "33917fc999d7f0406826722b95297c1d0b23b959d96ab1c71c9a78a73c457e43", func := "cordwood/cordwoodlaw01.VarintTwo", spec := "varintTwo", apart := false, narrowed := true }
def VarintTwoUptoSaid : Prop := varintTwoUptoRow.holds Try.pinned (OpenSpec.upto varintTwoSpec)

/-- 'cordwoodlaw01.VarintSize', WHERE WHAT IT READS IS OF BULK AT MOST 1048576: true; the input reads as it did. -/
def varintSizeUptoRow : OpenClaim := { program := "ythcoccoanpmhgaa", sum := "33917fc999d7f0406826722b95297c1d0b23b959d96ab1c71c9a78a73c457e43", func := "cordwood/cordwoodlaw01.VarintSize", spec := "varintSize", apart := false, narrowed := true }
def VarintSizeUptoSaid : Prop := varintSizeUptoRow.holds Try.pinned (OpenSpec.upto varintSizeSpec)

end Rows
end Go.Proofs.Ythcoccoanpmhgaa
