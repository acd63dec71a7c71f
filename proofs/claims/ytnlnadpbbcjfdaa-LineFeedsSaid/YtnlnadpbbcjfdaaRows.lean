/-
  No cell of these rows narrows 'for every input' (looked for: loops, veiled, ifaces, maps, wideKeys, modest, calm, conditions, laid).
  DERIVED. THE GIVEN ROWS OF THIS SEAT. 5 by the template 'for every input the law returns true; each argument reads behind the call as it read before'; 0 by the template 'total and deterministic' (their statements: YtnlnadpbbcjfdaaTotals.lean).
  GIVEN WITH THE SEED: the statements are not yours to turn. If you find one false, say at which input.
  Laid BY PROGRAM, IN A SANDBOX (cutbox-rows.mjs): the forced cells as the released guide's own fill.sh prints them over the translation e4fd47816e8d5068… (all of the seat's roots in one cut). By AI agents, Wed Nov 11 2026. No macro, syntax, notation, axiom, sorry.
-/
import Derived.Test.YtnlnadpbbcjfdaaChecked
import GoSem.Claim
import GoSem.ClaimJoined
import GoSem.ClaimMapViews
import Derived.JoinedTies
import Derived.KernelRfl
namespace Go.Proofs.Ytnlnadpbbcjfdaa
/- THE CELL 'sum', in the pinned program and in every row, IS THE sha256 OF THE DUMP (.gsa) THAT YtnlnadpbbcjfdaaProg.lean LOADS. Nothing in Lean hashes anything: it is a label: what it is worth is what the hold of that sum in a sandbox is worth. -/
noncomputable def Try.pinned : Pinned := { name := "ytnlnadpbbcjfdaa", sum := "e4fd47816e8d50688cb3415791bc86f34018dcc28db7ca96d6524824ddfc1e6e", checked := Try.checked }
namespace Rows
def none {H : Type} : Left H := { results := [], args := [] }

/-- 'forebaylaw18.LineCuts': WHATEVER THE INPUT: true; the input reads as it did. -/
def lineCutsSpec : ChangeSpec := { name := "lineCuts", fn := fun _ => fun
  | [d1, d2, d3] => { results := [.lit (.bool true)], args := [d1, d2, d3] }
  | _ => none }
def lineCutsRow : OpenClaim := { program := "ytnlnadpbbcjfdaa", sum := "e4fd47816e8d50688cb3415791bc86f34018dcc28db7ca96d6524824ddfc1e6e", func := "forebay/forebaylaw18.LineCuts", spec := "lineCuts", inPlace := ["internal/bytealg.IndexByte", "internal/bytealg.Index"], unfollowed := true, recurses := true, named := ["internal/bytealg.MaxLen"], apart := false }
def LineCutsSaid : Prop := lineCutsRow.holds Try.pinned (OpenSpec.ofChange lineCutsSpec)

/-- ITS FALSE NEIGHBOUR: 'it returns false'. Refute it at one input. -/
def lineCutsWrong : ChangeSpec := { name := "lineCuts", fn := fun _ => fun
  | [d1, d2, d3] => { results := [.lit (.bool false)], args := [d1, d2, d3] }
  | _ => none }
def LineCutsWrongFalsely : Prop := lineCutsRow.holds Try.pinned (OpenSpec.ofChange lineCutsWrong)

/-- 'forebaylaw18.LineCovers': WHATEVER THE INPUT: true; the input reads as it did. -/
def lineCoversSpec : ChangeSpec := { name := "lineCovers", fn := fun _ => fun
  | [d1, d2, d3] => { results := [.lit (.bool true)], args := [d1, d2, d3] }
  | _ => none }
def lineCoversRow : OpenClaim := { program := "ytnlnadpbbcjfdaa", sum := "e4fd47816e8d50688cb3415791bc86f34018dcc28db7ca96d6524824ddfc1e6e", func := "forebay/forebaylaw18.LineCovers", spec := "lineCovers", inPlace := ["internal/bytealg.IndexByte", "internal/bytealg.Index"], unfollowed := true, recurses := true, named := ["internal/bytealg.MaxLen"], apart := false }
def LineCoversSaid : Prop := lineCoversRow.holds Try.pinned (OpenSpec.ofChange lineCoversSpec)

/-- ITS FALSE NEIGHBOUR: 'it returns false'. Refute it at one input. -/
def lineCoversWrong : ChangeSpec := { name := "lineCovers", fn := fun _ => fun
  | [d1, d2, d3] => { results := [.lit (.bool false)], args := [d1, d2, d3] }
  | _ => none }
def LineCoversWrongFalsely : Prop := lineCoversRow.holds Try.pinned (OpenSpec.ofChange lineCoversWrong)

/-- 'forebaylaw18.LineBehind': WHATEVER THE INPUT: true; the input reads as it did. -/
def lineBehindSpec : ChangeSpec := { name := "lineBehind", fn := fun _ => fun
  | [d1, d2, d3] => { results := [.lit (.bool true)], args := [d1, d2, d3] }
  | _ => none }
def lineBehindRow : OpenClaim := { program := "ytnlnadpbbcjfdaa", sum := "e4fd47816e8d50688cb3415791bc86f34018dcc28db7ca96d6524824ddfc1e6e", func := "forebay/forebaylaw18.LineBehind", spec := "lineBehind", inPlace := ["internal/bytealg.IndexByte", "internal/bytealg.Index"], unfollowed := true, recurses := true, named := ["internal/bytealg.MaxLen"], apart := false }
def LineBehindSaid : Prop := lineBehindRow.holds Try.pinned (OpenSpec.ofChange lineBehindSpec)

/-- ITS FALSE NEIGHBOUR: 'it returns false'. Refute it at one input. -/
def lineBehindWrong : ChangeSpec := { name := "lineBehind", fn := fun _ => fun
  | [d1, d2, d3] => { results := [.lit (.bool false)], args := [d1, d2, d3] }
  | _ => none }
def LineBehindWrongFalsely : Prop := lineBehindRow.holds Try.pinned (OpenSpec.ofChange lineBehindWrong)

/-- 'forebaylaw18.LineFeeds': WHATEVER THE INPUT: true; the input reads as it did. -/
def lineFeedsSpec : ChangeSpec := { name := "lineFeeds", fn := fun _ => fun
  | [d1, d2, d3] => { results := [.lit (.bool true)], args := [d1, d2, d3] }
  | _ => none }
def lineFeedsRow : OpenClaim := { program := "ytnlnadpbbcjfdaa", sum := "e4fd47816e8d50688cb3415791bc86f34018dcc28db7ca96d6524824ddfc1e6e", func := "forebay/forebaylaw18.LineFeeds", spec := "lineFeeds", inPlace := ["internal/bytealg.IndexByte", "internal/bytealg.Index"], unfollowed := true, recurses := true, named := ["internal/bytealg.MaxLen"], apart := false }
def LineFeedsSaid : Prop := lineFeedsRow.holds Try.pinned (OpenSpec.ofChange lineFeedsSpec)

/-- ITS FALSE NEIGHBOUR: 'it returns false'. Refute it at one input. -/
def lineFeedsWrong : ChangeSpec := { name := "lineFeeds", fn := fun _ => fun
  | [d1, d2, d3] => { results := [.lit (.bool false)], args := [d1, d2, d3] }
  | _ => none }
def LineFeedsWrongFalsely : Prop := lineFeedsRow.holds Try.pinned (OpenSpec.ofChange lineFeedsWrong)

/-- 'forebaylaw18.LineClosed': WHATEVER THE INPUT: true; the input reads as it did. -/
def lineClosedSpec : ChangeSpec := { name := "lineClosed", fn := fun _ => fun
  | [d1, d2] => { results := [.lit (.bool true)], args := [d1, d2] }
  | _ => none }
def lineClosedRow : OpenClaim := { program := "ytnlnadpbbcjfdaa", sum := "e4fd47816e8d50688cb3415791bc86f34018dcc28db7ca96d6524824ddfc1e6e", func := "forebay/forebaylaw18.LineClosed", spec := "lineClosed", inPlace := ["internal/bytealg.IndexByte", "internal/bytealg.Index"], unfollowed := true, recurses := true, named := ["internal/bytealg.MaxLen"], apart := false }
def LineClosedSaid : Prop := lineClosedRow.holds Try.pinned (OpenSpec.ofChange lineClosedSpec)

/-- ITS FALSE NEIGHBOUR: 'it returns false'. Refute it at one input. -/
def lineClosedWrong : ChangeSpec := { name := "lineClosed", fn := fun _ => fun
  | [d1, d2] => { results := [.lit (.bool false)], args := [d1, d2] }
  | _ => none }
def LineClosedWrongFalsely : Prop := lineClosedRow.holds Try.pinned (OpenSpec.ofChange lineClosedWrong)

/- THE SECOND FORM. 'bulk': how many values and letters a reading holds, each counted each time it is reached (what is shared counts as often as it is met; a slice's spare places count too). A statement '..UptoSaid' is the law's where the arguments, and the package variables that the reading takes, are together of bulk at most 1048576: NARROWER than '..Said'. Prove '..Said' where nothing that the law and all that it calls make is longer than what came in: it says more and counts as full. Else prove '..UptoSaid'. A law counts once. -/
mutual
def uptoBulk {H : Type} : DataW H → Nat
  | .lit (.string bytes) => bytes.length + 1
  | .lit _ => 1
  | .nil => 1
  | .ptr d => uptoBulk d + 1
  | .slice elems spare => uptoBulkAll elems + uptoBulkAll spare + 1
  | .agg parts => uptoBulkAll parts + 1
  | .iface _ d => uptoBulk d + 1
  | .map entries => uptoBulkEntries entries + 1
  | .held _ => 1
def uptoBulkAll {H : Type} : List (DataW H) → Nat
  | [] => 0
  | d :: r => uptoBulk d + uptoBulkAll r
def uptoBulkEntries {H : Type} : List (Lit × DataW H) → Nat
  | [] => 0
  | x :: r => uptoBulkEntry x + uptoBulkEntries r
def uptoBulkEntry {H : Type} : Lit × DataW H → Nat
  | (.string bytes, d) => bytes.length + uptoBulk d + 1
  | (_, d) => uptoBulk d + 1
 end
def uptoSmall : (H : Type) → List (DataW H) → Bool := fun _ ds => decide (uptoBulkAll ds ≤ 1048576)
def OpenSpec.upto (s : _root_.Go.ChangeSpec) : _root_.Go.OpenSpec := { _root_.Go.OpenSpec.ofChange s with cond := some uptoSmall }

/-- 'forebaylaw18.LineCuts', WHERE WHAT IT READS IS OF BULK AT MOST 1048576: true; the input reads as it did. -/
def lineCutsUptoRow : OpenClaim := { program := "ytnlnadpbbcjfdaa", sum := "e4fd47816e8d50688cb3415791bc86f34018dcc28db7ca96d6524824ddfc1e6e", func := "forebay/forebaylaw18.LineCuts", spec := "lineCuts", inPlace := ["internal/bytealg.IndexByte", "internal/bytealg.Index"], unfollowed := true, recurses := true, named := ["internal/bytealg.MaxLen"], apart := false, narrowed := true }
def LineCutsUptoSaid : Prop := lineCutsUptoRow.holds Try.pinned (OpenSpec.upto lineCutsSpec)

/-- 'forebaylaw18.LineCovers', WHERE WHAT IT READS IS OF BULK AT MOST 1048576: true; the input reads as it did. -/
def lineCoversUptoRow : OpenClaim := { program := "ytnlnadpbbcjfdaa", sum := "e4fd47816e8d50688cb3415791bc86f34018dcc28db7ca96d6524824ddfc1e6e", func := "forebay/forebaylaw18.LineCovers", spec := "lineCovers", inPlace := ["internal/bytealg.IndexByte", "internal/bytealg.Index"], unfollowed := true, recurses := true, named := ["internal/bytealg.MaxLen"], apart := false, narrowed := true }
def LineCoversUptoSaid : Prop := lineCoversUptoRow.holds Try.pinned (OpenSpec.upto lineCoversSpec)

/-- 'forebaylaw18.LineBehind', WHERE WHAT IT READS IS OF BULK AT MOST 1048576: true; the input reads as it did. -/
def lineBehindUptoRow : OpenClaim := { program := "ytnlnadpbbcjfdaa", sum := "e4fd47816e8d50688cb3415791bc86f34018dcc28db7ca96d6524824ddfc1e6e", func := "forebay/forebaylaw18.LineBehind", spec := "lineBehind", inPlace := ["internal/bytealg.IndexByte", "internal/bytealg.Index"], unfollowed := true, recurses := true, named := ["internal/bytealg.MaxLen"], apart := false, narrowed := true }
def LineBehindUptoSaid : Prop := lineBehindUptoRow.holds Try.pinned (OpenSpec.upto lineBehindSpec)

/-- 'forebaylaw18.LineFeeds', WHERE WHAT IT READS IS OF BULK AT MOST 1048576: true; the input reads as it did. -/
def lineFeedsUptoRow : OpenClaim := { program := "ytnlnadpbbcjfdaa", sum := "e4fd47816e8d50688cb3415791bc86f34018dcc28db7ca96d6524824ddfc1e6e", func := "forebay/forebaylaw18.LineFeeds", spec := "lineFeeds", inPlace := ["internal/bytealg.IndexByte", "internal/bytealg.Index"], unfollowed := true, recurses := true, named := ["internal/bytealg.MaxLen"], apart := false, narrowed := true }
def LineFeedsUptoSaid : Prop := lineFeedsUptoRow.holds Try.pinned (OpenSpec.upto lineFeedsSpec)

/-- 'forebaylaw18.LineClosed', WHERE WHAT IT READS IS OF BULK AT MOST 1048576: true; the input reads as it did. -/
def lineClosedUptoRow : OpenClaim := { program := "ytnlnadpbbcjfdaa", sum := "e4fd47816e8d50688cb3415791bc86f34018dcc28db7ca96d6524824ddfc1e6e", func := "forebay/forebaylaw18.LineClosed", spec := "lineClosed", inPlace := ["internal/bytealg.IndexByte", "internal/bytealg.Index"], unfollowed := true, recurses := true, named := ["internal/bytealg.MaxLen"], apart := false, narrowed := true }
def LineClosedUptoSaid : Prop := lineClosedUptoRow.holds Try.pinned (OpenSpec.upto lineClosedSpec)

end Rows
end Go.Proofs.Ytnlnadpbbcjfdaa
