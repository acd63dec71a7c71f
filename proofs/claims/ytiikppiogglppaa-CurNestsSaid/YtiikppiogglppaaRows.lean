/-
  No cell of these rows narrows 'for every input' (looked for: loops, veiled, ifaces, maps, wideKeys, modest, calm, conditions, laid).
  DERIVED. THE GIVEN ROWS OF THIS SEAT. 6 by the template 'for every input the law returns true; each argument reads behind the call as it read before'; 0 by the template 'total and deterministic' (their statements: YtiikppiogglppaaTotals.lean).
  GIVEN WITH THE SEED: the statements are not yours to turn. If you find one false, say at which input.
  Laid BY PROGRAM, IN A SANDBOX (cutbox-rows.mjs): the forced cells as the released guide's own fill.sh prints them over the translation 34e61fad87125928… (all of the seat's roots in one cut). By AI agents, Wed Nov 11 2026. No macro, syntax, notation, axiom, sorry.
-/
import Derived.Test.YtiikppiogglppaaChecked
import GoSem.Claim
import GoSem.ClaimJoined
import GoSem.ClaimMapViews
import Derived.JoinedTies
import Derived.KernelRfl
namespace Go.Proofs.Ytiikppiogglppaa
/- THE CELL 'sum', in the pinned program and in every row, IS THE sha256 OF THE DUMP (.gsa) THAT YtiikppiogglppaaProg.lean LOADS. Nothing in Lean hashes anything: it is a label: what it is worth is what the hold of that sum in a sandbox is worth. -/
noncomputable def Try.pinned : Pinned := { name := "ytiikppiogglppaa", sum := "34e61fad87125928c9c91c9af0bc6d2c7b5fad1d17cd9939eddd3e6199399bef", checked := Try.checked }
namespace Rows
def none {H : Type} : Left H := { results := [], args := [] }

/-- 'forebaylaw01.CurNests': WHATEVER THE INPUT: true; the input reads as it did. -/
def curNestsSpec : ChangeSpec := { name := "curNests", fn := fun _ => fun
  | [d1, d2, d3] => { results := [.lit (.bool true)], args := [d1, d2, d3] }
  | _ => none }
def curNestsRow : OpenClaim := { program := "ytiikppiogglppaa", sum := "34e61fad87125928c9c91c9af0bc6d2c7b5fad1d17cd9939eddd3e6199399bef", func := "forebay/forebaylaw01.CurNests", spec := "curNests", inPlace := ["internal/bytealg.IndexByte", "internal/bytealg.Index"], unfollowed := true, recurses := true, named := ["internal/bytealg.MaxLen"], apart := false }
def CurNestsSaid : Prop := curNestsRow.holds Try.pinned (OpenSpec.ofChange curNestsSpec)

/-- ITS FALSE NEIGHBOUR: 'it returns false'. Refute it at one input. -/
def curNestsWrong : ChangeSpec := { name := "curNests", fn := fun _ => fun
  | [d1, d2, d3] => { results := [.lit (.bool false)], args := [d1, d2, d3] }
  | _ => none }
def CurNestsWrongFalsely : Prop := curNestsRow.holds Try.pinned (OpenSpec.ofChange curNestsWrong)

/-- 'forebaylaw01.CurTries': WHATEVER THE INPUT: true; the input reads as it did. -/
def curTriesSpec : ChangeSpec := { name := "curTries", fn := fun _ => fun
  | [d1, d2, d3] => { results := [.lit (.bool true)], args := [d1, d2, d3] }
  | _ => none }
def curTriesRow : OpenClaim := { program := "ytiikppiogglppaa", sum := "34e61fad87125928c9c91c9af0bc6d2c7b5fad1d17cd9939eddd3e6199399bef", func := "forebay/forebaylaw01.CurTries", spec := "curTries", inPlace := ["internal/bytealg.IndexByte", "internal/bytealg.Index"], unfollowed := true, recurses := true, named := ["internal/bytealg.MaxLen"], apart := false }
def CurTriesSaid : Prop := curTriesRow.holds Try.pinned (OpenSpec.ofChange curTriesSpec)

/-- ITS FALSE NEIGHBOUR: 'it returns false'. Refute it at one input. -/
def curTriesWrong : ChangeSpec := { name := "curTries", fn := fun _ => fun
  | [d1, d2, d3] => { results := [.lit (.bool false)], args := [d1, d2, d3] }
  | _ => none }
def CurTriesWrongFalsely : Prop := curTriesRow.holds Try.pinned (OpenSpec.ofChange curTriesWrong)

/-- 'forebaylaw01.CurParts': WHATEVER THE INPUT: true; the input reads as it did. -/
def curPartsSpec : ChangeSpec := { name := "curParts", fn := fun _ => fun
  | [d1, d2, d3] => { results := [.lit (.bool true)], args := [d1, d2, d3] }
  | _ => none }
def curPartsRow : OpenClaim := { program := "ytiikppiogglppaa", sum := "34e61fad87125928c9c91c9af0bc6d2c7b5fad1d17cd9939eddd3e6199399bef", func := "forebay/forebaylaw01.CurParts", spec := "curParts", inPlace := ["internal/bytealg.IndexByte", "internal/bytealg.Index"], unfollowed := true, recurses := true, named := ["internal/bytealg.MaxLen"], apart := false }
def CurPartsSaid : Prop := curPartsRow.holds Try.pinned (OpenSpec.ofChange curPartsSpec)

/-- ITS FALSE NEIGHBOUR: 'it returns false'. Refute it at one input. -/
def curPartsWrong : ChangeSpec := { name := "curParts", fn := fun _ => fun
  | [d1, d2, d3] => { results := [.lit (.bool false)], args := [d1, d2, d3] }
  | _ => none }
def CurPartsWrongFalsely : Prop := curPartsRow.holds Try.pinned (OpenSpec.ofChange curPartsWrong)

/-- 'forebaylaw01.CurPlays': WHATEVER THE INPUT: true; the input reads as it did. -/
def curPlaysSpec : ChangeSpec := { name := "curPlays", fn := fun _ => fun
  | [d1, d2] => { results := [.lit (.bool true)], args := [d1, d2] }
  | _ => none }
def curPlaysRow : OpenClaim := { program := "ytiikppiogglppaa", sum := "34e61fad87125928c9c91c9af0bc6d2c7b5fad1d17cd9939eddd3e6199399bef", func := "forebay/forebaylaw01.CurPlays", spec := "curPlays", inPlace := ["internal/bytealg.IndexByte", "internal/bytealg.Index"], unfollowed := true, recurses := true, named := ["internal/bytealg.MaxLen"], apart := false }
def CurPlaysSaid : Prop := curPlaysRow.holds Try.pinned (OpenSpec.ofChange curPlaysSpec)

/-- ITS FALSE NEIGHBOUR: 'it returns false'. Refute it at one input. -/
def curPlaysWrong : ChangeSpec := { name := "curPlays", fn := fun _ => fun
  | [d1, d2] => { results := [.lit (.bool false)], args := [d1, d2] }
  | _ => none }
def CurPlaysWrongFalsely : Prop := curPlaysRow.holds Try.pinned (OpenSpec.ofChange curPlaysWrong)

/-- 'forebaylaw01.CurFirst': WHATEVER THE INPUT: true; the input reads as it did. -/
def curFirstSpec : ChangeSpec := { name := "curFirst", fn := fun _ => fun
  | [d1, d2, d3] => { results := [.lit (.bool true)], args := [d1, d2, d3] }
  | _ => none }
def curFirstRow : OpenClaim := { program := "ytiikppiogglppaa", sum := "34e61fad87125928c9c91c9af0bc6d2c7b5fad1d17cd9939eddd3e6199399bef", func := "forebay/forebaylaw01.CurFirst", spec := "curFirst", inPlace := ["internal/bytealg.IndexByte", "internal/bytealg.Index"], unfollowed := true, recurses := true, named := ["internal/bytealg.MaxLen"], apart := false }
def CurFirstSaid : Prop := curFirstRow.holds Try.pinned (OpenSpec.ofChange curFirstSpec)

/-- ITS FALSE NEIGHBOUR: 'it returns false'. Refute it at one input. -/
def curFirstWrong : ChangeSpec := { name := "curFirst", fn := fun _ => fun
  | [d1, d2, d3] => { results := [.lit (.bool false)], args := [d1, d2, d3] }
  | _ => none }
def CurFirstWrongFalsely : Prop := curFirstRow.holds Try.pinned (OpenSpec.ofChange curFirstWrong)

/-- 'forebaylaw01.CurOwn': WHATEVER THE INPUT: true; the input reads as it did. -/
def curOwnSpec : ChangeSpec := { name := "curOwn", fn := fun _ => fun
  | [d1, d2] => { results := [.lit (.bool true)], args := [d1, d2] }
  | _ => none }
def curOwnRow : OpenClaim := { program := "ytiikppiogglppaa", sum := "34e61fad87125928c9c91c9af0bc6d2c7b5fad1d17cd9939eddd3e6199399bef", func := "forebay/forebaylaw01.CurOwn", spec := "curOwn", inPlace := ["internal/bytealg.IndexByte", "internal/bytealg.Index"], unfollowed := true, recurses := true, named := ["internal/bytealg.MaxLen"], apart := false }
def CurOwnSaid : Prop := curOwnRow.holds Try.pinned (OpenSpec.ofChange curOwnSpec)

/-- ITS FALSE NEIGHBOUR: 'it returns false'. Refute it at one input. -/
def curOwnWrong : ChangeSpec := { name := "curOwn", fn := fun _ => fun
  | [d1, d2] => { results := [.lit (.bool false)], args := [d1, d2] }
  | _ => none }
def CurOwnWrongFalsely : Prop := curOwnRow.holds Try.pinned (OpenSpec.ofChange curOwnWrong)

/- THE SECOND FORM. 'bulk': how many values and letters a reading holds, each counted each time it is reached (what is shared counts as often as it is met; a slice's spare places count too). A statement '..UptoSaid' is the law's where the arguments, and the package variables that the reading takes, are together of bulk at most 1048576: NARROWER than '..Said'. Prove '..Said' where nothing that the law and all that it calls make is longer than what came in: it says more and counts as full. Else prove '..UptoSaid'. A law counts once. -/
mutual
def uptoBulk {H : Type} : DataW H → Nat
  | .lit (.string bytes) => bytes.length + 1
  | .lit _ => 1
  | .nil => 1
  | .ptr d => uptoBulk d + 1
  | .slice elems spare => uptoBulkAll elems + uptoBulkAll spare + 1
  | .agg parts => uptoBulkAll parts + 1
  | .iface _ d => uptoBulk d + 1
  | .map entries => uptoBulkEntries entries + 1
  | .held _ => 1
def uptoBulkAll {H : Type} : List (DataW H) → Nat
  | [] => 0
  | d :: r => uptoBulk d + uptoBulkAll r
def uptoBulkEntries {H : Type} : List (Lit × DataW H) → Nat
  | [] => 0
  | x :: r => uptoBulkEntry x + uptoBulkEntries r
def uptoBulkEntry {H : Type} : Lit × DataW H → Nat
  | (.string bytes, d) => bytes.length + uptoBulk d + 1
  | (_, d) => uptoBulk d + 1
 end
def uptoSmall : (H : Type) → List (DataW H) → Bool := fun _ ds => decide (uptoBulkAll ds ≤ 1048576)
def OpenSpec.upto (s : _root_.Go.ChangeSpec) : _root_.Go.OpenSpec := { _root_.Go.OpenSpec.ofChange s with cond := some uptoSmall }

/-- 'forebaylaw01.CurNests', WHERE WHAT IT READS IS OF BULK AT MOST 1048576: true; the input reads as it did. -/
def curNestsUptoRow : OpenClaim := { program := "ytiikppiogglppaa", sum := "34e61fad87125928c9c91c9af0bc6d2c7b5fad1d17cd9939eddd3e6199399bef", func := "forebay/forebaylaw01.CurNests", spec := "curNests", inPlace := ["internal/bytealg.IndexByte", "internal/bytealg.Index"], unfollowed := true, recurses := true, named := ["internal/bytealg.MaxLen"], apart := false, narrowed := true }
def CurNestsUptoSaid : Prop := curNestsUptoRow.holds Try.pinned (OpenSpec.upto curNestsSpec)

/-- 'forebaylaw01.CurTries', WHERE WHAT IT READS IS OF BULK AT MOST 1048576: true; the input reads as it did. -/
def curTriesUptoRow : OpenClaim := { program := "ytiikppiogglppaa", sum := "34e61fad87125928c9c91c9af0bc6d2c7b5fad1d17cd9939eddd3e6199399bef", func := "forebay/forebaylaw01.CurTries", spec := "curTries", inPlace := ["internal/bytealg.IndexByte", "internal/bytealg.Index"], unfollowed := true, recurses := true, named := ["internal/bytealg.MaxLen"], apart := false, narrowed := true }
def CurTriesUptoSaid : Prop := curTriesUptoRow.holds Try.pinned (OpenSpec.upto curTriesSpec)

/-- 'forebaylaw01.CurParts', WHERE WHAT IT READS IS OF BULK AT MOST 1048576: true; the input reads as it did. -/
def curPartsUptoRow : OpenClaim := { program := "ytiikppiogglppaa", sum := "34e61fad87125928c9c91c9af0bc6d2c7b5fad1d17cd9939eddd3e6199399bef", func := "forebay/forebaylaw01.CurParts", spec := "curParts", inPlace := ["internal/bytealg.IndexByte", "internal/bytealg.Index"], unfollowed := true, recurses := true, named := ["internal/bytealg.MaxLen"], apart := false, narrowed := true }
def CurPartsUptoSaid : Prop := curPartsUptoRow.holds Try.pinned (OpenSpec.upto curPartsSpec)

/-- 'forebaylaw01.CurPlays', WHERE WHAT IT READS IS OF BULK AT MOST 1048576: true; the input reads as it did. -/
def curPlaysUptoRow : OpenClaim := { program := "ytiikppiogglppaa", sum := "34e61fad87125928c9c91c9af0bc6d2c7b5fad1d17cd9939eddd3e6199399bef", func := "forebay/forebaylaw01.CurPlays", spec := "curPlays", inPlace := ["internal/bytealg.IndexByte", "internal/bytealg.Index"], unfollowed := true, recurses := true, named := ["internal/bytealg.MaxLen"], apart := false, narrowed := true }
def CurPlaysUptoSaid : Prop := curPlaysUptoRow.holds Try.pinned (OpenSpec.upto curPlaysSpec)

/-- 'forebaylaw01.CurFirst', WHERE WHAT IT READS IS OF BULK AT MOST 1048576: true; the input reads as it did. -/
def curFirstUptoRow : OpenClaim := { program := "ytiikppiogglppaa", sum := "34e61fad87125928c9c91c9af0bc6d2c7b5fad1d17cd9939eddd3e6199399bef", func := "forebay/forebaylaw01.CurFirst", spec := "curFirst", inPlace := ["internal/bytealg.IndexByte", "internal/bytealg.Index"], unfollowed := true, recurses := true, named := ["internal/bytealg.MaxLen"], apart := false, narrowed := true }
def CurFirstUptoSaid : Prop := curFirstUptoRow.holds Try.pinned (OpenSpec.upto curFirstSpec)

/-- 'forebaylaw01.CurOwn', WHERE WHAT IT READS IS OF BULK AT MOST 1048576: true; the input reads as it did. -/
def curOwnUptoRow : OpenClaim := { program := "ytiikppiogglppaa", sum := "34e61fad87125928c9c91c9af0bc6d2c7b5fad1d17cd9939eddd3e6199399bef", func := "forebay/forebaylaw01.CurOwn", spec := "curOwn", inPlace := ["internal/bytealg.IndexByte", "internal/bytealg.Index"], unfollowed := true, recurses := true, named := ["internal/bytealg.MaxLen"], apart := false, narrowed := true }
def CurOwnUptoSaid : Prop := curOwnUptoRow.holds Try.pinned (OpenSpec.upto curOwnSpec)

end Rows
end Go.Proofs.Ytiikppiogglppaa
