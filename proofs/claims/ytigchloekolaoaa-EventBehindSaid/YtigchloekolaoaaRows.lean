/-
  No cell of these rows narrows 'for every input' (looked for: loops, veiled, ifaces, maps, wideKeys, modest, calm, conditions, laid).
  DERIVED. THE GIVEN ROWS OF THIS SEAT. 6 by the template 'for every input the law returns true; each argument reads behind the call as it read before'; 0 by the template 'total and deterministic' (their statements: YtigchloekolaoaaTotals.lean).
  GIVEN WITH THE SEED: the statements are not yours to turn. If you find one false, say at which input.
  Laid BY PROGRAM, IN A SANDBOX (cutbox-rows.mjs): the forced cells as the released guide's own fill.sh prints them over the translation a32b848eef505236… (all of the seat's roots in one cut). By AI agents, Wed Nov 11 2026. No macro, syntax, notation, axiom, sorry.
-/
import Derived.Test.YtigchloekolaoaaChecked
import GoSem.Claim
import GoSem.ClaimJoined
import GoSem.ClaimMapViews
import Derived.JoinedTies
import Derived.KernelRfl
namespace Go.Proofs.Ytigchloekolaoaa
/- THE CELL 'sum', in the pinned program and in every row, IS THE sha256 OF THE DUMP (.gsa) THAT YtigchloekolaoaaProg.lean LOADS. Nothing in Lean hashes anything: it is a label: what it is worth is what the hold of that sum in a sandbox is worth. -/
noncomputable def Try.pinned : Pinned := { name := "ytigchloekolaoaa", sum := "a32b848eef5052368d2266fe426c43c469e5f57e46931de64e9db2e6c11dec6e", checked := Try.checked }
namespace Rows
def none {H : Type} : Left H := { results := [], args := [] }

/-- 'forebaylaw21.EventCounts': WHATEVER THE INPUT: true; the input reads as it did. -/
def eventCountsSpec : ChangeSpec := { name := "eventCounts", fn := fun _ => fun
  | [d1, d2, d3] => { results := [.lit (.bool true)], args := [d1, d2, d3] }
  | _ => none }
def eventCountsRow : OpenClaim := { program := "ytigchloekolaoaa", sum := "a32b848eef5052368d2266fe426c43c469e5f57e46931de64e9db2e6c11dec6e", func := "forebay/forebaylaw21.EventCounts", spec := "eventCounts", apart := false }
def EventCountsSaid : Prop := eventCountsRow.holds Try.pinned (OpenSpec.ofChange eventCountsSpec)

/-- ITS FALSE NEIGHBOUR: 'it returns false'. Refute it at one input. -/
def eventCountsWrong : ChangeSpec := { name := "eventCounts", fn := fun _ => fun
  | [d1, d2, d3] => { results := [.lit (.bool false)], args := [d1, d2, d3] }
  | _ => none }
def EventCountsWrongFalsely : Prop := eventCountsRow.holds Try.pinned (OpenSpec.ofChange eventCountsWrong)

/-- 'forebaylaw21.EventOwn': WHATEVER THE INPUT: true; the input reads as it did. -/
def eventOwnSpec : ChangeSpec := { name := "eventOwn", fn := fun _ => fun
  | [d] => { results := [.lit (.bool true)], args := [d] }
  | _ => none }
def eventOwnRow : OpenClaim := { program := "ytigchloekolaoaa", sum := "a32b848eef5052368d2266fe426c43c469e5f57e46931de64e9db2e6c11dec6e", func := "forebay/forebaylaw21.EventOwn", spec := "eventOwn", apart := false }
def EventOwnSaid : Prop := eventOwnRow.holds Try.pinned (OpenSpec.ofChange eventOwnSpec)

/-- ITS FALSE NEIGHBOUR: 'it returns false'. Refute it at one input. -/
def eventOwnWrong : ChangeSpec := { name := "eventOwn", fn := fun _ => fun
  | [d] => { results := [.lit (.bool false)], args := [d] }
  | _ => none }
def EventOwnWrongFalsely : Prop := eventOwnRow.holds Try.pinned (OpenSpec.ofChange eventOwnWrong)

/-- 'forebaylaw21.EventCovers': WHATEVER THE INPUT: true; the input reads as it did. -/
def eventCoversSpec : ChangeSpec := { name := "eventCovers", fn := fun _ => fun
  | [d1, d2, d3] => { results := [.lit (.bool true)], args := [d1, d2, d3] }
  | _ => none }
def eventCoversRow : OpenClaim := { program := "ytigchloekolaoaa", sum := "a32b848eef5052368d2266fe426c43c469e5f57e46931de64e9db2e6c11dec6e", func := "forebay/forebaylaw21.EventCovers", spec := "eventCovers", unfollowed := true, recurses := true, apart := false }
def EventCoversSaid : Prop := eventCoversRow.holds Try.pinned (OpenSpec.ofChange eventCoversSpec)

/-- ITS FALSE NEIGHBOUR: 'it returns false'. Refute it at one input. -/
def eventCoversWrong : ChangeSpec := { name := "eventCovers", fn := fun _ => fun
  | [d1, d2, d3] => { results := [.lit (.bool false)], args := [d1, d2, d3] }
  | _ => none }
def EventCoversWrongFalsely : Prop := eventCoversRow.holds Try.pinned (OpenSpec.ofChange eventCoversWrong)

/-- 'forebaylaw21.EventTally': WHATEVER THE INPUT: true; the input reads as it did. -/
def eventTallySpec : ChangeSpec := { name := "eventTally", fn := fun _ => fun
  | [d1, d2] => { results := [.lit (.bool true)], args := [d1, d2] }
  | _ => none }
def eventTallyRow : OpenClaim := { program := "ytigchloekolaoaa", sum := "a32b848eef5052368d2266fe426c43c469e5f57e46931de64e9db2e6c11dec6e", func := "forebay/forebaylaw21.EventTally", spec := "eventTally", inPlace := ["(*internal/sync.Mutex).Lock", "internal/race.Disable", "sync/atomic.CompareAndSwapInt32", "internal/race.Enable", "internal/race.Acquire", "(*internal/sync.Mutex).lockSlow", "internal/sync.runtime_canSpin", "internal/sync.runtime_doSpin", "internal/sync.throw", "internal/sync.runtime_nanotime", "internal/sync.runtime_SemacquireMutex", "sync/atomic.AddInt32", "(*internal/sync.Mutex).Unlock", "internal/race.ReleaseMerge", "(*internal/sync.Mutex).unlockSlow", "internal/sync.fatal", "internal/sync.runtime_Semrelease"], apart := false }
def EventTallySaid : Prop := eventTallyRow.holds Try.pinned (OpenSpec.ofChange eventTallySpec)

/-- ITS FALSE NEIGHBOUR: 'it returns false'. Refute it at one input. -/
def eventTallyWrong : ChangeSpec := { name := "eventTally", fn := fun _ => fun
  | [d1, d2] => { results := [.lit (.bool false)], args := [d1, d2] }
  | _ => none }
def EventTallyWrongFalsely : Prop := eventTallyRow.holds Try.pinned (OpenSpec.ofChange eventTallyWrong)

/-- 'forebaylaw21.EventTells': WHATEVER THE INPUT: true; the input reads as it did. -/
def eventTellsSpec : ChangeSpec := { name := "eventTells", fn := fun _ => fun
  | [d1, d2, d3] => { results := [.lit (.bool true)], args := [d1, d2, d3] }
  | _ => none }
def eventTellsRow : OpenClaim := { program := "ytigchloekolaoaa", sum := "a32b848eef5052368d2266fe426c43c469e5f57e46931de64e9db2e6c11dec6e", func := "forebay/forebaylaw21.EventTells", spec := "eventTells", unfollowed := true, recurses := true, apart := false }
def EventTellsSaid : Prop := eventTellsRow.holds Try.pinned (OpenSpec.ofChange eventTellsSpec)

/-- ITS FALSE NEIGHBOUR: 'it returns false'. Refute it at one input. -/
def eventTellsWrong : ChangeSpec := { name := "eventTells", fn := fun _ => fun
  | [d1, d2, d3] => { results := [.lit (.bool false)], args := [d1, d2, d3] }
  | _ => none }
def EventTellsWrongFalsely : Prop := eventTellsRow.holds Try.pinned (OpenSpec.ofChange eventTellsWrong)

/-- 'forebaylaw21.EventBehind': WHATEVER THE INPUT: true; the input reads as it did. -/
def eventBehindSpec : ChangeSpec := { name := "eventBehind", fn := fun _ => fun
  | [d1, d2] => { results := [.lit (.bool true)], args := [d1, d2] }
  | _ => none }
def eventBehindRow : OpenClaim := { program := "ytigchloekolaoaa", sum := "a32b848eef5052368d2266fe426c43c469e5f57e46931de64e9db2e6c11dec6e", func := "forebay/forebaylaw21.EventBehind", spec := "eventBehind", unfollowed := true, recurses := true, apart := false }
def EventBehindSaid : Prop := eventBehindRow.holds Try.pinned (OpenSpec.ofChange eventBehindSpec)

/-- ITS FALSE NEIGHBOUR: 'it returns false'. Refute it at one input. -/
def eventBehindWrong : ChangeSpec := { name := "eventBehind", fn := fun _ => fun
  | [d1, d2] => { results := [.lit (.bool false)], args := [d1, d2] }
  | _ => none }
def EventBehindWrongFalsely : Prop := eventBehindRow.holds Try.pinned (OpenSpec.ofChange eventBehindWrong)

/- THE SECOND FORM. 'bulk': how many values and letters a reading holds, each counted each time it is reached (what is shared counts as often as it is met; a slice's spare places count too). A statement '..UptoSaid' is the law's where the arguments, and the package variables that the reading takes, are together of bulk at most 1048576: NARROWER than '..Said'. Prove '..Said' where nothing that the law and all that it calls make is longer than what came in: it says more and counts as full. Else prove '..UptoSaid'. A law counts once. -/
mutual
def uptoBulk {H : Type} : DataW H → Nat
  | .lit (.string bytes) => bytes.length + 1
  | .lit _ => 1
  | .nil => 1
  | .ptr d => uptoBulk d + 1
  | .slice elems spare => uptoBulkAll elems + uptoBulkAll spare + 1
  | .agg parts => uptoBulkAll parts + 1
  | .iface _ d => uptoBulk d + 1
  | .map entries => uptoBulkEntries entries + 1
  | .held _ => 1
def uptoBulkAll {H : Type} : List (DataW H) → Nat
  | [] => 0
  | d :: r => uptoBulk d + uptoBulkAll r
def uptoBulkEntries {H : Type} : List (Lit × DataW H) → Nat
  | [] => 0
  | x :: r => uptoBulkEntry x + uptoBulkEntries r
def uptoBulkEntry {H : Type} : Lit × DataW H → Nat
  | (.string bytes, d) => bytes.length + uptoBulk d + 1
  | (_, d) => uptoBulk d + 1
 end
def uptoSmall : (H : Type) → List (DataW H) → Bool := fun _ ds => decide (uptoBulkAll ds ≤ 1048576)
def OpenSpec.upto (s : _root_.Go.ChangeSpec) : _root_.Go.OpenSpec := { _root_.Go.OpenSpec.ofChange s with cond := some uptoSmall }

/-- 'forebaylaw21.EventCounts', WHERE WHAT IT READS IS OF BULK AT MOST 1048576: true; the input reads as it did. -/
def eventCountsUptoRow : OpenClaim := { program := "ytigchloekolaoaa", sum := "a32b848eef5052368d2266fe426c43c469e5f57e46931de64e9db2e6c11dec6e", func := "forebay/forebaylaw21.EventCounts", spec := "eventCounts", apart := false, narrowed := true }
def EventCountsUptoSaid : Prop := eventCountsUptoRow.holds Try.pinned (OpenSpec.upto eventCountsSpec)

/-- 'forebaylaw21.EventOwn', WHERE WHAT IT READS IS OF BULK AT MOST 1048576: true; the input reads as it did. -/
def eventOwnUptoRow : OpenClaim := { program := "ytigchloekolaoaa", sum := "a32b848eef5052368d2266fe426c43c469e5f57e46931de64e9db2e6c11dec6e", func := "forebay/forebaylaw21.EventOwn", spec := "eventOwn", apart := false, narrowed := true }
def EventOwnUptoSaid : Prop := eventOwnUptoRow.holds Try.pinned (OpenSpec.upto eventOwnSpec)

/-- 'forebaylaw21.EventCovers', WHERE WHAT IT READS IS OF BULK AT MOST 1048576: true; the input reads as it did. -/
def eventCoversUptoRow : OpenClaim := { program := "ytigchloekolaoaa", sum := "a32b848eef5052368d2266fe426c43c469e5f57e46931de64e9db2e6c11dec6e", func := "forebay/forebaylaw21.EventCovers", spec := "eventCovers", unfollowed := true, recurses := true, apart := false, narrowed := true }
def EventCoversUptoSaid : Prop := eventCoversUptoRow.holds Try.pinned (OpenSpec.upto eventCoversSpec)

/-- 'forebaylaw21.EventTally', WHERE WHAT IT READS IS OF BULK AT MOST 1048576: true; the input reads as it did. -/
def eventTallyUptoRow : OpenClaim := { program := "ytigchloekolaoaa", sum := "a32b848eef5052368d2266fe426c43c469e5f57e46931de64e9db2e6c11dec6e", func := "forebay/forebaylaw21.EventTally", spec := "eventTally", inPlace := ["(*internal/sync.Mutex).Lock", "internal/race.Disable", "sync/atomic.CompareAndSwapInt32", "internal/race.Enable", "internal/race.Acquire", "(*internal/sync.Mutex).lockSlow", "internal/sync.runtime_canSpin", "internal/sync.runtime_doSpin", "internal/sync.throw", "internal/sync.runtime_nanotime", "internal/sync.runtime_SemacquireMutex", "sync/atomic.AddInt32", "(*internal/sync.Mutex).Unlock", "internal/race.ReleaseMerge", "(*internal/sync.Mutex).unlockSlow", "internal/sync.fatal", "internal/sync.runtime_Semrelease"], apart := false, narrowed := true }
def EventTallyUptoSaid : Prop := eventTallyUptoRow.holds Try.pinned (OpenSpec.upto eventTallySpec)

/-- 'forebaylaw21.EventTells', WHERE WHAT IT READS IS OF BULK AT MOST 1048576: true; the input reads as it did. -/
def eventTellsUptoRow : OpenClaim := { program := "ytigchloekolaoaa", sum := "a32b848eef5052368d2266fe426c43c469e5f57e46931de64e9db2e6c11dec6e", func := "forebay/forebaylaw21.EventTells", spec := "eventTells", unfollowed := true, recurses := true, apart := false, narrowed := true }
def EventTellsUptoSaid : Prop := eventTellsUptoRow.holds Try.pinned (OpenSpec.upto eventTellsSpec)

/-- 'forebaylaw21.EventBehind', WHERE WHAT IT READS IS OF BULK AT MOST 1048576: true; the input reads as it did. -/
def eventBehindUptoRow : OpenClaim := { program := "ytigchloekolaoaa", sum := "a32b848eef5052368d2266fe426c43c469e5f57e46931de64e9db2e6c11dec6e", func := "forebay/forebaylaw21.EventBehind", spec := "eventBehind", unfollowed := true, recurses := true, apart := false, narrowed := true }
def EventBehindUptoSaid : Prop := eventBehindUptoRow.holds Try.pinned (OpenSpec.upto eventBehindSpec)

end Rows
end Go.Proofs.Ytigchloekolaoaa
