/-
  No cell of these rows narrows 'for every input' (looked for: loops, veiled, ifaces, maps, wideKeys, modest, calm, conditions, laid).
  DERIVED. THE GIVEN ROWS OF THIS SEAT. 5 by the template 'for every input the law returns true; each argument reads behind the call as it read before'; 0 by the template 'total and deterministic' (their statements: YtmgjeinjifjaaaaTotals.lean).
  GIVEN WITH THE SEED: the statements are not yours to turn. If you find one false, say at which input.
  Laid BY PROGRAM, IN A SANDBOX (cutbox-rows.mjs): the forced cells as the released guide's own fill.sh prints them over the translation 4e08e905e6f503b2… (all of the seat's roots in one cut). By AI agents, Wed Nov 11 2026. No macro, syntax, notation, axiom, sorry.
-/
import Derived.Test.YtmgjeinjifjaaaaChecked
import GoSem.Claim
import GoSem.ClaimJoined
import GoSem.ClaimMapViews
import Derived.JoinedTies
import Derived.KernelRfl
namespace Go.Proofs.Ytmgjeinjifjaaaa
/- THE CELL 'sum', in the pinned program and in every row, IS THE sha256 OF THE DUMP (.gsa) THAT YtmgjeinjifjaaaaProg.lean LOADS. Nothing in Lean hashes anything: it is a label: what it is worth is what the hold of that sum in a sandbox is worth. -/
noncomputable def Try.pinned : Pinned := { name := "ytmgjeinjifjaaaa", sum := "4e08e905e6f503b202905bad993c0726768f4c82443865d4bb4d2c7453b33741", checked := Try.checked }
namespace Rows
def none {H : Type} : Left H := { results := [], args := [] }

/-- 'tollbarlaw01.MeterPlays': WHATEVER THE INPUT: true; the input reads as it did. -/
def meterPlaysSpec : ChangeSpec := { name := "meterPlays", fn := fun _ => fun
  | [d1, d2, d3] => { results := [.lit (.bool true)], args := [d1, d2, d3] }
  | _ => none }
def meterPlaysRow : OpenClaim := { program := "ytmgjeinjifjaaaa", sum := "4e08e905e6f503b202905bad993c0726768f4c82443865d4bb4d2c7453b33741", func := "tollbar/tollbarlaw01.MeterPlays", spec := "meterPlays", inPlace := ["sync/atomic.LoadInt64", "sync/atomic.CompareAndSwapInt64"], apart := false }
def MeterPlaysSaid : Prop := meterPlaysRow.holds Try.pinned (OpenSpec.ofChange meterPlaysSpec)

/-- ITS FALSE NEIGHBOUR: 'it returns false'. Refute it at one input. -/
def meterPlaysWrong : ChangeSpec := { name := "meterPlays", fn := fun _ => fun
  | [d1, d2, d3] => { results := [.lit (.bool false)], args := [d1, d2, d3] }
  | _ => none }
def MeterPlaysWrongFalsely : Prop := meterPlaysRow.holds Try.pinned (OpenSpec.ofChange meterPlaysWrong)

/-- 'tollbarlaw01.MeterBounds': WHATEVER THE INPUT: true; the input reads as it did. -/
def meterBoundsSpec : ChangeSpec := { name := "meterBounds", fn := fun _ => fun
  | [d1, d2] => { results := [.lit (.bool true)], args := [d1, d2] }
  | _ => none }
def meterBoundsRow : OpenClaim := { program := "ytmgjeinjifjaaaa", sum := "4e08e905e6f503b202905bad993c0726768f4c82443865d4bb4d2c7453b33741", func := "tollbar/tollbarlaw01.MeterBounds", spec := "meterBounds", inPlace := ["sync/atomic.LoadInt64", "sync/atomic.CompareAndSwapInt64"], apart := false }
def MeterBoundsSaid : Prop := meterBoundsRow.holds Try.pinned (OpenSpec.ofChange meterBoundsSpec)

/-- ITS FALSE NEIGHBOUR: 'it returns false'. Refute it at one input. -/
def meterBoundsWrong : ChangeSpec := { name := "meterBounds", fn := fun _ => fun
  | [d1, d2] => { results := [.lit (.bool false)], args := [d1, d2] }
  | _ => none }
def MeterBoundsWrongFalsely : Prop := meterBoundsRow.holds Try.pinned (OpenSpec.ofChange meterBoundsWrong)

/-- 'tollbarlaw01.MeterExact': WHATEVER THE INPUT: true; the input reads as it did. -/
def meterExactSpec : ChangeSpec := { name := "meterExact", fn := fun _ => fun
  | [d1, d2] => { results := [.lit (.bool true)], args := [d1, d2] }
  | _ => none }
def meterExactRow : OpenClaim := { program := "ytmgjeinjifjaaaa", sum := "4e08e905e6f503b202905bad993c0726768f4c82443865d4bb4d2c7453b33741", func := "tollbar/tollbarlaw01.MeterExact", spec := "meterExact", inPlace := ["sync/atomic.LoadInt64", "sync/atomic.CompareAndSwapInt64"], apart := false }
def MeterExactSaid : Prop := meterExactRow.holds Try.pinned (OpenSpec.ofChange meterExactSpec)

/-- ITS FALSE NEIGHBOUR: 'it returns false'. Refute it at one input. -/
def meterExactWrong : ChangeSpec := { name := "meterExact", fn := fun _ => fun
  | [d1, d2] => { results := [.lit (.bool false)], args := [d1, d2] }
  | _ => none }
def MeterExactWrongFalsely : Prop := meterExactRow.holds Try.pinned (OpenSpec.ofChange meterExactWrong)

/-- 'tollbarlaw01.MeterSplit': WHATEVER THE INPUT: true; the input reads as it did. -/
def meterSplitSpec : ChangeSpec := { name := "meterSplit", fn := fun _ => fun
  | [d1, d2, d3] => { results := [.lit (.bool true)], args := [d1, d2, d3] }
  | _ => none }
def meterSplitRow : OpenClaim := { program := "ytmgjeinjifjaaaa", sum := "4e08e905e6f503b202905bad993c0726768f4c82443865d4bb4d2c7453b33741", func := "tollbar/tollbarlaw01.MeterSplit", spec := "meterSplit", inPlace := ["sync/atomic.LoadInt64", "sync/atomic.CompareAndSwapInt64"], apart := false }
def MeterSplitSaid : Prop := meterSplitRow.holds Try.pinned (OpenSpec.ofChange meterSplitSpec)

/-- ITS FALSE NEIGHBOUR: 'it returns false'. Refute it at one input. -/
def meterSplitWrong : ChangeSpec := { name := "meterSplit", fn := fun _ => fun
  | [d1, d2, d3] => { results := [.lit (.bool false)], args := [d1, d2, d3] }
  | _ => none }
def MeterSplitWrongFalsely : Prop := meterSplitRow.holds Try.pinned (OpenSpec.ofChange meterSplitWrong)

/-- 'tollbarlaw01.MeterLatch': WHATEVER THE INPUT: true; the input reads as it did. -/
def meterLatchSpec : ChangeSpec := { name := "meterLatch", fn := fun _ => fun
  | [d1, d2] => { results := [.lit (.bool true)], args := [d1, d2] }
  | _ => none }
def meterLatchRow : OpenClaim := { program := "ytmgjeinjifjaaaa", sum := "4e08e905e6f503b202905bad993c0726768f4c82443865d4bb4d2c7453b33741", func := "tollbar/tollbarlaw01.MeterLatch", spec := "meterLatch", inPlace := ["sync/atomic.LoadInt64", "sync/atomic.CompareAndSwapInt64", "sync/atomic.LoadUint32", "sync/atomic.StoreUint32", "(*internal/sync.Mutex).Lock", "internal/race.Disable", "sync/atomic.CompareAndSwapInt32", "internal/race.Enable", "internal/race.Acquire", "(*internal/sync.Mutex).lockSlow", "internal/sync.runtime_canSpin", "internal/sync.runtime_doSpin", "internal/sync.throw", "internal/sync.runtime_nanotime", "internal/sync.runtime_SemacquireMutex", "sync/atomic.AddInt32", "(*internal/sync.Mutex).Unlock", "internal/race.ReleaseMerge", "(*internal/sync.Mutex).unlockSlow", "internal/sync.fatal", "internal/sync.runtime_Semrelease"], unfollowed := true, recurses := true, apart := false }
def MeterLatchSaid : Prop := meterLatchRow.holds Try.pinned (OpenSpec.ofChange meterLatchSpec)

/-- ITS FALSE NEIGHBOUR: 'it returns false'. Refute it at one input. -/
def meterLatchWrong : ChangeSpec := { name := "meterLatch", fn := fun _ => fun
  | [d1, d2] => { results := [.lit (.bool false)], args := [d1, d2] }
  | _ => none }
def MeterLatchWrongFalsely : Prop := meterLatchRow.holds Try.pinned (OpenSpec.ofChange meterLatchWrong)

/- THE SECOND FORM. 'bulk': how many values and letters a reading holds, each counted each time it is reached (what is shared counts as often as it is met; a slice's spare places count too). A statement '..UptoSaid' is the law's where the arguments, and the package variables that the reading takes, are together of bulk at most 1048576: NARROWER than '..Said'. Prove '..Said' where nothing that the law and all that it calls make is longer than what came in: it says more and counts as full. Else prove '..UptoSaid'. A law counts once. -/
mutual
def uptoBulk {H : Type} : DataW H → Nat
  | .lit (.string bytes) => bytes.length + 1
  | .lit _ => 1
  | .nil => 1
  | .ptr d => uptoBulk d + 1
  | .slice elems spare => uptoBulkAll elems + uptoBulkAll spare + 1
  | .agg parts => uptoBulkAll parts + 1
  | .iface _ d => uptoBulk d + 1
  | .map entries => uptoBulkEntries entries + 1
  | .held _ => 1
def uptoBulkAll {H : Type} : List (DataW H) → Nat
  | [] => 0
  | d :: r => uptoBulk d + uptoBulkAll r
def uptoBulkEntries {H : Type} : List (Lit × DataW H) → Nat
  | [] => 0
  | x :: r => uptoBulkEntry x + uptoBulkEntries r
def uptoBulkEntry {H : Type} : Lit × DataW H → Nat
  | (.string bytes, d) => bytes.length + uptoBulk d + 1
  | (_, d) => uptoBulk d + 1
 end
def uptoSmall : (H : Type) → List (DataW H) → Bool := fun _ ds => decide (uptoBulkAll ds ≤ 1048576)
def OpenSpec.upto (s : _root_.Go.ChangeSpec) : _root_.Go.OpenSpec := { _root_.Go.OpenSpec.ofChange s with cond := some uptoSmall }

/-- 'tollbarlaw01.MeterPlays', WHERE WHAT IT READS IS OF BULK AT MOST 1048576: true; the input reads as it did. -/
def meterPlaysUptoRow : OpenClaim := { program := "ytmgjeinjifjaaaa", sum := "4e08e905e6f503b202905bad993c0726768f4c82443865d4bb4d2c7453b33741", func := "tollbar/tollbarlaw01.MeterPlays", spec := "meterPlays", inPlace := ["sync/atomic.LoadInt64", "sync/atomic.CompareAndSwapInt64"], apart := false, narrowed := true }
def MeterPlaysUptoSaid : Prop := meterPlaysUptoRow.holds Try.pinned (OpenSpec.upto meterPlaysSpec)

/-- 'tollbarlaw01.MeterBounds', WHERE WHAT IT READS IS OF BULK AT MOST 1048576: true; the input reads as it did. -/
def meterBoundsUptoRow : OpenClaim := { program := "ytmgjeinjifjaaaa", sum := "4e08e905e6f503b202905bad993c0726768f4c82443865d4bb4d2c7453b33741", func := "tollbar/tollbarlaw01.MeterBounds", spec := "meterBounds", inPlace := ["sync/atomic.LoadInt64", "sync/atomic.CompareAndSwapInt64"], apart := false, narrowed := true }
def MeterBoundsUptoSaid : Prop := meterBoundsUptoRow.holds Try.pinned (OpenSpec.upto meterBoundsSpec)

/-- 'tollbarlaw01.MeterExact', WHERE WHAT IT READS IS OF BULK AT MOST 1048576: true; the input reads as it did. -/
def meterExactUptoRow : OpenClaim := { program := "ytmgjeinjifjaaaa", sum := "4e08e905e6f503b202905bad993c0726768f4c82443865d4bb4d2c7453b33741", func := "tollbar/tollbarlaw01.MeterExact", spec := "meterExact", inPlace := ["sync/atomic.LoadInt64", "sync/atomic.CompareAndSwapInt64"], apart := false, narrowed := true }
def MeterExactUptoSaid : Prop := meterExactUptoRow.holds Try.pinned (OpenSpec.upto meterExactSpec)

/-- 'tollbarlaw01.MeterSplit', WHERE WHAT IT READS IS OF BULK AT MOST 1048576: true; the input reads as it did. -/
def meterSplitUptoRow : OpenClaim := { program := "ytmgjeinjifjaaaa", sum := "4e08e905e6f503b202905bad993c0726768f4c82443865d4bb4d2c7453b33741", func := "tollbar/tollbarlaw01.MeterSplit", spec := "meterSplit", inPlace := ["sync/atomic.LoadInt64", "sync/atomic.CompareAndSwapInt64"], apart := false, narrowed := true }
def MeterSplitUptoSaid : Prop := meterSplitUptoRow.holds Try.pinned (OpenSpec.upto meterSplitSpec)

/-- 'tollbarlaw01.MeterLatch', WHERE WHAT IT READS IS OF BULK AT MOST 1048576: true; the input reads as it did. -/
def meterLatchUptoRow : OpenClaim := { program := "ytmgjeinjifjaaaa", sum := "4e08e905e6f503b202905bad993c0726768f4c82443865d4bb4d2c7453b33741", func := "tollbar/tollbarlaw01.MeterLatch", spec := "meterLatch", inPlace := ["sync/atomic.LoadInt64", "sync/atomic.CompareAndSwapInt64", "sync/atomic.LoadUint32", "sync/atomic.StoreUint32", "(*internal/sync.Mutex).Lock", "internal/race.Disable", "sync/atomic.CompareAndSwapInt32", "internal/race.Enable", "internal/race.Acquire", "(*internal/sync.Mutex).lockSlow", "internal/sync.runtime_canSpin", "internal/sync.runtime_doSpin", "internal/sync.throw", "internal/sync.runtime_nanotime", "internal/sync.runtime_SemacquireMutex", "sync/atomic.AddInt32", "(*internal/sync.Mutex).Unlock", "internal/race.ReleaseMerge", "(*internal/sync.Mutex).unlockSlow", "internal/sync.fatal", "internal/sync.runtime_Semrelease"], unfollowed := true, recurses := true, apart := false, narrowed := true }
def MeterLatchUptoSaid : Prop := meterLatchUptoRow.holds Try.pinned (OpenSpec.upto meterLatchSpec)

end Rows
end Go.Proofs.Ytmgjeinjifjaaaa
