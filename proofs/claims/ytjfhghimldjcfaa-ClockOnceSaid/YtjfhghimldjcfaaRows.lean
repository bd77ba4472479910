/-
  No cell of these rows narrows 'for every input' (looked for: loops, veiled, ifaces, maps, wideKeys, modest, calm, conditions, laid).
  DERIVED. THE GIVEN ROWS OF THIS SEAT. 4 by the template 'for every input the law returns true; each argument reads behind the call as it read before'; 0 by the template 'total and deterministic' (their statements: YtjfhghimldjcfaaTotals.lean).
  GIVEN WITH THE SEED: the statements are not yours to turn. If you find one false, say at which input.
  Laid BY PROGRAM, IN A SANDBOX (cutbox-rows.mjs): the forced cells as the released guide's own fill.sh prints them over the translation bde2e8f8a168319f… (all of the seat's roots in one cut). By AI agents, Wed Nov 11 2026. No macro, syntax, notation, axiom, sorry.
-/
import Derived.Test.YtjfhghimldjcfaaChecked
import GoSem.Claim
import GoSem.ClaimJoined
import GoSem.ClaimMapViews
import Derived.JoinedTies
import Derived.KernelRfl
namespace Go.Proofs.Ytjfhghimldjcfaa
/- THE CELL 'sum', in the pinned program and in every row, IS THE sha256 OF THE DUMP (.gsa) THAT YtjfhghimldjcfaaProg.lean LOADS. Nothing in Lean hashes anything: it is a label: what it is worth is what the hold of that sum in a sandbox is worth. -/
noncomputable def Try.pinned : Pinned := { name := "ytjfhghimldjcfaa", sum := "bde2e8f8a168319f33a5a96a205854800720829cf1676a5a89bad586d9afcc77", checked := Try.checked }
namespace Rows
def none {H : Type} : Left H := { results := [], args := [] }

/-- 'tollbarlaw15.ClockPlays': WHATEVER THE INPUT: true; the input reads as it did. -/
def clockPlaysSpec : ChangeSpec := { name := "clockPlays", fn := fun _ => fun
  | [d] => { results := [.lit (.bool true)], args := [d] }
  | _ => none }
def clockPlaysRow : OpenClaim := { program := "ytjfhghimldjcfaa", sum := "bde2e8f8a168319f33a5a96a205854800720829cf1676a5a89bad586d9afcc77", func := "tollbar/tollbarlaw15.ClockPlays", spec := "clockPlays", unfollowed := true, recurses := true, apart := false }
def ClockPlaysSaid : Prop := clockPlaysRow.holds Try.pinned (OpenSpec.ofChange clockPlaysSpec)

/-- ITS FALSE NEIGHBOUR: 'it returns false'. Refute it at one input. -/
def clockPlaysWrong : ChangeSpec := { name := "clockPlays", fn := fun _ => fun
  | [d] => { results := [.lit (.bool false)], args := [d] }
  | _ => none }
def ClockPlaysWrongFalsely : Prop := clockPlaysRow.holds Try.pinned (OpenSpec.ofChange clockPlaysWrong)

/-- 'tollbarlaw15.ClockOnce': WHATEVER THE INPUT: true; the input reads as it did. -/
def clockOnceSpec : ChangeSpec := { name := "clockOnce", fn := fun _ => fun
  | [d1, d2, d3] => { results := [.lit (.bool true)], args := [d1, d2, d3] }
  | _ => none }
def clockOnceRow : OpenClaim := { program := "ytjfhghimldjcfaa", sum := "bde2e8f8a168319f33a5a96a205854800720829cf1676a5a89bad586d9afcc77", func := "tollbar/tollbarlaw15.ClockOnce", spec := "clockOnce", unfollowed := true, recurses := true, apart := false }
def ClockOnceSaid : Prop := clockOnceRow.holds Try.pinned (OpenSpec.ofChange clockOnceSpec)

/-- ITS FALSE NEIGHBOUR: 'it returns false'. Refute it at one input. -/
def clockOnceWrong : ChangeSpec := { name := "clockOnce", fn := fun _ => fun
  | [d1, d2, d3] => { results := [.lit (.bool false)], args := [d1, d2, d3] }
  | _ => none }
def ClockOnceWrongFalsely : Prop := clockOnceRow.holds Try.pinned (OpenSpec.ofChange clockOnceWrong)

/-- 'tollbarlaw15.ClockEnds': WHATEVER THE INPUT: true; the input reads as it did. -/
def clockEndsSpec : ChangeSpec := { name := "clockEnds", fn := fun _ => fun
  | [d1, d2] => { results := [.lit (.bool true)], args := [d1, d2] }
  | _ => none }
def clockEndsRow : OpenClaim := { program := "ytjfhghimldjcfaa", sum := "bde2e8f8a168319f33a5a96a205854800720829cf1676a5a89bad586d9afcc77", func := "tollbar/tollbarlaw15.ClockEnds", spec := "clockEnds", unfollowed := true, recurses := true, apart := false }
def ClockEndsSaid : Prop := clockEndsRow.holds Try.pinned (OpenSpec.ofChange clockEndsSpec)

/-- ITS FALSE NEIGHBOUR: 'it returns false'. Refute it at one input. -/
def clockEndsWrong : ChangeSpec := { name := "clockEnds", fn := fun _ => fun
  | [d1, d2] => { results := [.lit (.bool false)], args := [d1, d2] }
  | _ => none }
def ClockEndsWrongFalsely : Prop := clockEndsRow.holds Try.pinned (OpenSpec.ofChange clockEndsWrong)

/-- 'tollbarlaw15.ClockSplit': WHATEVER THE INPUT: true; the input reads as it did. -/
def clockSplitSpec : ChangeSpec := { name := "clockSplit", fn := fun _ => fun
  | [d1, d2] => { results := [.lit (.bool true)], args := [d1, d2] }
  | _ => none }
def clockSplitRow : OpenClaim := { program := "ytjfhghimldjcfaa", sum := "bde2e8f8a168319f33a5a96a205854800720829cf1676a5a89bad586d9afcc77", func := "tollbar/tollbarlaw15.ClockSplit", spec := "clockSplit", unfollowed := true, recurses := true, apart := false }
def ClockSplitSaid : Prop := clockSplitRow.holds Try.pinned (OpenSpec.ofChange clockSplitSpec)

/-- ITS FALSE NEIGHBOUR: 'it returns false'. Refute it at one input. -/
def clockSplitWrong : ChangeSpec := { name := "clockSplit", fn := fun _ => fun
  | [d1, d2] => { results := [.lit (.bool false)], args := [d1, d2] }
  | _ => none }
def ClockSplitWrongFalsely : Prop := clockSplitRow.holds Try.pinned (OpenSpec.ofChange clockSplitWrong)

/- THE SECOND FORM. 'bulk': how many values and letters a reading holds, each counted each time it is reached (what is shared counts as often as it is met; a slice's spare places count too). A statement '..UptoSaid' is the law's where the arguments, and the package variables that the reading takes, are together of bulk at most 1048576: NARROWER than '..Said'. Prove '..Said' where nothing that the law and all that it calls make is longer than what came in: it says more and counts as full. Else prove '..UptoSaid'. A law counts once. -/
mutual
def uptoBulk {H : Type} : DataW H → Nat
  | .lit (.string bytes) => bytes.length + 1
  | .lit _ => 1
  | .nil => 1
  | .ptr d => uptoBulk d + 1
  | .slice elems spare => uptoBulkAll elems + uptoBulkAll spare + 1
  | .agg parts => uptoBulkAll parts + 1
  | .iface _ d => uptoBulk d + 1
  | .map entries => uptoBulkEntries entries + 1
  | .held _ => 1
def uptoBulkAll {H : Type} : List (DataW H) → Nat
  | [] => 0
  | d :: r => uptoBulk d + uptoBulkAll r
def uptoBulkEntries {H : Type} : List (Lit × DataW H) → Nat
  | [] => 0
  | x :: r => uptoBulkEntry x + uptoBulkEntries r
def uptoBulkEntry {H : Type} : Lit × DataW H → Nat
  | (.string bytes, d) => bytes.length + uptoBulk d + 1
  | (_, d) => uptoBulk d + 1
 end
def uptoSmall : (H : Type) → List (DataW H) → Bool := fun _ ds => decide (uptoBulkAll ds ≤ 1048576)
def OpenSpec.upto (s : _root_.Go.ChangeSpec) : _root_.Go.OpenSpec := { _root_.Go.OpenSpec.ofChange s with cond := some uptoSmall }

/-- 'tollbarlaw15.ClockPlays', WHERE WHAT IT READS IS OF BULK AT MOST 1048576: true; the input reads as it did. -/
def clockPlaysUptoRow : OpenClaim := { program := "ytjfhghimldjcfaa", sum := "bde2e8f8a168319f33a5a96a205854800720829cf1676a5a89bad586d9afcc77", func := "tollbar/tollbarlaw15.ClockPlays", spec := "clockPlays", unfollowed := true, recurses := true, apart := false, narrowed := true }
def ClockPlaysUptoSaid : Prop := clockPlaysUptoRow.holds Try.pinned (OpenSpec.upto clockPlaysSpec)

/-- 'tollbarlaw15.ClockOnce', WHERE WHAT IT READS IS OF BULK AT MOST 1048576: true; the input reads as it did. -/
def clockOnceUptoRow : OpenClaim := { program := "ytjfhghimldjcfaa", sum := "bde2e8f8a168319f33a5a96a205854800720829cf1676a5a89bad586d9afcc77", func := "tollbar/tollbarlaw15.ClockOnce", spec := "clockOnce", unfollowed := true, recurses := true, apart := false, narrowed := true }
def ClockOnceUptoSaid : Prop := clockOnceUptoRow.holds Try.pinned (OpenSpec.upto clockOnceSpec)

/-- 'tollbarlaw15.ClockEnds', WHERE WHAT IT READS IS OF BULK AT MOST 1048576: true; the input reads as it did. -/
def clockEndsUptoRow : OpenClaim := { program := "ytjfhghimldjcfaa", sum := "bde2e8f8a168319f33a5a96a205854800720829cf1676a5a89bad586d9afcc77", func := "tollbar/tollbarlaw15.ClockEnds", spec := "clockEnds", unfollowed := true, recurses := true, apart := false, narrowed := true }
def ClockEndsUptoSaid : Prop := clockEndsUptoRow.holds Try.pinned (OpenSpec.upto clockEndsSpec)

/-- 'tollbarlaw15.ClockSplit', WHERE WHAT IT READS IS OF BULK AT MOST 1048576: true; the input reads as it did. -/
def clockSplitUptoRow : OpenClaim := { program := "ytjfhghimldjcfaa", sum := "bde2e8f8a168319f33a5a96a205854800720829cf1676a5a89bad586d9afcc77", func := "tollbar/tollbarlaw15.ClockSplit", spec := "clockSplit", unfollowed := true, recurses := true, apart := false, narrowed := true }
def ClockSplitUptoSaid : Prop := clockSplitUptoRow.holds Try.pinned (OpenSpec.upto clockSplitSpec)

end Rows
end Go.Proofs.Ytjfhghimldjcfaa
