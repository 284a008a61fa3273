/-
  No cell of these rows narrows 'for every input' (looked for: loops, veiled, ifaces, maps, wideKeys, modest, calm, conditions, laid).
  DERIVED. THE GIVEN ROWS OF THIS SEAT. 10 by the template 'for every input the law returns true; each argument reads behind the call as it read before'; 0 by the template 'total and deterministic' (their statements: YtdboiflfehpjhaaTotals.lean).
  GIVEN WITH THE SEED: the statements are not yours to turn. If you find one false, say at which input.
  Laid BY PROGRAM, IN A SANDBOX (cutbox-rows.mjs): the forced cells as the released guide's own fill.sh prints them over the translation a52e361bd89b7315… (all of the seat's roots in one cut). By AI agents, Wed Nov 11 2026. No macro, syntax, notation, axiom, sorry.
-/
import Derived.Test.YtdboiflfehpjhaaChecked
import GoSem.Claim
import GoSem.ClaimJoined
import GoSem.ClaimMapViews
import Derived.JoinedTies
import Derived.KernelRfl
namespace Go.Proofs.Ytdboiflfehpjhaa
/- THE CELL 'sum', in the pinned program and in every row, IS THE sha256 OF THE DUMP (.gsa) THAT YtdboiflfehpjhaaProg.lean LOADS. Nothing in Lean hashes anything: it is a label: what it is worth is what the hold of that sum in a sandbox is worth. -/
noncomputable def Try.pinned : Pinned := { name := "ytdboiflfehpjhaa", sum := "a52e361bd89b731585b5f91f2d39e67105109fd4076ecbe6fb6923bc694074a7", checked := Try.checked }
namespace Rows
def none {H : Type} : Left H := { results := [], args := [] }

/-- 'lookasidelaw04.MemoryApart': WHATEVER THE INPUT: true; the input reads as it did. -/
def memoryApartSpec : ChangeSpec := { name := "memoryApart", fn := fun _ => fun
  | [d1, d2] => { results := [.lit (.bool true)], args := [d1, d2] }
  | _ => none }
def memoryApartRow : OpenClaim := { program := "ytdboiflfehpjhaa", sum := "a52e361bd89b731585b5f91f2d39e67105109fd4076ecbe6fb6923bc694074a7", func := "lookaside/lookasidelaw04.MemoryApart", spec := "memoryApart", inPlace := ["maps.clone"], apart := false }
def MemoryApartSaid : Prop := memoryApartRow.holds Try.pinned (OpenSpec.ofChange memoryApartSpec)

/-- ITS FALSE NEIGHBOUR: 'it returns false'. Refute it at one input. -/
def memoryApartWrong : ChangeSpec := { name := "memoryApart", fn := fun _ => fun
  | [d1, d2] => { results := [.lit (.bool false)], args := [d1, d2] }
  | _ => none }
def MemoryApartWrongFalsely : Prop := memoryApartRow.holds Try.pinned (OpenSpec.ofChange memoryApartWrong)

/-- 'lookasidelaw05.FramesPlays': WHATEVER THE INPUT: true; the input reads as it did. -/
def framesPlaysSpec : ChangeSpec := { name := "framesPlays", fn := fun _ => fun
  | [d1, d2] => { results := [.lit (.bool true)], args := [d1, d2] }
  | _ => none }
def framesPlaysRow : OpenClaim := { program := "ytdboiflfehpjhaa", sum := "a52e361bd89b731585b5f91f2d39e67105109fd4076ecbe6fb6923bc694074a7", func := "lookaside/lookasidelaw05.FramesPlays", spec := "framesPlays", unfollowed := true, recurses := true, apart := false }
def FramesPlaysSaid : Prop := framesPlaysRow.holds Try.pinned (OpenSpec.ofChange framesPlaysSpec)

/-- ITS FALSE NEIGHBOUR: 'it returns false'. Refute it at one input. -/
def framesPlaysWrong : ChangeSpec := { name := "framesPlays", fn := fun _ => fun
  | [d1, d2] => { results := [.lit (.bool false)], args := [d1, d2] }
  | _ => none }
def FramesPlaysWrongFalsely : Prop := framesPlaysRow.holds Try.pinned (OpenSpec.ofChange framesPlaysWrong)

/-- 'lookasidelaw13.SwapFrames': WHATEVER THE INPUT: true; the input reads as it did. -/
def swapFramesSpec : ChangeSpec := { name := "swapFrames", fn := fun _ => fun
  | [d1, d2] => { results := [.lit (.bool true)], args := [d1, d2] }
  | _ => none }
def swapFramesRow : OpenClaim := { program := "ytdboiflfehpjhaa", sum := "a52e361bd89b731585b5f91f2d39e67105109fd4076ecbe6fb6923bc694074a7", func := "lookaside/lookasidelaw13.SwapFrames", spec := "swapFrames", unfollowed := true, recurses := true, apart := false }
def SwapFramesSaid : Prop := swapFramesRow.holds Try.pinned (OpenSpec.ofChange swapFramesSpec)

/-- ITS FALSE NEIGHBOUR: 'it returns false'. Refute it at one input. -/
def swapFramesWrong : ChangeSpec := { name := "swapFrames", fn := fun _ => fun
  | [d1, d2] => { results := [.lit (.bool false)], args := [d1, d2] }
  | _ => none }
def SwapFramesWrongFalsely : Prop := swapFramesRow.holds Try.pinned (OpenSpec.ofChange swapFramesWrong)

/-- 'lookasidelaw10.TsbLast': WHATEVER THE INPUT: true; the input reads as it did. -/
def tsbLastSpec : ChangeSpec := { name := "tsbLast", fn := fun _ => fun
  | [d1, d2, d3, d4, d5] => { results := [.lit (.bool true)], args := [d1, d2, d3, d4, d5] }
  | _ => none }
def tsbLastRow : OpenClaim := { program := "ytdboiflfehpjhaa", sum := "a52e361bd89b731585b5f91f2d39e67105109fd4076ecbe6fb6923bc694074a7", func := "lookaside/lookasidelaw10.TsbLast", spec := "tsbLast", unfollowed := true, recurses := true, apart := false }
def TsbLastSaid : Prop := tsbLastRow.holds Try.pinned (OpenSpec.ofChange tsbLastSpec)

/-- ITS FALSE NEIGHBOUR: 'it returns false'. Refute it at one input. -/
def tsbLastWrong : ChangeSpec := { name := "tsbLast", fn := fun _ => fun
  | [d1, d2, d3, d4, d5] => { results := [.lit (.bool false)], args := [d1, d2, d3, d4, d5] }
  | _ => none }
def TsbLastWrongFalsely : Prop := tsbLastRow.holds Try.pinned (OpenSpec.ofChange tsbLastWrong)

/-- 'lookasidelaw10.TsbSteps': WHATEVER THE INPUT: true; the input reads as it did. -/
def tsbStepsSpec : ChangeSpec := { name := "tsbSteps", fn := fun _ => fun
  | [d1, d2, d3, d4] => { results := [.lit (.bool true)], args := [d1, d2, d3, d4] }
  | _ => none }
def tsbStepsRow : OpenClaim := { program := "ytdboiflfehpjhaa", sum := "a52e361bd89b731585b5f91f2d39e67105109fd4076ecbe6fb6923bc694074a7", func := "lookaside/lookasidelaw10.TsbSteps", spec := "tsbSteps", unfollowed := true, recurses := true, apart := false }
def TsbStepsSaid : Prop := tsbStepsRow.holds Try.pinned (OpenSpec.ofChange tsbStepsSpec)

/-- ITS FALSE NEIGHBOUR: 'it returns false'. Refute it at one input. -/
def tsbStepsWrong : ChangeSpec := { name := "tsbSteps", fn := fun _ => fun
  | [d1, d2, d3, d4] => { results := [.lit (.bool false)], args := [d1, d2, d3, d4] }
  | _ => none }
def TsbStepsWrongFalsely : Prop := tsbStepsRow.holds Try.pinned (OpenSpec.ofChange tsbStepsWrong)

/-- 'lookasidelaw10.TsbMoves': WHATEVER THE INPUT: true; the input reads as it did. -/
def tsbMovesSpec : ChangeSpec := { name := "tsbMoves", fn := fun _ => fun
  | [d1, d2, d3, d4] => { results := [.lit (.bool true)], args := [d1, d2, d3, d4] }
  | _ => none }
def tsbMovesRow : OpenClaim := { program := "ytdboiflfehpjhaa", sum := "a52e361bd89b731585b5f91f2d39e67105109fd4076ecbe6fb6923bc694074a7", func := "lookaside/lookasidelaw10.TsbMoves", spec := "tsbMoves", unfollowed := true, recurses := true, apart := false }
def TsbMovesSaid : Prop := tsbMovesRow.holds Try.pinned (OpenSpec.ofChange tsbMovesSpec)

/-- ITS FALSE NEIGHBOUR: 'it returns false'. Refute it at one input. -/
def tsbMovesWrong : ChangeSpec := { name := "tsbMoves", fn := fun _ => fun
  | [d1, d2, d3, d4] => { results := [.lit (.bool false)], args := [d1, d2, d3, d4] }
  | _ => none }
def TsbMovesWrongFalsely : Prop := tsbMovesRow.holds Try.pinned (OpenSpec.ofChange tsbMovesWrong)

/-- 'lookasidelaw10.TsbPlaces': WHATEVER THE INPUT: true; the input reads as it did. -/
def tsbPlacesSpec : ChangeSpec := { name := "tsbPlaces", fn := fun _ => fun
  | [d1, d2, d3, d4] => { results := [.lit (.bool true)], args := [d1, d2, d3, d4] }
  | _ => none }
def tsbPlacesRow : OpenClaim := { program := "ytdboiflfehpjhaa", sum := "a52e361bd89b731585b5f91f2d39e67105109fd4076ecbe6fb6923bc694074a7", func := "lookaside/lookasidelaw10.TsbPlaces", spec := "tsbPlaces", unfollowed := true, recurses := true, apart := false }
def TsbPlacesSaid : Prop := tsbPlacesRow.holds Try.pinned (OpenSpec.ofChange tsbPlacesSpec)

/-- ITS FALSE NEIGHBOUR: 'it returns false'. Refute it at one input. -/
def tsbPlacesWrong : ChangeSpec := { name := "tsbPlaces", fn := fun _ => fun
  | [d1, d2, d3, d4] => { results := [.lit (.bool false)], args := [d1, d2, d3, d4] }
  | _ => none }
def TsbPlacesWrongFalsely : Prop := tsbPlacesRow.holds Try.pinned (OpenSpec.ofChange tsbPlacesWrong)

/-- 'lookasidelaw10.TsbDrops': WHATEVER THE INPUT: true; the input reads as it did. -/
def tsbDropsSpec : ChangeSpec := { name := "tsbDrops", fn := fun _ => fun
  | [d1, d2, d3, d4, d5] => { results := [.lit (.bool true)], args := [d1, d2, d3, d4, d5] }
  | _ => none }
def tsbDropsRow : OpenClaim := { program := "ytdboiflfehpjhaa", sum := "a52e361bd89b731585b5f91f2d39e67105109fd4076ecbe6fb6923bc694074a7", func := "lookaside/lookasidelaw10.TsbDrops", spec := "tsbDrops", unfollowed := true, recurses := true, apart := false }
def TsbDropsSaid : Prop := tsbDropsRow.holds Try.pinned (OpenSpec.ofChange tsbDropsSpec)

/-- ITS FALSE NEIGHBOUR: 'it returns false'. Refute it at one input. -/
def tsbDropsWrong : ChangeSpec := { name := "tsbDrops", fn := fun _ => fun
  | [d1, d2, d3, d4, d5] => { results := [.lit (.bool false)], args := [d1, d2, d3, d4, d5] }
  | _ => none }
def TsbDropsWrongFalsely : Prop := tsbDropsRow.holds Try.pinned (OpenSpec.ofChange tsbDropsWrong)

/-- 'lookasidelaw10.TsbClears': WHATEVER THE INPUT: true; the input reads as it did. -/
def tsbClearsSpec : ChangeSpec := { name := "tsbClears", fn := fun _ => fun
  | [d1, d2, d3, d4] => { results := [.lit (.bool true)], args := [d1, d2, d3, d4] }
  | _ => none }
def tsbClearsRow : OpenClaim := { program := "ytdboiflfehpjhaa", sum := "a52e361bd89b731585b5f91f2d39e67105109fd4076ecbe6fb6923bc694074a7", func := "lookaside/lookasidelaw10.TsbClears", spec := "tsbClears", unfollowed := true, recurses := true, apart := false }
def TsbClearsSaid : Prop := tsbClearsRow.holds Try.pinned (OpenSpec.ofChange tsbClearsSpec)

/-- ITS FALSE NEIGHBOUR: 'it returns false'. Refute it at one input. -/
def tsbClearsWrong : ChangeSpec := { name := "tsbClears", fn := fun _ => fun
  | [d1, d2, d3, d4] => { results := [.lit (.bool false)], args := [d1, d2, d3, d4] }
  | _ => none }
def TsbClearsWrongFalsely : Prop := tsbClearsRow.holds Try.pinned (OpenSpec.ofChange tsbClearsWrong)

/-- 'lookasidelaw10.TsbPlays': WHATEVER THE INPUT: true; the input reads as it did. -/
def tsbPlaysSpec : ChangeSpec := { name := "tsbPlays", fn := fun _ => fun
  | [d1, d2, d3] => { results := [.lit (.bool true)], args := [d1, d2, d3] }
  | _ => none }
def tsbPlaysRow : OpenClaim := { program := "ytdboiflfehpjhaa", sum := "a52e361bd89b731585b5f91f2d39e67105109fd4076ecbe6fb6923bc694074a7", func := "lookaside/lookasidelaw10.TsbPlays", spec := "tsbPlays", unfollowed := true, recurses := true, apart := false }
def TsbPlaysSaid : Prop := tsbPlaysRow.holds Try.pinned (OpenSpec.ofChange tsbPlaysSpec)

/-- ITS FALSE NEIGHBOUR: 'it returns false'. Refute it at one input. -/
def tsbPlaysWrong : ChangeSpec := { name := "tsbPlays", fn := fun _ => fun
  | [d1, d2, d3] => { results := [.lit (.bool false)], args := [d1, d2, d3] }
  | _ => none }
def TsbPlaysWrongFalsely : Prop := tsbPlaysRow.holds Try.pinned (OpenSpec.ofChange tsbPlaysWrong)

/- THE SECOND FORM. 'bulk': how many values and letters a reading holds, each counted each time it is reached (what is shared counts as often as it is met; a slice's spare places count too). A statement '..UptoSaid' is the law's where the arguments, and the package variables that the reading takes, are together of bulk at most 1048576: NARROWER than '..Said'. Prove '..Said' where nothing that the law and all that it calls make is longer than what came in: it says more and counts as full. Else prove '..UptoSaid'. A law counts once. -/
mutual
def uptoBulk {H : Type} : DataW H → Nat
  | .lit (.string bytes) => bytes.length + 1
  | .lit _ => 1
  | .nil => 1
  | .ptr d => uptoBulk d + 1
  | .slice elems spare => uptoBulkAll elems + uptoBulkAll spare + 1
  | .agg parts => uptoBulkAll parts + 1
  | .iface _ d => uptoBulk d + 1
  | .map entries => uptoBulkEntries entries + 1
  | .held _ => 1
def uptoBulkAll {H : Type} : List (DataW H) → Nat
  | [] => 0
  | d :: r => uptoBulk d + uptoBulkAll r
def uptoBulkEntries {H : Type} : List (Lit × DataW H) → Nat
  | [] => 0
  | x :: r => uptoBulkEntry x + uptoBulkEntries r
def uptoBulkEntry {H : Type} : Lit × DataW H → Nat
  | (.string bytes, d) => bytes.length + uptoBulk d + 1
  | (_, d) => uptoBulk d + 1
 end
def uptoSmall : (H : Type) → List (DataW H) → Bool := fun _ ds => decide (uptoBulkAll ds ≤ 1048576)
def OpenSpec.upto (s : _root_.Go.ChangeSpec) : _root_.Go.OpenSpec := { _root_.Go.OpenSpec.ofChange s with cond := some uptoSmall }

/-- 'lookasidelaw04.MemoryApart', WHERE WHAT IT READS IS OF BULK AT MOST 1048576: true; the input reads as it did. -/
def memoryApartUptoRow : OpenClaim := { program := "ytdboiflfehpjhaa", sum := "a52e361bd89b731585b5f91f2d39e67105109fd4076ecbe6fb6923bc694074a7", func := "lookaside/lookasidelaw04.MemoryApart", spec := "memoryApart", inPlace := ["maps.clone"], apart := false, narrowed := true }
def MemoryApartUptoSaid : Prop := memoryApartUptoRow.holds Try.pinned (OpenSpec.upto memoryApartSpec)

/-- 'lookasidelaw05.FramesPlays', WHERE WHAT IT READS IS OF BULK AT MOST 1048576: true; the input reads as it did. -/
def framesPlaysUptoRow : OpenClaim := { program := "ytdboiflfehpjhaa", sum := "a52e361bd89b731585b5f91f2d39e67105109fd4076ecbe6fb6923bc694074a7", func := "lookaside/lookasidelaw05.FramesPlays", spec := "framesPlays", unfollowed := true, recurses := true, apart := false, narrowed := true }
def FramesPlaysUptoSaid : Prop := framesPlaysUptoRow.holds Try.pinned (OpenSpec.upto framesPlaysSpec)

/-- 'lookasidelaw13.SwapFrames', WHERE WHAT IT READS IS OF BULK AT MOST 1048576: true; the input reads as it did. -/
def swapFramesUptoRow : OpenClaim := { program := "ytdboiflfehpjhaa", sum := "a52e361bd89b731585b5f91f2d39e67105109fd4076ecbe6fb6923bc694074a7", func := "lookaside/lookasidelaw13.SwapFrames", spec := "swapFrames", unfollowed := true, recurses := true, apart := false, narrowed := true }
def SwapFramesUptoSaid : Prop := swapFramesUptoRow.holds Try.pinned (OpenSpec.upto swapFramesSpec)

/-- 'lookasidelaw10.TsbLast', WHERE WHAT IT READS IS OF BULK AT MOST 1048576: true; the input reads as it did. -/
def tsbLastUptoRow : OpenClaim := { program := "ytdboiflfehpjhaa", sum := "a52e361bd89b731585b5f91f2d39e67105109fd4076ecbe6fb6923bc694074a7", func := "lookaside/lookasidelaw10.TsbLast", spec := "tsbLast", unfollowed := true, recurses := true, apart := false, narrowed := true }
def TsbLastUptoSaid : Prop := tsbLastUptoRow.holds Try.pinned (OpenSpec.upto tsbLastSpec)

/-- 'lookasidelaw10.TsbSteps', WHERE WHAT IT READS IS OF BULK AT MOST 1048576: true; the input reads as it did. -/
def tsbStepsUptoRow : OpenClaim := { program := "ytdboiflfehpjhaa", sum := "a52e361bd89b731585b5f91f2d39e67105109fd4076ecbe6fb6923bc694074a7", func := "lookaside/lookasidelaw10.TsbSteps", spec := "tsbSteps", unfollowed := true, recurses := true, apart := false, narrowed := true }
def TsbStepsUptoSaid : Prop := tsbStepsUptoRow.holds Try.pinned (OpenSpec.upto tsbStepsSpec)

/-- 'lookasidelaw10.TsbMoves', WHERE WHAT IT READS IS OF BULK AT MOST 1048576: true; the input reads as it did. -/
def tsbMovesUptoRow : OpenClaim := { program := "ytdboiflfehpjhaa", sum := "a52e361bd89b731585b5f91f2d39e67105109fd4076ecbe6fb6923bc694074a7", func := "lookaside/lookasidelaw10.TsbMoves", spec := "tsbMoves", unfollowed := true, recurses := true, apart := false, narrowed := true }
def TsbMovesUptoSaid : Prop := tsbMovesUptoRow.holds Try.pinned (OpenSpec.upto tsbMovesSpec)

/-- 'lookasidelaw10.TsbPlaces', WHERE WHAT IT READS IS OF BULK AT MOST 1048576: true; the input reads as it did. -/
def tsbPlacesUptoRow : OpenClaim := { program := "ytdboiflfehpjhaa", sum := "a52e361bd89b731585b5f91f2d39e67105109fd4076ecbe6fb6923bc694074a7", func := "lookaside/lookasidelaw10.TsbPlaces", spec := "tsbPlaces", unfollowed := true, recurses := true, apart := false, narrowed := true }
def TsbPlacesUptoSaid : Prop := tsbPlacesUptoRow.holds Try.pinned (OpenSpec.upto tsbPlacesSpec)

/-- 'lookasidelaw10.TsbDrops', WHERE WHAT IT READS IS OF BULK AT MOST 1048576: true; the input reads as it did. -/
def tsbDropsUptoRow : OpenClaim := { program := "ytdboiflfehpjhaa", sum := "a52e361bd89b731585b5f91f2d39e67105109fd4076ecbe6fb6923bc694074a7", func := "lookaside/lookasidelaw10.TsbDrops", spec := "tsbDrops", unfollowed := true, recurses := true, apart := false, narrowed := true }
def TsbDropsUptoSaid : Prop := tsbDropsUptoRow.holds Try.pinned (OpenSpec.upto tsbDropsSpec)

/-- 'lookasidelaw10.TsbClears', WHERE WHAT IT READS IS OF BULK AT MOST 1048576: true; the input reads as it did. -/
def tsbClearsUptoRow : OpenClaim := { program := "ytdboiflfehpjhaa", sum := "a52e361bd89b731585b5f91f2d39e67105109fd4076ecbe6fb6923bc694074a7", func := "lookaside/lookasidelaw10.TsbClears", spec := "tsbClears", unfollowed := true, recurses := true, apart := false, narrowed := true }
def TsbClearsUptoSaid : Prop := tsbClearsUptoRow.holds Try.pinned (OpenSpec.upto tsbClearsSpec)

/-- 'lookasidelaw10.TsbPlays', WHERE WHAT IT READS IS OF BULK AT MOST 1048576: true; the input reads as it did. -/
def tsbPlaysUptoRow : OpenClaim := { program := "ytdboiflfehpjhaa", sum := "a52e361bd89b731585b5f91f2d39e67105109fd4076ecbe6fb6923bc694074a7", func := "lookaside/lookasidelaw10.TsbPlays", spec := "tsbPlays", unfollowed := true, recurses := true, apart := false, narrowed := true }
def TsbPlaysUptoSaid : Prop := tsbPlaysUptoRow.holds Try.pinned (OpenSpec.upto tsbPlaysSpec)

end Rows
end Go.Proofs.Ytdboiflfehpjhaa
