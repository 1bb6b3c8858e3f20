/-
  No cell of these rows narrows 'for every input' (looked for: loops, veiled, ifaces, maps, wideKeys, modest, calm, conditions, laid).
  DERIVED. THE GIVEN ROWS OF THIS SEAT. 15 by the template 'for every input the law returns true; each argument reads behind the call as it read before'; 0 by the template 'total and deterministic' (their statements: YtdjemmopecchmaaTotals.lean).
  GIVEN WITH THE SEED: the statements are not yours to turn. If you find one false, say at which input.
  Laid BY PROGRAM, IN A SANDBOX (cutbox-rows.mjs): the forced cells as the released guide's own fill.sh prints them over the translation fd6195e0fb1c0e1e… (all of the seat's roots in one cut). By AI agents, Wed Nov 11 2026. No macro, syntax, notation, axiom, sorry.
-/
import Derived.Test.YtdjemmopecchmaaChecked
import GoSem.Claim
import GoSem.ClaimJoined
import GoSem.ClaimMapViews
import Derived.JoinedTies
import Derived.KernelRfl
namespace Go.Proofs.Ytdjemmopecchmaa
/- THE CELL 'sum', in the pinned program and in every row, IS THE sha256 OF THE DUMP (.gsa) THAT YtdjemmopecchmaaProg.lean LOADS. Nothing in Lean hashes anything: it is a label: what it is worth is what the hold of that sum in a sandbox is worth. -/
noncomputable def Try.pinned : Pinned := { name := "ytdjemmopecchmaa", sum := "fd6195e0fb1c0e1e2b17b514e616c94b7c1c06d99d0bf6bc08ff4cf7102d56b3", checked := Try.checked }
namespace Rows
def none {H : Type} : Left H := { results := [], args := [] }

/-- 'pantilelaw22.PastKeeps': WHATEVER THE INPUT: true; the input reads as it did. -/
def pastKeepsSpec : ChangeSpec := { name := "pastKeeps", fn := fun _ => fun
  | [d] => { results := [.lit (.bool true)], args := [d] }
  | _ => none }
def pastKeepsRow : OpenClaim := { program := "ytdjemmopecchmaa", sum := "fd6195e0fb1c0e1e2b17b514e616c94b7c1c06d99d0bf6bc08ff4cf7102d56b3", func := "pantile/pantilelaw22.PastKeeps", spec := "pastKeeps", inPlace := ["slices.overlaps[pantile/slots.cell[*pantile/node.Node]]"], unfollowed := true, recurses := true, apart := false }
def PastKeepsSaid : Prop := pastKeepsRow.holds Try.pinned (OpenSpec.ofChange pastKeepsSpec)

/-- ITS FALSE NEIGHBOUR: 'it returns false'. Refute it at one input. -/
def pastKeepsWrong : ChangeSpec := { name := "pastKeeps", fn := fun _ => fun
  | [d] => { results := [.lit (.bool false)], args := [d] }
  | _ => none }
def PastKeepsWrongFalsely : Prop := pastKeepsRow.holds Try.pinned (OpenSpec.ofChange pastKeepsWrong)

/-- 'pantilelaw17.ShareNil': WHATEVER THE INPUT: true; the input reads as it did. -/
def shareNilSpec : ChangeSpec := { name := "shareNil", fn := fun _ => fun
  | [d] => { results := [.lit (.bool true)], args := [d] }
  | _ => none }
def shareNilRow : OpenClaim := { program := "ytdjemmopecchmaa", sum := "fd6195e0fb1c0e1e2b17b514e616c94b7c1c06d99d0bf6bc08ff4cf7102d56b3", func := "pantile/pantilelaw17.ShareNil", spec := "shareNil", inPlace := ["slices.overlaps[pantile/slots.cell[*pantile/node.Node]]"], unfollowed := true, recurses := true, apart := false }
def ShareNilSaid : Prop := shareNilRow.holds Try.pinned (OpenSpec.ofChange shareNilSpec)

/-- ITS FALSE NEIGHBOUR: 'it returns false'. Refute it at one input. -/
def shareNilWrong : ChangeSpec := { name := "shareNil", fn := fun _ => fun
  | [d] => { results := [.lit (.bool false)], args := [d] }
  | _ => none }
def ShareNilWrongFalsely : Prop := shareNilRow.holds Try.pinned (OpenSpec.ofChange shareNilWrong)

/-- 'pantilelaw17.ShareFew': WHATEVER THE INPUT: true; the input reads as it did. -/
def shareFewSpec : ChangeSpec := { name := "shareFew", fn := fun _ => fun
  | [d1, d2, d3] => { results := [.lit (.bool true)], args := [d1, d2, d3] }
  | _ => none }
def shareFewRow : OpenClaim := { program := "ytdjemmopecchmaa", sum := "fd6195e0fb1c0e1e2b17b514e616c94b7c1c06d99d0bf6bc08ff4cf7102d56b3", func := "pantile/pantilelaw17.ShareFew", spec := "shareFew", inPlace := ["slices.overlaps[pantile/slots.cell[*pantile/node.Node]]"], unfollowed := true, recurses := true, apart := false }
def ShareFewSaid : Prop := shareFewRow.holds Try.pinned (OpenSpec.ofChange shareFewSpec)

/-- ITS FALSE NEIGHBOUR: 'it returns false'. Refute it at one input. -/
def shareFewWrong : ChangeSpec := { name := "shareFew", fn := fun _ => fun
  | [d1, d2, d3] => { results := [.lit (.bool false)], args := [d1, d2, d3] }
  | _ => none }
def ShareFewWrongFalsely : Prop := shareFewRow.holds Try.pinned (OpenSpec.ofChange shareFewWrong)

/-- 'pantilelaw17.ShareCounts': WHATEVER THE INPUT: true; the input reads as it did. -/
def shareCountsSpec : ChangeSpec := { name := "shareCounts", fn := fun _ => fun
  | [d1, d2, d3] => { results := [.lit (.bool true)], args := [d1, d2, d3] }
  | _ => none }
def shareCountsRow : OpenClaim := { program := "ytdjemmopecchmaa", sum := "fd6195e0fb1c0e1e2b17b514e616c94b7c1c06d99d0bf6bc08ff4cf7102d56b3", func := "pantile/pantilelaw17.ShareCounts", spec := "shareCounts", inPlace := ["slices.overlaps[pantile/slots.cell[*pantile/node.Node]]"], unfollowed := true, recurses := true, apart := false }
def ShareCountsSaid : Prop := shareCountsRow.holds Try.pinned (OpenSpec.ofChange shareCountsSpec)

/-- ITS FALSE NEIGHBOUR: 'it returns false'. Refute it at one input. -/
def shareCountsWrong : ChangeSpec := { name := "shareCounts", fn := fun _ => fun
  | [d1, d2, d3] => { results := [.lit (.bool false)], args := [d1, d2, d3] }
  | _ => none }
def ShareCountsWrongFalsely : Prop := shareCountsRow.holds Try.pinned (OpenSpec.ofChange shareCountsWrong)

/-- 'pantilelaw36.WatchNil': WHATEVER THE INPUT: true; the input reads as it did. -/
def watchNilSpec : ChangeSpec := { name := "watchNil", fn := fun _ => fun
  | [d1, d2] => { results := [.lit (.bool true)], args := [d1, d2] }
  | _ => none }
def watchNilRow : OpenClaim := { program := "ytdjemmopecchmaa", sum := "fd6195e0fb1c0e1e2b17b514e616c94b7c1c06d99d0bf6bc08ff4cf7102d56b3", func := "pantile/pantilelaw36.WatchNil", spec := "watchNil", unfollowed := true, recurses := true, apart := false }
def WatchNilSaid : Prop := watchNilRow.holds Try.pinned (OpenSpec.ofChange watchNilSpec)

/-- ITS FALSE NEIGHBOUR: 'it returns false'. Refute it at one input. -/
def watchNilWrong : ChangeSpec := { name := "watchNil", fn := fun _ => fun
  | [d1, d2] => { results := [.lit (.bool false)], args := [d1, d2] }
  | _ => none }
def WatchNilWrongFalsely : Prop := watchNilRow.holds Try.pinned (OpenSpec.ofChange watchNilWrong)

/-- 'pantilelaw12.DiffNil': WHATEVER THE INPUT: true; the input reads as it did. -/
def diffNilSpec : ChangeSpec := { name := "diffNil", fn := fun _ => fun
  | [d] => { results := [.lit (.bool true)], args := [d] }
  | _ => none }
def diffNilRow : OpenClaim := { program := "ytdjemmopecchmaa", sum := "fd6195e0fb1c0e1e2b17b514e616c94b7c1c06d99d0bf6bc08ff4cf7102d56b3", func := "pantile/pantilelaw12.DiffNil", spec := "diffNil", inPlace := ["slices.overlaps[pantile/slots.cell[*pantile/node.Node]]"], unfollowed := true, recurses := true, apart := false }
def DiffNilSaid : Prop := diffNilRow.holds Try.pinned (OpenSpec.ofChange diffNilSpec)

/-- ITS FALSE NEIGHBOUR: 'it returns false'. Refute it at one input. -/
def diffNilWrong : ChangeSpec := { name := "diffNil", fn := fun _ => fun
  | [d] => { results := [.lit (.bool false)], args := [d] }
  | _ => none }
def DiffNilWrongFalsely : Prop := diffNilRow.holds Try.pinned (OpenSpec.ofChange diffNilWrong)

/-- 'pantilelaw11.NearNil': WHATEVER THE INPUT: true; the input reads as it did. -/
def nearNilSpec : ChangeSpec := { name := "nearNil", fn := fun _ => fun
  | [d1, d2] => { results := [.lit (.bool true)], args := [d1, d2] }
  | _ => none }
def nearNilRow : OpenClaim := { program := "ytdjemmopecchmaa", sum := "fd6195e0fb1c0e1e2b17b514e616c94b7c1c06d99d0bf6bc08ff4cf7102d56b3", func := "pantile/pantilelaw11.NearNil", spec := "nearNil", inPlace := ["slices.overlaps[pantile/slots.cell[*pantile/node.Node]]"], unfollowed := true, recurses := true, apart := false }
def NearNilSaid : Prop := nearNilRow.holds Try.pinned (OpenSpec.ofChange nearNilSpec)

/-- ITS FALSE NEIGHBOUR: 'it returns false'. Refute it at one input. -/
def nearNilWrong : ChangeSpec := { name := "nearNil", fn := fun _ => fun
  | [d1, d2] => { results := [.lit (.bool false)], args := [d1, d2] }
  | _ => none }
def NearNilWrongFalsely : Prop := nearNilRow.holds Try.pinned (OpenSpec.ofChange nearNilWrong)

/-- 'pantilelaw22.PastNil': WHATEVER THE INPUT: true; the input reads as it did. -/
def pastNilSpec : ChangeSpec := { name := "pastNil", fn := fun _ => fun
  | [d1, d2] => { results := [.lit (.bool true)], args := [d1, d2] }
  | _ => none }
def pastNilRow : OpenClaim := { program := "ytdjemmopecchmaa", sum := "fd6195e0fb1c0e1e2b17b514e616c94b7c1c06d99d0bf6bc08ff4cf7102d56b3", func := "pantile/pantilelaw22.PastNil", spec := "pastNil", inPlace := ["slices.overlaps[pantile/slots.cell[*pantile/node.Node]]"], unfollowed := true, recurses := true, apart := false }
def PastNilSaid : Prop := pastNilRow.holds Try.pinned (OpenSpec.ofChange pastNilSpec)

/-- ITS FALSE NEIGHBOUR: 'it returns false'. Refute it at one input. -/
def pastNilWrong : ChangeSpec := { name := "pastNil", fn := fun _ => fun
  | [d1, d2] => { results := [.lit (.bool false)], args := [d1, d2] }
  | _ => none }
def PastNilWrongFalsely : Prop := pastNilRow.holds Try.pinned (OpenSpec.ofChange pastNilWrong)

/-- 'pantilelaw12.DiffChain': WHATEVER THE INPUT: true; the input reads as it did. -/
def diffChainSpec : ChangeSpec := { name := "diffChain", fn := fun _ => fun
  | [d1, d2, d3, d4] => { results := [.lit (.bool true)], args := [d1, d2, d3, d4] }
  | _ => none }
def diffChainRow : OpenClaim := { program := "ytdjemmopecchmaa", sum := "fd6195e0fb1c0e1e2b17b514e616c94b7c1c06d99d0bf6bc08ff4cf7102d56b3", func := "pantile/pantilelaw12.DiffChain", spec := "diffChain", inPlace := ["slices.overlaps[pantile/slots.cell[*pantile/node.Node]]"], unfollowed := true, recurses := true, apart := false }
def DiffChainSaid : Prop := diffChainRow.holds Try.pinned (OpenSpec.ofChange diffChainSpec)

/-- ITS FALSE NEIGHBOUR: 'it returns false'. Refute it at one input. -/
def diffChainWrong : ChangeSpec := { name := "diffChain", fn := fun _ => fun
  | [d1, d2, d3, d4] => { results := [.lit (.bool false)], args := [d1, d2, d3, d4] }
  | _ => none }
def DiffChainWrongFalsely : Prop := diffChainRow.holds Try.pinned (OpenSpec.ofChange diffChainWrong)

/-- 'pantilelaw12.DiffChanges': WHATEVER THE INPUT: true; the input reads as it did. -/
def diffChangesSpec : ChangeSpec := { name := "diffChanges", fn := fun _ => fun
  | [d1, d2, d3] => { results := [.lit (.bool true)], args := [d1, d2, d3] }
  | _ => none }
def diffChangesRow : OpenClaim := { program := "ytdjemmopecchmaa", sum := "fd6195e0fb1c0e1e2b17b514e616c94b7c1c06d99d0bf6bc08ff4cf7102d56b3", func := "pantile/pantilelaw12.DiffChanges", spec := "diffChanges", inPlace := ["slices.overlaps[pantile/slots.cell[*pantile/node.Node]]"], unfollowed := true, recurses := true, apart := false }
def DiffChangesSaid : Prop := diffChangesRow.holds Try.pinned (OpenSpec.ofChange diffChangesSpec)

/-- ITS FALSE NEIGHBOUR: 'it returns false'. Refute it at one input. -/
def diffChangesWrong : ChangeSpec := { name := "diffChanges", fn := fun _ => fun
  | [d1, d2, d3] => { results := [.lit (.bool false)], args := [d1, d2, d3] }
  | _ => none }
def DiffChangesWrongFalsely : Prop := diffChangesRow.holds Try.pinned (OpenSpec.ofChange diffChangesWrong)

/-- 'pantilelaw15.SetsNil': WHATEVER THE INPUT: true; the input reads as it did. -/
def setsNilSpec : ChangeSpec := { name := "setsNil", fn := fun _ => fun
  | [d] => { results := [.lit (.bool true)], args := [d] }
  | _ => none }
def setsNilRow : OpenClaim := { program := "ytdjemmopecchmaa", sum := "fd6195e0fb1c0e1e2b17b514e616c94b7c1c06d99d0bf6bc08ff4cf7102d56b3", func := "pantile/pantilelaw15.SetsNil", spec := "setsNil", inPlace := ["slices.overlaps[pantile/slots.cell[*pantile/node.Node]]"], unfollowed := true, recurses := true, apart := false }
def SetsNilSaid : Prop := setsNilRow.holds Try.pinned (OpenSpec.ofChange setsNilSpec)

/-- ITS FALSE NEIGHBOUR: 'it returns false'. Refute it at one input. -/
def setsNilWrong : ChangeSpec := { name := "setsNil", fn := fun _ => fun
  | [d] => { results := [.lit (.bool false)], args := [d] }
  | _ => none }
def SetsNilWrongFalsely : Prop := setsNilRow.holds Try.pinned (OpenSpec.ofChange setsNilWrong)

/-- 'pantilelaw08.WalkRun': WHATEVER THE INPUT: true; the input reads as it did. -/
def walkRunSpec : ChangeSpec := { name := "walkRun", fn := fun _ => fun
  | [d1, d2] => { results := [.lit (.bool true)], args := [d1, d2] }
  | _ => none }
def walkRunRow : OpenClaim := { program := "ytdjemmopecchmaa", sum := "fd6195e0fb1c0e1e2b17b514e616c94b7c1c06d99d0bf6bc08ff4cf7102d56b3", func := "pantile/pantilelaw08.WalkRun", spec := "walkRun", inPlace := ["slices.overlaps[pantile/slots.cell[*pantile/node.Node]]"], unfollowed := true, recurses := true, apart := false }
def WalkRunSaid : Prop := walkRunRow.holds Try.pinned (OpenSpec.ofChange walkRunSpec)

/-- ITS FALSE NEIGHBOUR: 'it returns false'. Refute it at one input. -/
def walkRunWrong : ChangeSpec := { name := "walkRun", fn := fun _ => fun
  | [d1, d2] => { results := [.lit (.bool false)], args := [d1, d2] }
  | _ => none }
def WalkRunWrongFalsely : Prop := walkRunRow.holds Try.pinned (OpenSpec.ofChange walkRunWrong)

/-- 'pantilelaw11.NearTo': WHATEVER THE INPUT: true; the input reads as it did. -/
def nearToSpec : ChangeSpec := { name := "nearTo", fn := fun _ => fun
  | [d1, d2, d3, d4] => { results := [.lit (.bool true)], args := [d1, d2, d3, d4] }
  | _ => none }
def nearToRow : OpenClaim := { program := "ytdjemmopecchmaa", sum := "fd6195e0fb1c0e1e2b17b514e616c94b7c1c06d99d0bf6bc08ff4cf7102d56b3", func := "pantile/pantilelaw11.NearTo", spec := "nearTo", inPlace := ["slices.overlaps[pantile/slots.cell[*pantile/node.Node]]"], unfollowed := true, recurses := true, apart := false }
def NearToSaid : Prop := nearToRow.holds Try.pinned (OpenSpec.ofChange nearToSpec)

/-- ITS FALSE NEIGHBOUR: 'it returns false'. Refute it at one input. -/
def nearToWrong : ChangeSpec := { name := "nearTo", fn := fun _ => fun
  | [d1, d2, d3, d4] => { results := [.lit (.bool false)], args := [d1, d2, d3, d4] }
  | _ => none }
def NearToWrongFalsely : Prop := nearToRow.holds Try.pinned (OpenSpec.ofChange nearToWrong)

/-- 'pantilelaw10.RankJoins': WHATEVER THE INPUT: true; the input reads as it did. -/
def rankJoinsSpec : ChangeSpec := { name := "rankJoins", fn := fun _ => fun
  | [d1, d2, d3, d4] => { results := [.lit (.bool true)], args := [d1, d2, d3, d4] }
  | _ => none }
def rankJoinsRow : OpenClaim := { program := "ytdjemmopecchmaa", sum := "fd6195e0fb1c0e1e2b17b514e616c94b7c1c06d99d0bf6bc08ff4cf7102d56b3", func := "pantile/pantilelaw10.RankJoins", spec := "rankJoins", inPlace := ["slices.overlaps[pantile/slots.cell[*pantile/node.Node]]"], unfollowed := true, recurses := true, apart := false }
def RankJoinsSaid : Prop := rankJoinsRow.holds Try.pinned (OpenSpec.ofChange rankJoinsSpec)

/-- ITS FALSE NEIGHBOUR: 'it returns false'. Refute it at one input. -/
def rankJoinsWrong : ChangeSpec := { name := "rankJoins", fn := fun _ => fun
  | [d1, d2, d3, d4] => { results := [.lit (.bool false)], args := [d1, d2, d3, d4] }
  | _ => none }
def RankJoinsWrongFalsely : Prop := rankJoinsRow.holds Try.pinned (OpenSpec.ofChange rankJoinsWrong)

/-- 'pantilelaw12.DiffApart': WHATEVER THE INPUT: true; the input reads as it did. -/
def diffApartSpec : ChangeSpec := { name := "diffApart", fn := fun _ => fun
  | [d1, d2, d3, d4] => { results := [.lit (.bool true)], args := [d1, d2, d3, d4] }
  | _ => none }
def diffApartRow : OpenClaim := { program := "ytdjemmopecchmaa", sum := "fd6195e0fb1c0e1e2b17b514e616c94b7c1c06d99d0bf6bc08ff4cf7102d56b3", func := "pantile/pantilelaw12.DiffApart", spec := "diffApart", inPlace := ["slices.overlaps[pantile/slots.cell[*pantile/node.Node]]"], unfollowed := true, recurses := true, apart := false }
def DiffApartSaid : Prop := diffApartRow.holds Try.pinned (OpenSpec.ofChange diffApartSpec)

/-- ITS FALSE NEIGHBOUR: 'it returns false'. Refute it at one input. -/
def diffApartWrong : ChangeSpec := { name := "diffApart", fn := fun _ => fun
  | [d1, d2, d3, d4] => { results := [.lit (.bool false)], args := [d1, d2, d3, d4] }
  | _ => none }
def DiffApartWrongFalsely : Prop := diffApartRow.holds Try.pinned (OpenSpec.ofChange diffApartWrong)

/- THE SECOND FORM. 'bulk': how many values and letters a reading holds, each counted each time it is reached (what is shared counts as often as it is met; a slice's spare places count too). A statement '..UptoSaid' is the law's where the arguments, and the package variables that the reading takes, are together of bulk at most 1048576: NARROWER than '..Said'. Prove '..Said' where nothing that the law and all that it calls make is longer than what came in: it says more and counts as full. Else prove '..UptoSaid'. A law counts once. -/
mutual
def uptoBulk {H : Type} : DataW H → Nat
  | .lit (.string bytes) => bytes.length + 1
  | .lit _ => 1
  | .nil => 1
  | .ptr d => uptoBulk d + 1
  | .slice elems spare => uptoBulkAll elems + uptoBulkAll spare + 1
  | .agg parts => uptoBulkAll parts + 1
  | .iface _ d => uptoBulk d + 1
  | .map entries => uptoBulkEntries entries + 1
  | .held _ => 1
def uptoBulkAll {H : Type} : List (DataW H) → Nat
  | [] => 0
  | d :: r => uptoBulk d + uptoBulkAll r
def uptoBulkEntries {H : Type} : List (Lit × DataW H) → Nat
  | [] => 0
  | x :: r => uptoBulkEntry x + uptoBulkEntries r
def uptoBulkEntry {H : Type} : Lit × DataW H → Nat
  | (.string bytes, d) => bytes.length + uptoBulk d + 1
  | (_, d) => uptoBulk d + 1
 end
def uptoSmall : (H : Type) → List (DataW H) → Bool := fun _ ds => decide (uptoBulkAll ds ≤ 1048576)
def OpenSpec.upto (s : _root_.Go.ChangeSpec) : _root_.Go.OpenSpec := { _root_.Go.OpenSpec.ofChange s with cond := some uptoSmall }

/-- 'pantilelaw22.PastKeeps', WHERE WHAT IT READS IS OF BULK AT MOST 1048576: true; the input reads as it did. -/
def pastKeepsUptoRow : OpenClaim := { program := "ytdjemmopecchmaa", sum := "fd6195e0fb1c0e1e2b17b514e616c94b7c1c06d99d0bf6bc08ff4cf7102d56b3", func := "pantile/pantilelaw22.PastKeeps", spec := "pastKeeps", inPlace := ["slices.overlaps[pantile/slots.cell[*pantile/node.Node]]"], unfollowed := true, recurses := true, apart := false, narrowed := true }
def PastKeepsUptoSaid : Prop := pastKeepsUptoRow.holds Try.pinned (OpenSpec.upto pastKeepsSpec)

/-- 'pantilelaw17.ShareNil', WHERE WHAT IT READS IS OF BULK AT MOST 1048576: true; the input reads as it did. -/
def shareNilUptoRow : OpenClaim := { program := "ytdjemmopecchmaa", sum := "fd6195e0fb1c0e1e2b17b514e616c94b7c1c06d99d0bf6bc08ff4cf7102d56b3", func := "pantile/pantilelaw17.ShareNil", spec := "shareNil", inPlace := ["slices.overlaps[pantile/slots.cell[*pantile/node.Node]]"], unfollowed := true, recurses := true, apart := false, narrowed := true }
def ShareNilUptoSaid : Prop := shareNilUptoRow.holds Try.pinned (OpenSpec.upto shareNilSpec)

/-- 'pantilelaw17.ShareFew', WHERE WHAT IT READS IS OF BULK AT MOST 1048576: true; the input reads as it did. -/
def shareFewUptoRow : OpenClaim := { program := "ytdjemmopecchmaa", sum := "fd6195e0fb1c0e1e2b17b514e616c94b7c1c06d99d0bf6bc08ff4cf7102d56b3", func := "pantile/pantilelaw17.ShareFew", spec := "shareFew", inPlace := ["slices.overlaps[pantile/slots.cell[*pantile/node.Node]]"], unfollowed := true, recurses := true, apart := false, narrowed := true }
def ShareFewUptoSaid : Prop := shareFewUptoRow.holds Try.pinned (OpenSpec.upto shareFewSpec)

/-- 'pantilelaw17.ShareCounts', WHERE WHAT IT READS IS OF BULK AT MOST 1048576: true; the input reads as it did. -/
def shareCountsUptoRow : OpenClaim := { program := "ytdjemmopecchmaa", sum := "fd6195e0fb1c0e1e2b17b514e616c94b7c1c06d99d0bf6bc08ff4cf7102d56b3", func := "pantile/pantilelaw17.ShareCounts", spec := "shareCounts", inPlace := ["slices.overlaps[pantile/slots.cell[*pantile/node.Node]]"], unfollowed := true, recurses := true, apart := false, narrowed := true }
def ShareCountsUptoSaid : Prop := shareCountsUptoRow.holds Try.pinned (OpenSpec.upto shareCountsSpec)

/-- 'pantilelaw36.WatchNil', WHERE WHAT IT READS IS OF BULK AT MOST 1048576: true; the input reads as it did. -/
def watchNilUptoRow : OpenClaim := { program := "ytdjemmopecchmaa", sum := "fd6195e0fb1c0e1e2b17b514e616c94b7c1c06d99d0bf6bc08ff4cf7102d56b3", func := "pantile/pantilelaw36.WatchNil", spec := "watchNil", unfollowed := true, recurses := true, apart := false, narrowed := true }
def WatchNilUptoSaid : Prop := watchNilUptoRow.holds Try.pinned (OpenSpec.upto watchNilSpec)

/-- 'pantilelaw12.DiffNil', WHERE WHAT IT READS IS OF BULK AT MOST 1048576: true; the input reads as it did. -/
def diffNilUptoRow : OpenClaim := { program := "ytdjemmopecchmaa", sum := "fd6195e0fb1c0e1e2b17b514e616c94b7c1c06d99d0bf6bc08ff4cf7102d56b3", func := "pantile/pantilelaw12.DiffNil", spec := "diffNil", inPlace := ["slices.overlaps[pantile/slots.cell[*pantile/node.Node]]"], unfollowed := true, recurses := true, apart := false, narrowed := true }
def DiffNilUptoSaid : Prop := diffNilUptoRow.holds Try.pinned (OpenSpec.upto diffNilSpec)

/-- 'pantilelaw11.NearNil', WHERE WHAT IT READS IS OF BULK AT MOST 1048576: true; the input reads as it did. -/
def nearNilUptoRow : OpenClaim := { program := "ytdjemmopecchmaa", sum := "fd6195e0fb1c0e1e2b17b514e616c94b7c1c06d99d0bf6bc08ff4cf7102d56b3", func := "pantile/pantilelaw11.NearNil", spec := "nearNil", inPlace := ["slices.overlaps[pantile/slots.cell[*pantile/node.Node]]"], unfollowed := true, recurses := true, apart := false, narrowed := true }
def NearNilUptoSaid : Prop := nearNilUptoRow.holds Try.pinned (OpenSpec.upto nearNilSpec)

/-- 'pantilelaw22.PastNil', WHERE WHAT IT READS IS OF BULK AT MOST 1048576: true; the input reads as it did. -/
def pastNilUptoRow : OpenClaim := { program := "ytdjemmopecchmaa", sum := "fd6195e0fb1c0e1e2b17b514e616c94b7c1c06d99d0bf6bc08ff4cf7102d56b3", func := "pantile/pantilelaw22.PastNil", spec := "pastNil", inPlace := ["slices.overlaps[pantile/slots.cell[*pantile/node.Node]]"], unfollowed := true, recurses := true, apart := false, narrowed := true }
def PastNilUptoSaid : Prop := pastNilUptoRow.holds Try.pinned (OpenSpec.upto pastNilSpec)

/-- 'pantilelaw12.DiffChain', WHERE WHAT IT READS IS OF BULK AT MOST 1048576: true; the input reads as it did. -/
def diffChainUptoRow : OpenClaim := { program := "ytdjemmopecchmaa", sum := "fd6195e0fb1c0e1e2b17b514e616c94b7c1c06d99d0bf6bc08ff4cf7102d56b3", func := "pantile/pantilelaw12.DiffChain", spec := "diffChain", inPlace := ["slices.overlaps[pantile/slots.cell[*pantile/node.Node]]"], unfollowed := true, recurses := true, apart := false, narrowed := true }
def DiffChainUptoSaid : Prop := diffChainUptoRow.holds Try.pinned (OpenSpec.upto diffChainSpec)

/-- 'pantilelaw12.DiffChanges', WHERE WHAT IT READS IS OF BULK AT MOST 1048576: true; the input reads as it did. -/
def diffChangesUptoRow : OpenClaim := { program := "ytdjemmopecchmaa", sum := "fd6195e0fb1c0e1e2b17b514e616c94b7c1c06d99d0bf6bc08ff4cf7102d56b3", func := "pantile/pantilelaw12.DiffChanges", spec := "diffChanges", inPlace := ["slices.overlaps[pantile/slots.cell[*pantile/node.Node]]"], unfollowed := true, recurses := true, apart := false, narrowed := true }
def DiffChangesUptoSaid : Prop := diffChangesUptoRow.holds Try.pinned (OpenSpec.upto diffChangesSpec)

/-- 'pantilelaw15.SetsNil', WHERE WHAT IT READS IS OF BULK AT MOST 1048576: true; the input reads as it did. -/
def setsNilUptoRow : OpenClaim := { program := "ytdjemmopecchmaa", sum := "fd6195e0fb1c0e1e2b17b514e616c94b7c1c06d99d0bf6bc08ff4cf7102d56b3", func := "pantile/pantilelaw15.SetsNil", spec := "setsNil", inPlace := ["slices.overlaps[pantile/slots.cell[*pantile/node.Node]]"], unfollowed := true, recurses := true, apart := false, narrowed := true }
def SetsNilUptoSaid : Prop := setsNilUptoRow.holds Try.pinned (OpenSpec.upto setsNilSpec)

/-- 'pantilelaw08.WalkRun', WHERE WHAT IT READS IS OF BULK AT MOST 1048576: true; the input reads as it did. -/
def walkRunUptoRow : OpenClaim := { program := "ytdjemmopecchmaa", sum := "fd6195e0fb1c0e1e2b17b514e616c94b7c1c06d99d0bf6bc08ff4cf7102d56b3", func := "pantile/pantilelaw08.WalkRun", spec := "walkRun", inPlace := ["slices.overlaps[pantile/slots.cell[*pantile/node.Node]]"], unfollowed := true, recurses := true, apart := false, narrowed := true }
def WalkRunUptoSaid : Prop := walkRunUptoRow.holds Try.pinned (OpenSpec.upto walkRunSpec)

/-- 'pantilelaw11.NearTo', WHERE WHAT IT READS IS OF BULK AT MOST 1048576: true; the input reads as it did. -/
def nearToUptoRow : OpenClaim := { program := "ytdjemmopecchmaa", sum := "fd6195e0fb1c0e1e2b17b514e616c94b7c1c06d99d0bf6bc08ff4cf7102d56b3", func := "pantile/pantilelaw11.NearTo", spec := "nearTo", inPlace := ["slices.overlaps[pantile/slots.cell[*pantile/node.Node]]"], unfollowed := true, recurses := true, apart := false, narrowed := true }
def NearToUptoSaid : Prop := nearToUptoRow.holds Try.pinned (OpenSpec.upto nearToSpec)

/-- 'pantilelaw10.RankJoins', WHERE WHAT IT READS IS OF BULK AT MOST 1048576: true; the input reads as it did. -/
def rankJoinsUptoRow : OpenClaim := { program := "ytdjemmopecchmaa", sum := "fd6195e0fb1c0e1e2b17b514e616c94b7c1c06d99d0bf6bc08ff4cf7102d56b3", func := "pantile/pantilelaw10.RankJoins", spec := "rankJoins", inPlace := ["slices.overlaps[pantile/slots.cell[*pantile/node.Node]]"], unfollowed := true, recurses := true, apart := false, narrowed := true }
def RankJoinsUptoSaid : Prop := rankJoinsUptoRow.holds Try.pinned (OpenSpec.upto rankJoinsSpec)

/-- 'pantilelaw12.DiffApart', WHERE WHAT IT READS IS OF BULK AT MOST 1048576: true; the input reads as it did. -/
def diffApartUptoRow : OpenClaim := { program := "ytdjemmopecchmaa", sum := "fd6195e0fb1c0e1e2b17b514e616c94b7c1c06d99d0bf6bc08ff4cf7102d56b3", func := "pantile/pantilelaw12.DiffApart", spec := "diffApart", inPlace := ["slices.overlaps[pantile/slots.cell[*pantile/node.Node]]"], unfollowed := true, recurses := true, apart := false, narrowed := true }
def DiffApartUptoSaid : Prop := diffApartUptoRow.holds Try.pinned (OpenSpec.upto diffApartSpec)

end Rows
end Go.Proofs.Ytdjemmopecchmaa
