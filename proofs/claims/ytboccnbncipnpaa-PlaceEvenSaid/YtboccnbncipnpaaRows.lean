/-
  No cell of these rows narrows 'for every input' (looked for: loops, veiled, ifaces, maps, wideKeys, modest, calm, conditions, laid).
  DERIVED. THE GIVEN ROWS OF THIS SEAT. 3 by the template 'for every input the law returns true; each argument reads behind the call as it read before'; 0 by the template 'total and deterministic' (their statements: YtboccnbncipnpaaTotals.lean).
  GIVEN WITH THE SEED: the statements are not yours to turn. If you find one false, say at which input.
  Laid BY PROGRAM, IN A SANDBOX (cutbox-rows.mjs): the forced cells as the released guide's own fill.sh prints them over the translation 969722b49316cfb5… (all of the seat's roots in one cut). By AI agents, Wed Nov 11 2026. No macro, syntax, notation, axiom, sorry.
-/
import Derived.Test.YtboccnbncipnpaaChecked
import GoSem.Claim
import GoSem.ClaimJoined
import GoSem.ClaimMapViews
import Derived.JoinedTies
import Derived.KernelRfl
namespace Go.Proofs.Ytboccnbncipnpaa
/- THE CELL 'sum', in the pinned program and in every row, IS THE sha256 OF THE DUMP (.gsa) THAT YtboccnbncipnpaaProg.lean LOADS. Nothing in Lean hashes anything: it is a label: what it is worth is what the hold of that sum in a sandbox is worth. -/
noncomputable def Try.pinned : Pinned := { name := "ytboccnbncipnpaa", sum := "969722b49316cfb54e3406613ad5fdf447944e1f4dc60931d19e9bf08dc5bb25", checked := Try.checked }
namespace Rows
def none {H : Type} : Left H := { results := [], args := [] }

/-- 'stooklaw17.PlaceUnlike': WHATEVER THE INPUT: true; the input reads as it did. -/
def placeUnlikeSpec : ChangeSpec := { name := "placeUnlike", fn := fun _ => fun
  | [d1, d2, d3, d4] => { results := [.lit (.bool true)], args := [d1, d2, d3, d4] }
  | _ => none }
def placeUnlikeRow : OpenClaim := { program := "ytboccnbncipnpaa", sum := "969722b49316cfb54e3406613ad5fdf447944e1f4dc60931d19e9bf08dc5bb25", func := "stook/stooklaw17.PlaceUnlike", spec := "placeUnlike", unfollowed := true, recurses := true, apart := false }
def PlaceUnlikeSaid : Prop := placeUnlikeRow.holds Try.pinned (OpenSpec.ofChange placeUnlikeSpec)

/-- ITS FALSE NEIGHBOUR: 'it returns false'. Refute it at one input. -/
def placeUnlikeWrong : ChangeSpec := { name := "placeUnlike", fn := fun _ => fun
  | [d1, d2, d3, d4] => { results := [.lit (.bool false)], args := [d1, d2, d3, d4] }
  | _ => none }
def PlaceUnlikeWrongFalsely : Prop := placeUnlikeRow.holds Try.pinned (OpenSpec.ofChange placeUnlikeWrong)

/-- 'stooklaw17.PlaceTurns': WHATEVER THE INPUT: true; the input reads as it did. -/
def placeTurnsSpec : ChangeSpec := { name := "placeTurns", fn := fun _ => fun
  | [d1, d2, d3] => { results := [.lit (.bool true)], args := [d1, d2, d3] }
  | _ => none }
def placeTurnsRow : OpenClaim := { program := "ytboccnbncipnpaa", sum := "969722b49316cfb54e3406613ad5fdf447944e1f4dc60931d19e9bf08dc5bb25", func := "stook/stooklaw17.PlaceTurns", spec := "placeTurns", unfollowed := true, recurses := true, apart := false }
def PlaceTurnsSaid : Prop := placeTurnsRow.holds Try.pinned (OpenSpec.ofChange placeTurnsSpec)

/-- ITS FALSE NEIGHBOUR: 'it returns false'. Refute it at one input. -/
def placeTurnsWrong : ChangeSpec := { name := "placeTurns", fn := fun _ => fun
  | [d1, d2, d3] => { results := [.lit (.bool false)], args := [d1, d2, d3] }
  | _ => none }
def PlaceTurnsWrongFalsely : Prop := placeTurnsRow.holds Try.pinned (OpenSpec.ofChange placeTurnsWrong)

/-- 'stooklaw17.PlaceEven': WHATEVER THE INPUT: true; the input reads as it did. -/
def placeEvenSpec : ChangeSpec := { name := "placeEven", fn := fun _ => fun
  | [d1, d2, d3, d4] => { results := [.lit (.bool true)], args := [d1, d2, d3, d4] }
  | _ => none }
def placeEvenRow : OpenClaim := { program := "ytboccnbncipnpaa", sum := "969722b49316cfb54e3406613ad5fdf447944e1f4dc60931d19e9bf08dc5bb25", func := "stook/stooklaw17.PlaceEven", spec := "placeEven", unfollowed := true, recurses := true, apart := false }
def PlaceEvenSaid : Prop := placeEvenRow.holds Try.pinned (OpenSpec.ofChange placeEvenSpec)

/-- ITS FALSE NEIGHBOUR: 'it returns false'. Refute it at one input. -/
def placeEvenWrong : ChangeSpec := { name := "placeEven", fn := fun _ => fun
  | [d1, d2, d3, d4] => { results := [.lit (.bool false)], args := [d1, d2, d3, d4] }
  | _ => none }
def PlaceEvenWrongFalsely : Prop := placeEvenRow.holds Try.pinned (OpenSpec.ofChange placeEvenWrong)

/- THE SECOND FORM. 'bulk': how many values and letters a reading holds, each counted each time it is reached (what is shared counts as often as it is met; a slice's spare places count too). A statement '..UptoSaid' is the law's where the arguments, and the package variables that the reading takes, are together of bulk at most 1048576: NARROWER than '..Said'. Prove '..Said' where nothing that the law and all that it calls make is longer than what came in: it says more and counts as full. Else prove '..UptoSaid'. A law counts once. -/
mutual
def uptoBulk {H : Type} : DataW H → Nat
  | .lit (.string bytes) => bytes.length + 1
  | .lit _ => 1
  | .nil => 1
  | .ptr d => uptoBulk d + 1
  | .slice elems spare => uptoBulkAll elems + uptoBulkAll spare + 1
  | .agg parts => uptoBulkAll parts + 1
  | .iface _ d => uptoBulk d + 1
  | .map entries => uptoBulkEntries entries + 1
  | .held _ => 1
def uptoBulkAll {H : Type} : List (DataW H) → Nat
  | [] => 0
  | d :: r => uptoBulk d + uptoBulkAll r
def uptoBulkEntries {H : Type} : List (Lit × DataW H) → Nat
  | [] => 0
  | x :: r => uptoBulkEntry x + uptoBulkEntries r
def uptoBulkEntry {H : Type} : Lit × DataW H → Nat
  | (.string bytes, d) => bytes.length + uptoBulk d + 1
  | (_, d) => uptoBulk d + 1
 end
def uptoSmall : (H : Type) → List (DataW H) → Bool := fun _ ds => decide (uptoBulkAll ds ≤ 1048576)
def OpenSpec.upto (s : _root_.Go.ChangeSpec) : _root_.Go.OpenSpec := { _root_.Go.OpenSpec.ofChange s with cond := some uptoSmall }

/-- 'stooklaw17.PlaceUnlike', WHERE WHAT IT READS IS OF BULK AT MOST 1048576: true; the input reads as it did. -/
def placeUnlikeUptoRow : OpenClaim := { program := "ytboccnbncipnpaa", sum := "969722b49316cfb54e3406613ad5fdf447944e1f4dc60931d19e9bf08dc5bb25", func := "stook/stooklaw17.PlaceUnlike", spec := "placeUnlike", unfollowed := true, recurses := true, apart := false, narrowed := true }
def PlaceUnlikeUptoSaid : Prop := placeUnlikeUptoRow.holds Try.pinned (OpenSpec.upto placeUnlikeSpec)

/-- 'stooklaw17.PlaceTurns', WHERE WHAT IT READS IS OF BULK AT MOST 1048576: true; the input reads as it did. -/
def placeTurnsUptoRow : OpenClaim := { program := "ytboccnbncipnpaa", sum := "969722b49316cfb54e3406613ad5fdf447944e1f4dc60931d19e9bf08dc5bb25", func := "stook/stooklaw17.PlaceTurns", spec := "placeTurns", unfollowed := true, recurses := true, apart := false, narrowed := true }
def PlaceTurnsUptoSaid : Prop := placeTurnsUptoRow.holds Try.pinned (OpenSpec.upto placeTurnsSpec)

/-- 'stooklaw17.PlaceEven', WHERE WHAT IT READS IS OF BULK AT MOST 1048576: true; the input reads as it did. -/
def placeEvenUptoRow : OpenClaim := { program := "ytboccnbncipnpaa", sum := "969722b49316cfb54e3406613ad5fdf447944e1f4dc60931d19e9bf08dc5bb25", func := "stook/stooklaw17.PlaceEven", spec := "placeEven", unfollowed := true, recurses := true, apart := false, narrowed := true }
def PlaceEvenUptoSaid : Prop := placeEvenUptoRow.holds Try.pinned (OpenSpec.upto placeEvenSpec)

end Rows
end Go.Proofs.Ytboccnbncipnpaa
