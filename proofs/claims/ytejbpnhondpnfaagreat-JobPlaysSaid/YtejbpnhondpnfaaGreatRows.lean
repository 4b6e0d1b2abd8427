/-
  No cell of these rows narrows 'for every input' (looked for: loops, veiled, ifaces, maps, wideKeys, modest, calm, conditions, laid).
  DERIVED. THE GIVEN ROWS OF THIS SEAT. 5 by the template 'for every input the law returns true; each argument reads behind the call as it read before'; 0 by the template 'total and deterministic' (their statements: YtejbpnhondpnfaaGreatTotals.lean).
  GIVEN WITH THE SEED: the statements are not yours to turn. If you find one false, say at which input.
  Laid BY PROGRAM, IN A SANDBOX (cutbox-rows.mjs): the forced cells as the released guide's own fill.sh prints them over the translation db118ea73a60224e… (all of the seat's roots in one cut). By AI agents, Wed Nov 11 2026. No macro, syntax, notation, axiom, sorry.
-/
import Derived.Test.YtejbpnhondpnfaaGreatChecked
import GoSem.Claim
import GoSem.ClaimJoined
import GoSem.ClaimMapViews
import Derived.JoinedTies
import Derived.KernelRfl
namespace Go.Proofs.YtejbpnhondpnfaaGreat
/- THE CELL 'sum', in the pinned program and in every row, IS THE sha256 OF THE DUMP (.gsa) THAT YtejbpnhondpnfaaGreatProg.lean LOADS. Nothing in Lean hashes anything: it is a label: what it is worth is what the hold of that sum in a sandbox is worth. -/
noncomputable def Tryz.pinned : Pinned := { name := "ytejbpnhondpnfaagreat", sum := "db118ea73a60224eefcba8c6fa07c61b7c70e595ca01a4980ac12203960f17ef", checked := Tryz.checked }
namespace Rows
def none {H : Type} : Left H := { results := [], args := [] }

/-- 'stooklaw10.JobPlays': WHATEVER THE INPUT: true; the input reads as it did. -/
def jobPlaysSpec : ChangeSpec := { name := "jobPlays", fn := fun _ => fun
  | [d] => { results := [.lit (.bool true)], args := [d] }
  | _ => none }
def jobPlaysRow : OpenClaim := { program := "ytejbpnhondpnfaagreat", sum := "db118ea73a60224eefcba8c6fa07c61b7c70e595ca01a4980ac12203960f17ef", func := "stook/stooklaw10.JobPlays", spec := "jobPlays", inPlace := ["internal/bytealg.abigen_runtime_cmpstring", "internal/abi.NoEscape", "internal/bytealg.MakeNoZero"], unfollowed := true, recurses := true, apart := false }
def JobPlaysSaid : Prop := jobPlaysRow.holds Tryz.pinned (OpenSpec.ofChange jobPlaysSpec)

/-- ITS FALSE NEIGHBOUR: 'it returns false'. Refute it at one input. -/
def jobPlaysWrong : ChangeSpec := { name := "jobPlays", fn := fun _ => fun
  | [d] => { results := [.lit (.bool false)], args := [d] }
  | _ => none }
def JobPlaysWrongFalsely : Prop := jobPlaysRow.holds Tryz.pinned (OpenSpec.ofChange jobPlaysWrong)

/-- 'stooklaw10.JobBack': WHATEVER THE INPUT: true; the input reads as it did. -/
def jobBackSpec : ChangeSpec := { name := "jobBack", fn := fun _ => fun
  | [d] => { results := [.lit (.bool true)], args := [d] }
  | _ => none }
def jobBackRow : OpenClaim := { program := "ytejbpnhondpnfaagreat", sum := "db118ea73a60224eefcba8c6fa07c61b7c70e595ca01a4980ac12203960f17ef", func := "stook/stooklaw10.JobBack", spec := "jobBack", inPlace := ["internal/bytealg.abigen_runtime_cmpstring", "internal/abi.NoEscape", "internal/bytealg.MakeNoZero", "internal/bytealg.IndexByteString", "internal/bytealg.IndexString"], unfollowed := true, recurses := true, named := ["internal/bytealg.MaxLen"], apart := false }
def JobBackSaid : Prop := jobBackRow.holds Tryz.pinned (OpenSpec.ofChange jobBackSpec)

/-- ITS FALSE NEIGHBOUR: 'it returns false'. Refute it at one input. -/
def jobBackWrong : ChangeSpec := { name := "jobBack", fn := fun _ => fun
  | [d] => { results := [.lit (.bool false)], args := [d] }
  | _ => none }
def JobBackWrongFalsely : Prop := jobBackRow.holds Tryz.pinned (OpenSpec.ofChange jobBackWrong)

/-- 'stooklaw10.JobOnly': WHATEVER THE INPUT: true; the input reads as it did. -/
def jobOnlySpec : ChangeSpec := { name := "jobOnly", fn := fun _ => fun
  | [d] => { results := [.lit (.bool true)], args := [d] }
  | _ => none }
def jobOnlyRow : OpenClaim := { program := "ytejbpnhondpnfaagreat", sum := "db118ea73a60224eefcba8c6fa07c61b7c70e595ca01a4980ac12203960f17ef", func := "stook/stooklaw10.JobOnly", spec := "jobOnly", inPlace := ["internal/bytealg.abigen_runtime_cmpstring", "internal/bytealg.IndexByteString", "internal/bytealg.IndexString", "internal/abi.NoEscape", "internal/bytealg.MakeNoZero"], unfollowed := true, recurses := true, named := ["internal/bytealg.MaxLen"], apart := false }
def JobOnlySaid : Prop := jobOnlyRow.holds Tryz.pinned (OpenSpec.ofChange jobOnlySpec)

/-- ITS FALSE NEIGHBOUR: 'it returns false'. Refute it at one input. -/
def jobOnlyWrong : ChangeSpec := { name := "jobOnly", fn := fun _ => fun
  | [d] => { results := [.lit (.bool false)], args := [d] }
  | _ => none }
def JobOnlyWrongFalsely : Prop := jobOnlyRow.holds Tryz.pinned (OpenSpec.ofChange jobOnlyWrong)

/-- 'stooklaw10.JobParts': WHATEVER THE INPUT: true; the input reads as it did. -/
def jobPartsSpec : ChangeSpec := { name := "jobParts", fn := fun _ => fun
  | [d1, d2, d3, d4, d5] => { results := [.lit (.bool true)], args := [d1, d2, d3, d4, d5] }
  | _ => none }
def jobPartsRow : OpenClaim := { program := "ytejbpnhondpnfaagreat", sum := "db118ea73a60224eefcba8c6fa07c61b7c70e595ca01a4980ac12203960f17ef", func := "stook/stooklaw10.JobParts", spec := "jobParts", inPlace := ["internal/bytealg.abigen_runtime_cmpstring", "internal/bytealg.IndexByteString", "internal/abi.NoEscape"], unfollowed := true, recurses := true, apart := false }
def JobPartsSaid : Prop := jobPartsRow.holds Tryz.pinned (OpenSpec.ofChange jobPartsSpec)

/-- ITS FALSE NEIGHBOUR: 'it returns false'. Refute it at one input. -/
def jobPartsWrong : ChangeSpec := { name := "jobParts", fn := fun _ => fun
  | [d1, d2, d3, d4, d5] => { results := [.lit (.bool false)], args := [d1, d2, d3, d4, d5] }
  | _ => none }
def JobPartsWrongFalsely : Prop := jobPartsRow.holds Tryz.pinned (OpenSpec.ofChange jobPartsWrong)

/-- 'stooklaw10.JobPartsIn': WHATEVER THE INPUT: true; the input reads as it did. -/
def jobPartsInSpec : ChangeSpec := { name := "jobPartsIn", fn := fun _ => fun
  | [d1, d2] => { results := [.lit (.bool true)], args := [d1, d2] }
  | _ => none }
def jobPartsInRow : OpenClaim := { program := "ytejbpnhondpnfaagreat", sum := "db118ea73a60224eefcba8c6fa07c61b7c70e595ca01a4980ac12203960f17ef", func := "stook/stooklaw10.JobPartsIn", spec := "jobPartsIn", inPlace := ["internal/bytealg.abigen_runtime_cmpstring", "internal/bytealg.IndexByteString", "internal/abi.NoEscape"], unfollowed := true, recurses := true, apart := false }
def JobPartsInSaid : Prop := jobPartsInRow.holds Tryz.pinned (OpenSpec.ofChange jobPartsInSpec)

/-- ITS FALSE NEIGHBOUR: 'it returns false'. Refute it at one input. -/
def jobPartsInWrong : ChangeSpec := { name := "jobPartsIn", fn := fun _ => fun
  | [d1, d2] => { results := [.lit (.bool false)], args := [d1, d2] }
  | _ => none }
def JobPartsInWrongFalsely : Prop := jobPartsInRow.holds Tryz.pinned (OpenSpec.ofChange jobPartsInWrong)

/- THE SECOND FORM. 'bulk': how many values and letters a reading holds, each counted each time it is reached (what is shared counts as often as it is met; a slice's spare places count too). A statement '..UptoSaid' is the law's where the arguments, and the package variables that the reading takes, are together of bulk at most 1048576: NARROWER than '..Said'. Prove '..Said' where nothing that the law and all that it calls make is longer than what came in: it says more and counts as full. Else prove '..UptoSaid'. A law counts once. -/
mutual
def uptoBulk {H : Type} : DataW H → Nat
  | .lit (.string bytes) => bytes.length + 1
  | .lit _ => 1
  | .nil => 1
  | .ptr d => uptoBulk d + 1
  | .slice elems spare => uptoBulkAll elems + uptoBulkAll spare + 1
  | .agg parts => uptoBulkAll parts + 1
  | .iface _ d => uptoBulk d + 1
  | .map entries => uptoBulkEntries entries + 1
  | .held _ => 1
def uptoBulkAll {H : Type} : List (DataW H) → Nat
  | [] => 0
  | d :: r => uptoBulk d + uptoBulkAll r
def uptoBulkEntries {H : Type} : List (Lit × DataW H) → Nat
  | [] => 0
  | x :: r => uptoBulkEntry x + uptoBulkEntries r
def uptoBulkEntry {H : Type} : Lit × DataW H → Nat
  | (.string bytes, d) => bytes.length + uptoBulk d + 1
  | (_, d) => uptoBulk d + 1
 end
def uptoSmall : (H : Type) → List (DataW H) → Bool := fun _ ds => decide (uptoBulkAll ds ≤ 1048576)
def OpenSpec.upto (s : _root_.Go.ChangeSpec) : _root_.Go.OpenSpec := { _root_.Go.OpenSpec.ofChange s with cond := some uptoSmall }

/-- 'stooklaw10.JobPlays', WHERE WHAT IT READS IS OF BULK AT MOST 1048576: true; the input reads as it did. -/
def jobPlaysUptoRow : OpenClaim := { program := "ytejbpnhondpnfaagreat", sum := "db118ea73a60224eefcba8c6fa07c61b7c70e595ca01a4980ac12203960f17ef", func := "stook/stooklaw10.JobPlays", spec := "jobPlays", inPlace := ["internal/bytealg.abigen_runtime_cmpstring", "internal/abi.NoEscape", "internal/bytealg.MakeNoZero"], unfollowed := true, recurses := true, apart := false, narrowed := true }
def JobPlaysUptoSaid : Prop := jobPlaysUptoRow.holds Tryz.pinned (OpenSpec.upto jobPlaysSpec)

/-- 'stooklaw10.JobBack', WHERE WHAT IT READS IS OF BULK AT MOST 1048576: true; the input reads as it did. -/
def jobBackUptoRow : OpenClaim := { program := "ytejbpnhondpnfaagreat", sum := "db118ea73a60224eefcba8c6fa07c61b7c70e595ca01a4980ac12203960f17ef", func := "stook/stooklaw10.JobBack", spec := "jobBack", inPlace := ["internal/bytealg.abigen_runtime_cmpstring", "internal/abi.NoEscape", "internal/bytealg.MakeNoZero", "internal/bytealg.IndexByteString", "internal/bytealg.IndexString"], unfollowed := true, recurses := true, named := ["internal/bytealg.MaxLen"], apart := false, narrowed := true }
def JobBackUptoSaid : Prop := jobBackUptoRow.holds Tryz.pinned (OpenSpec.upto jobBackSpec)

/-- 'stooklaw10.JobOnly', WHERE WHAT IT READS IS OF BULK AT MOST 1048576: true; the input reads as it did. -/
def jobOnlyUptoRow : OpenClaim := { program := "ytejbpnhondpnfaagreat", sum := "db118ea73a60224eefcba8c6fa07c61b7c70e595ca01a4980ac12203960f17ef", func := "stook/stooklaw10.JobOnly", spec := "jobOnly", inPlace := ["internal/bytealg.abigen_runtime_cmpstring", "internal/bytealg.IndexByteString", "internal/bytealg.IndexString", "internal/abi.NoEscape", "internal/bytealg.MakeNoZero"], unfollowed := true, recurses := true, named := ["internal/bytealg.MaxLen"], apart := false, narrowed := true }
def JobOnlyUptoSaid : Prop := jobOnlyUptoRow.holds Tryz.pinned (OpenSpec.upto jobOnlySpec)

/-- 'stooklaw10.JobParts', WHERE WHAT IT READS IS OF BULK AT MOST 1048576: true; the input reads as it did. -/
def jobPartsUptoRow : OpenClaim := { program := "ytejbpnhondpnfaagreat", sum := "db118ea73a60224eefcba8c6fa07c61b7c70e595ca01a4980ac12203960f17ef", func := "stook/stooklaw10.JobParts", spec := "jobParts", inPlace := ["internal/bytealg.abigen_runtime_cmpstring", "internal/bytealg.IndexByteString", "internal/abi.NoEscape"], unfollowed := true, recurses := true, apart := false, narrowed := true }
def JobPartsUptoSaid : Prop := jobPartsUptoRow.holds Tryz.pinned (OpenSpec.upto jobPartsSpec)

/-- 'stooklaw10.JobPartsIn', WHERE WHAT IT READS IS OF BULK AT MOST 1048576: true; the input reads as it did. -/
def jobPartsInUptoRow : OpenClaim := { program := "ytejbpnhondpnfaagreat", sum := "db118ea73a60224eefcba8c6fa07c61b7c70e595ca01a4980ac12203960f17ef", func := "stook/stooklaw10.JobPartsIn", spec := "jobPartsIn", inPlace := ["internal/bytealg.abigen_runtime_cmpstring", "internal/bytealg.IndexByteString", "internal/abi.NoEscape"], unfollowed := true, recurses := true, apart := false, narrowed := true }
def JobPartsInUptoSaid : Prop := jobPartsInUptoRow.holds Tryz.pinned (OpenSpec.upto jobPartsInSpec)

end Rows
end Go.Proofs.YtejbpnhondpnfaaGreat
