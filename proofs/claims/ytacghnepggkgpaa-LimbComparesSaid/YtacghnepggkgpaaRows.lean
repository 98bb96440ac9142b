/-
  No cell of these rows narrows 'for every input' (looked for: loops, veiled, ifaces, maps, wideKeys, modest, calm, conditions, laid).
  DERIVED. THE GIVEN ROWS OF THIS SEAT. 12 by the template 'for every input the law returns true; each argument reads behind the call as it read before'; 0 by the template 'total and deterministic' (their statements: YtacghnepggkgpaaTotals.lean).
  GIVEN WITH THE SEED: the statements are not yours to turn. If you find one false, say at which input.
  Laid BY PROGRAM, IN A SANDBOX (cutbox-rows.mjs): the forced cells as the released guide's own fill.sh prints them over the translation c70eec50f42a2c24… (all of the seat's roots in one cut). By AI agents, Wed Nov 11 2026. No macro, syntax, notation, axiom, sorry.
-/
import Derived.Test.YtacghnepggkgpaaChecked
import GoSem.Claim
import GoSem.ClaimJoined
import GoSem.ClaimMapViews
import Derived.JoinedTies
import Derived.KernelRfl
namespace Go.Proofs.Ytacghnepggkgpaa
/- THE CELL 'sum', in the pinned program and in every row, IS THE sha256 OF THE DUMP (.gsa) THAT YtacghnepggkgpaaProg.lean LOADS. Nothing in Lean hashes anything: it is a label: what it is worth is what the hold of that sum in a sandbox is worth. -/
noncomputable def Try.pinned : Pinned := { name := "ytacghnepggkgpaa", sum := "c70eec50f42a2c2431ffaef6c76a2f0762e4ee1f5c8648345891f861cf30a8d5", checked := Try.checked }
namespace Rows
def none {H : Type} : Left H := { results := [], args := [] }

/-- 'sharecorelaw01.MaskBits': WHATEVER THE INPUT: true; the input reads as it did. -/
def maskBitsSpec : ChangeSpec := { name := "maskBits", fn := fun _ => fun
  | [d] => { results := [.lit (.bool true)], args := [d] }
  | _ => none }
def maskBitsRow : OpenClaim := { program := "ytacghnepggkgpaa", sum := "c70eec50f42a2c2431ffaef6c76a2f0762e4ee1f5c8648345891f861cf30a8d5", func := "sharecore/sharecorelaw01.MaskBits", spec := "maskBits", unfollowed := true, recurses := true, apart := false }
def MaskBitsSaid : Prop := maskBitsRow.holds Try.pinned (OpenSpec.ofChange maskBitsSpec)

/-- ITS FALSE NEIGHBOUR: 'it returns false'. Refute it at one input. -/
def maskBitsWrong : ChangeSpec := { name := "maskBits", fn := fun _ => fun
  | [d] => { results := [.lit (.bool false)], args := [d] }
  | _ => none }
def MaskBitsWrongFalsely : Prop := maskBitsRow.holds Try.pinned (OpenSpec.ofChange maskBitsWrong)

/-- 'sharecorelaw01.MaskCompares': WHATEVER THE INPUT: true; the input reads as it did. -/
def maskComparesSpec : ChangeSpec := { name := "maskCompares", fn := fun _ => fun
  | [d1, d2] => { results := [.lit (.bool true)], args := [d1, d2] }
  | _ => none }
def maskComparesRow : OpenClaim := { program := "ytacghnepggkgpaa", sum := "c70eec50f42a2c2431ffaef6c76a2f0762e4ee1f5c8648345891f861cf30a8d5", func := "sharecore/sharecorelaw01.MaskCompares", spec := "maskCompares", unfollowed := true, recurses := true, apart := false }
def MaskComparesSaid : Prop := maskComparesRow.holds Try.pinned (OpenSpec.ofChange maskComparesSpec)

/-- ITS FALSE NEIGHBOUR: 'it returns false'. Refute it at one input. -/
def maskComparesWrong : ChangeSpec := { name := "maskCompares", fn := fun _ => fun
  | [d1, d2] => { results := [.lit (.bool false)], args := [d1, d2] }
  | _ => none }
def MaskComparesWrongFalsely : Prop := maskComparesRow.holds Try.pinned (OpenSpec.ofChange maskComparesWrong)

/-- 'sharecorelaw01.MaskChooses': WHATEVER THE INPUT: true; the input reads as it did. -/
def maskChoosesSpec : ChangeSpec := { name := "maskChooses", fn := fun _ => fun
  | [d1, d2, d3] => { results := [.lit (.bool true)], args := [d1, d2, d3] }
  | _ => none }
def maskChoosesRow : OpenClaim := { program := "ytacghnepggkgpaa", sum := "c70eec50f42a2c2431ffaef6c76a2f0762e4ee1f5c8648345891f861cf30a8d5", func := "sharecore/sharecorelaw01.MaskChooses", spec := "maskChooses", unfollowed := true, recurses := true, apart := false }
def MaskChoosesSaid : Prop := maskChoosesRow.holds Try.pinned (OpenSpec.ofChange maskChoosesSpec)

/-- ITS FALSE NEIGHBOUR: 'it returns false'. Refute it at one input. -/
def maskChoosesWrong : ChangeSpec := { name := "maskChooses", fn := fun _ => fun
  | [d1, d2, d3] => { results := [.lit (.bool false)], args := [d1, d2, d3] }
  | _ => none }
def MaskChoosesWrongFalsely : Prop := maskChoosesRow.holds Try.pinned (OpenSpec.ofChange maskChoosesWrong)

/-- 'sharecorelaw01.MaskTrichotomy': WHATEVER THE INPUT: true; the input reads as it did. -/
def maskTrichotomySpec : ChangeSpec := { name := "maskTrichotomy", fn := fun _ => fun
  | [d1, d2] => { results := [.lit (.bool true)], args := [d1, d2] }
  | _ => none }
def maskTrichotomyRow : OpenClaim := { program := "ytacghnepggkgpaa", sum := "c70eec50f42a2c2431ffaef6c76a2f0762e4ee1f5c8648345891f861cf30a8d5", func := "sharecore/sharecorelaw01.MaskTrichotomy", spec := "maskTrichotomy", unfollowed := true, recurses := true, apart := false }
def MaskTrichotomySaid : Prop := maskTrichotomyRow.holds Try.pinned (OpenSpec.ofChange maskTrichotomySpec)

/-- ITS FALSE NEIGHBOUR: 'it returns false'. Refute it at one input. -/
def maskTrichotomyWrong : ChangeSpec := { name := "maskTrichotomy", fn := fun _ => fun
  | [d1, d2] => { results := [.lit (.bool false)], args := [d1, d2] }
  | _ => none }
def MaskTrichotomyWrongFalsely : Prop := maskTrichotomyRow.holds Try.pinned (OpenSpec.ofChange maskTrichotomyWrong)

/-- 'sharecorelaw01.MaskZeros': WHATEVER THE INPUT: true; the input reads as it did. -/
def maskZerosSpec : ChangeSpec := { name := "maskZeros", fn := fun _ => fun
  | [d] => { results := [.lit (.bool true)], args := [d] }
  | _ => none }
def maskZerosRow : OpenClaim := { program := "ytacghnepggkgpaa", sum := "c70eec50f42a2c2431ffaef6c76a2f0762e4ee1f5c8648345891f861cf30a8d5", func := "sharecore/sharecorelaw01.MaskZeros", spec := "maskZeros", unfollowed := true, recurses := true, apart := false }
def MaskZerosSaid : Prop := maskZerosRow.holds Try.pinned (OpenSpec.ofChange maskZerosSpec)

/-- ITS FALSE NEIGHBOUR: 'it returns false'. Refute it at one input. -/
def maskZerosWrong : ChangeSpec := { name := "maskZeros", fn := fun _ => fun
  | [d] => { results := [.lit (.bool false)], args := [d] }
  | _ => none }
def MaskZerosWrongFalsely : Prop := maskZerosRow.holds Try.pinned (OpenSpec.ofChange maskZerosWrong)

/-- 'sharecorelaw01.MaskTables': WHATEVER THE INPUT: true; the input reads as it did. -/
def maskTablesSpec : ChangeSpec := { name := "maskTables", fn := fun _ => fun
  | [d1, d2] => { results := [.lit (.bool true)], args := [d1, d2] }
  | _ => none }
def maskTablesRow : OpenClaim := { program := "ytacghnepggkgpaa", sum := "c70eec50f42a2c2431ffaef6c76a2f0762e4ee1f5c8648345891f861cf30a8d5", func := "sharecore/sharecorelaw01.MaskTables", spec := "maskTables", unfollowed := true, recurses := true, apart := false }
def MaskTablesSaid : Prop := maskTablesRow.holds Try.pinned (OpenSpec.ofChange maskTablesSpec)

/-- ITS FALSE NEIGHBOUR: 'it returns false'. Refute it at one input. -/
def maskTablesWrong : ChangeSpec := { name := "maskTables", fn := fun _ => fun
  | [d1, d2] => { results := [.lit (.bool false)], args := [d1, d2] }
  | _ => none }
def MaskTablesWrongFalsely : Prop := maskTablesRow.holds Try.pinned (OpenSpec.ofChange maskTablesWrong)

/-- 'sharecorelaw03.LimbMultiplies': WHATEVER THE INPUT: true; the input reads as it did. -/
def limbMultipliesSpec : ChangeSpec := { name := "limbMultiplies", fn := fun _ => fun
  | [d1, d2] => { results := [.lit (.bool true)], args := [d1, d2] }
  | _ => none }
def limbMultipliesRow : OpenClaim := { program := "ytacghnepggkgpaa", sum := "c70eec50f42a2c2431ffaef6c76a2f0762e4ee1f5c8648345891f861cf30a8d5", func := "sharecore/sharecorelaw03.LimbMultiplies", spec := "limbMultiplies", inPlace := ["math/bits.Add64"], unfollowed := true, recurses := true, apart := false }
def LimbMultipliesSaid : Prop := limbMultipliesRow.holds Try.pinned (OpenSpec.ofChange limbMultipliesSpec)

/-- ITS FALSE NEIGHBOUR: 'it returns false'. Refute it at one input. -/
def limbMultipliesWrong : ChangeSpec := { name := "limbMultiplies", fn := fun _ => fun
  | [d1, d2] => { results := [.lit (.bool false)], args := [d1, d2] }
  | _ => none }
def LimbMultipliesWrongFalsely : Prop := limbMultipliesRow.holds Try.pinned (OpenSpec.ofChange limbMultipliesWrong)

/-- 'sharecorelaw03.LimbBits': WHATEVER THE INPUT: true; the input reads as it did. -/
def limbBitsSpec : ChangeSpec := { name := "limbBits", fn := fun _ => fun
  | [d1, d2, d3] => { results := [.lit (.bool true)], args := [d1, d2, d3] }
  | _ => none }
def limbBitsRow : OpenClaim := { program := "ytacghnepggkgpaa", sum := "c70eec50f42a2c2431ffaef6c76a2f0762e4ee1f5c8648345891f861cf30a8d5", func := "sharecore/sharecorelaw03.LimbBits", spec := "limbBits", inPlace := ["math/bits.Add64"], unfollowed := true, recurses := true, apart := false }
def LimbBitsSaid : Prop := limbBitsRow.holds Try.pinned (OpenSpec.ofChange limbBitsSpec)

/-- ITS FALSE NEIGHBOUR: 'it returns false'. Refute it at one input. -/
def limbBitsWrong : ChangeSpec := { name := "limbBits", fn := fun _ => fun
  | [d1, d2, d3] => { results := [.lit (.bool false)], args := [d1, d2, d3] }
  | _ => none }
def LimbBitsWrongFalsely : Prop := limbBitsRow.holds Try.pinned (OpenSpec.ofChange limbBitsWrong)

/-- 'sharecorelaw03.LimbAssembles': WHATEVER THE INPUT: true; the input reads as it did. -/
def limbAssemblesSpec : ChangeSpec := { name := "limbAssembles", fn := fun _ => fun
  | [d1, d2] => { results := [.lit (.bool true)], args := [d1, d2] }
  | _ => none }
def limbAssemblesRow : OpenClaim := { program := "ytacghnepggkgpaa", sum := "c70eec50f42a2c2431ffaef6c76a2f0762e4ee1f5c8648345891f861cf30a8d5", func := "sharecore/sharecorelaw03.LimbAssembles", spec := "limbAssembles", inPlace := ["math/bits.Add64"], unfollowed := true, recurses := true, apart := false }
def LimbAssemblesSaid : Prop := limbAssemblesRow.holds Try.pinned (OpenSpec.ofChange limbAssemblesSpec)

/-- ITS FALSE NEIGHBOUR: 'it returns false'. Refute it at one input. -/
def limbAssemblesWrong : ChangeSpec := { name := "limbAssembles", fn := fun _ => fun
  | [d1, d2] => { results := [.lit (.bool false)], args := [d1, d2] }
  | _ => none }
def LimbAssemblesWrongFalsely : Prop := limbAssemblesRow.holds Try.pinned (OpenSpec.ofChange limbAssemblesWrong)

/-- 'sharecorelaw03.LimbAdds': WHATEVER THE INPUT: true; the input reads as it did. -/
def limbAddsSpec : ChangeSpec := { name := "limbAdds", fn := fun _ => fun
  | [d1, d2] => { results := [.lit (.bool true)], args := [d1, d2] }
  | _ => none }
def limbAddsRow : OpenClaim := { program := "ytacghnepggkgpaa", sum := "c70eec50f42a2c2431ffaef6c76a2f0762e4ee1f5c8648345891f861cf30a8d5", func := "sharecore/sharecorelaw03.LimbAdds", spec := "limbAdds", inPlace := ["math/bits.Add64", "math/bits.Sub64"], unfollowed := true, recurses := true, apart := false }
def LimbAddsSaid : Prop := limbAddsRow.holds Try.pinned (OpenSpec.ofChange limbAddsSpec)

/-- ITS FALSE NEIGHBOUR: 'it returns false'. Refute it at one input. -/
def limbAddsWrong : ChangeSpec := { name := "limbAdds", fn := fun _ => fun
  | [d1, d2] => { results := [.lit (.bool false)], args := [d1, d2] }
  | _ => none }
def LimbAddsWrongFalsely : Prop := limbAddsRow.holds Try.pinned (OpenSpec.ofChange limbAddsWrong)

/-- 'sharecorelaw03.LimbInverts': WHATEVER THE INPUT: true; the input reads as it did. -/
def limbInvertsSpec : ChangeSpec := { name := "limbInverts", fn := fun _ => fun
  | [d1, d2] => { results := [.lit (.bool true)], args := [d1, d2] }
  | _ => none }
def limbInvertsRow : OpenClaim := { program := "ytacghnepggkgpaa", sum := "c70eec50f42a2c2431ffaef6c76a2f0762e4ee1f5c8648345891f861cf30a8d5", func := "sharecore/sharecorelaw03.LimbInverts", spec := "limbInverts", inPlace := ["math/bits.Add64", "math/bits.Sub64"], unfollowed := true, recurses := true, apart := false }
def LimbInvertsSaid : Prop := limbInvertsRow.holds Try.pinned (OpenSpec.ofChange limbInvertsSpec)

/-- ITS FALSE NEIGHBOUR: 'it returns false'. Refute it at one input. -/
def limbInvertsWrong : ChangeSpec := { name := "limbInverts", fn := fun _ => fun
  | [d1, d2] => { results := [.lit (.bool false)], args := [d1, d2] }
  | _ => none }
def LimbInvertsWrongFalsely : Prop := limbInvertsRow.holds Try.pinned (OpenSpec.ofChange limbInvertsWrong)

/-- 'sharecorelaw03.LimbCompares': WHATEVER THE INPUT: true; the input reads as it did. -/
def limbComparesSpec : ChangeSpec := { name := "limbCompares", fn := fun _ => fun
  | [d1, d2, d3] => { results := [.lit (.bool true)], args := [d1, d2, d3] }
  | _ => none }
def limbComparesRow : OpenClaim := { program := "ytacghnepggkgpaa", sum := "c70eec50f42a2c2431ffaef6c76a2f0762e4ee1f5c8648345891f861cf30a8d5", func := "sharecore/sharecorelaw03.LimbCompares", spec := "limbCompares", inPlace := ["math/bits.Add64", "math/bits.Sub64"], unfollowed := true, recurses := true, apart := false }
def LimbComparesSaid : Prop := limbComparesRow.holds Try.pinned (OpenSpec.ofChange limbComparesSpec)

/-- ITS FALSE NEIGHBOUR: 'it returns false'. Refute it at one input. -/
def limbComparesWrong : ChangeSpec := { name := "limbCompares", fn := fun _ => fun
  | [d1, d2, d3] => { results := [.lit (.bool false)], args := [d1, d2, d3] }
  | _ => none }
def LimbComparesWrongFalsely : Prop := limbComparesRow.holds Try.pinned (OpenSpec.ofChange limbComparesWrong)

/- THE SECOND FORM. 'bulk': how many values and letters a reading holds, each counted each time it is reached (what is shared counts as often as it is met; a slice's spare places count too). A statement '..UptoSaid' is the law's where the arguments, and the package variables that the reading takes, are together of bulk at most 1048576: NARROWER than '..Said'. Prove '..Said' where nothing that the law and all that it calls make is longer than what came in: it says more and counts as full. Else prove '..UptoSaid'. A law counts once. -/
mutual
def uptoBulk {H : Type} : DataW H → Nat
  | .lit (.string bytes) => bytes.length + 1
  | .lit _ => 1
  | .nil => 1
  | .ptr d => uptoBulk d + 1
  | .slice elems spare => uptoBulkAll elems + uptoBulkAll spare + 1
  | .agg parts => uptoBulkAll parts + 1
  | .iface _ d => uptoBulk d + 1
  | .map entries => uptoBulkEntries entries + 1
  | .held _ => 1
def uptoBulkAll {H : Type} : List (DataW H) → Nat
  | [] => 0
  | d :: r => uptoBulk d + uptoBulkAll r
def uptoBulkEntries {H : Type} : List (Lit × DataW H) → Nat
  | [] => 0
  | x :: r => uptoBulkEntry x + uptoBulkEntries r
def uptoBulkEntry {H : Type} : Lit × DataW H → Nat
  | (.string bytes, d) => bytes.length + uptoBulk d + 1
  | (_, d) => uptoBulk d + 1
 end
def uptoSmall : (H : Type) → List (DataW H) → Bool := fun _ ds => decide (uptoBulkAll ds ≤ 1048576)
def OpenSpec.upto (s : _root_.Go.ChangeSpec) : _root_.Go.OpenSpec := { _root_.Go.OpenSpec.ofChange s with cond := some uptoSmall }

/-- 'sharecorelaw01.MaskBits', WHERE WHAT IT READS IS OF BULK AT MOST 1048576: true; the input reads as it did. -/
def maskBitsUptoRow : OpenClaim := { program := "ytacghnepggkgpaa", sum := "c70eec50f42a2c2431ffaef6c76a2f0762e4ee1f5c8648345891f861cf30a8d5", func := "sharecore/sharecorelaw01.MaskBits", spec := "maskBits", unfollowed := true, recurses := true, apart := false, narrowed := true }
def MaskBitsUptoSaid : Prop := maskBitsUptoRow.holds Try.pinned (OpenSpec.upto maskBitsSpec)

/-- 'sharecorelaw01.MaskCompares', WHERE WHAT IT READS IS OF BULK AT MOST 1048576: true; the input reads as it did. -/
def maskComparesUptoRow : OpenClaim := { program := "ytacghnepggkgpaa", sum := "c70eec50f42a2c2431ffaef6c76a2f0762e4ee1f5c8648345891f861cf30a8d5", func := "sharecore/sharecorelaw01.MaskCompares", spec := "maskCompares", unfollowed := true, recurses := true, apart := false, narrowed := true }
def MaskComparesUptoSaid : Prop := maskComparesUptoRow.holds Try.pinned (OpenSpec.upto maskComparesSpec)

/-- 'sharecorelaw01.MaskChooses', WHERE WHAT IT READS IS OF BULK AT MOST 1048576: true; the input reads as it did. -/
def maskChoosesUptoRow : OpenClaim := { program := "ytacghnepggkgpaa", sum := "c70eec50f42a2c2431ffaef6c76a2f0762e4ee1f5c8648345891f861cf30a8d5", func := "sharecore/sharecorelaw01.MaskChooses", spec := "maskChooses", unfollowed := true, recurses := true, apart := false, narrowed := true }
def MaskChoosesUptoSaid : Prop := maskChoosesUptoRow.holds Try.pinned (OpenSpec.upto maskChoosesSpec)

/-- 'sharecorelaw01.MaskTrichotomy', WHERE WHAT IT READS IS OF BULK AT MOST 1048576: true; the input reads as it did. -/
def maskTrichotomyUptoRow : OpenClaim := { program := "ytacghnepggkgpaa", sum := "c70eec50f42a2c2431ffaef6c76a2f0762e4ee1f5c8648345891f861cf30a8d5", func := "sharecore/sharecorelaw01.MaskTrichotomy", spec := "maskTrichotomy", unfollowed := true, recurses := true, apart := false, narrowed := true }
def MaskTrichotomyUptoSaid : Prop := maskTrichotomyUptoRow.holds Try.pinned (OpenSpec.upto maskTrichotomySpec)

/-- 'sharecorelaw01.MaskZeros', WHERE WHAT IT READS IS OF BULK AT MOST 1048576: true; the input reads as it did. -/
def maskZerosUptoRow : OpenClaim := { program := "ytacghnepggkgpaa", sum := "c70eec50f42a2c2431ffaef6c76a2f0762e4ee1f5c8648345891f861cf30a8d5", func := "sharecore/sharecorelaw01.MaskZeros", spec := "maskZeros", unfollowed := true, recurses := true, apart := false, narrowed := true }
def MaskZerosUptoSaid : Prop := maskZerosUptoRow.holds Try.pinned (OpenSpec.upto maskZerosSpec)

/-- 'sharecorelaw01.MaskTables', WHERE WHAT IT READS IS OF BULK AT MOST 1048576: true; the input reads as it did. -/
def maskTablesUptoRow : OpenClaim := { program := "ytacghnepggkgpaa", sum := "c70eec50f42a2c2431ffaef6c76a2f0762e4ee1f5c8648345891f861cf30a8d5", func := "sharecore/sharecorelaw01.MaskTables", spec := "maskTables", unfollowed := true, recurses := true, apart := false, narrowed := true }
def MaskTablesUptoSaid : Prop := maskTablesUptoRow.holds Try.pinned (OpenSpec.upto maskTablesSpec)

/-- 'sharecorelaw03.LimbMultiplies', WHERE WHAT IT READS IS OF BULK AT MOST 1048576: true; the input reads as it did. -/
def limbMultipliesUptoRow : OpenClaim := { program := "ytacghnepggkgpaa", sum := "c70eec50f42a2c2431ffaef6c76a2f0762e4ee1f5c8648345891f861cf30a8d5", func := "sharecore/sharecorelaw03.LimbMultiplies", spec := "limbMultiplies", inPlace := ["math/bits.Add64"], unfollowed := true, recurses := true, apart := false, narrowed := true }
def LimbMultipliesUptoSaid : Prop := limbMultipliesUptoRow.holds Try.pinned (OpenSpec.upto limbMultipliesSpec)

/-- 'sharecorelaw03.LimbBits', WHERE WHAT IT READS IS OF BULK AT MOST 1048576: true; the input reads as it did. -/
def limbBitsUptoRow : OpenClaim := { program := "ytacghnepggkgpaa", sum := "c70eec50f42a2c2431ffaef6c76a2f0762e4ee1f5c8648345891f861cf30a8d5", func := "sharecore/sharecorelaw03.LimbBits", spec := "limbBits", inPlace := ["math/bits.Add64"], unfollowed := true, recurses := true, apart := false, narrowed := true }
def LimbBitsUptoSaid : Prop := limbBitsUptoRow.holds Try.pinned (OpenSpec.upto limbBitsSpec)

/-- 'sharecorelaw03.LimbAssembles', WHERE WHAT IT READS IS OF BULK AT MOST 1048576: true; the input reads as it did. -/
def limbAssemblesUptoRow : OpenClaim := { program := "ytacghnepggkgpaa", sum := "c70eec50f42a2c2431ffaef6c76a2f0762e4ee1f5c8648345891f861cf30a8d5", func := "sharecore/sharecorelaw03.LimbAssembles", spec := "limbAssembles", inPlace := ["math/bits.Add64"], unfollowed := true, recurses := true, apart := false, narrowed := true }
def LimbAssemblesUptoSaid : Prop := limbAssemblesUptoRow.holds Try.pinned (OpenSpec.upto limbAssemblesSpec)

/-- 'sharecorelaw03.LimbAdds', WHERE WHAT IT READS IS OF BULK AT MOST 1048576: true; the input reads as it did. -/
def limbAddsUptoRow : OpenClaim := { program := "ytacghnepggkgpaa", sum := "c70eec50f42a2c2431ffaef6c76a2f0762e4ee1f5c8648345891f861cf30a8d5", func := "sharecore/sharecorelaw03.LimbAdds", spec := "limbAdds", inPlace := ["math/bits.Add64", "math/bits.Sub64"], unfollowed := true, recurses := true, apart := false, narrowed := true }
def LimbAddsUptoSaid : Prop := limbAddsUptoRow.holds Try.pinned (OpenSpec.upto limbAddsSpec)

/-- 'sharecorelaw03.LimbInverts', WHERE WHAT IT READS IS OF BULK AT MOST 1048576: true; the input reads as it did. -/
def limbInvertsUptoRow : OpenClaim := { program := "ytacghnepggkgpaa", sum := "c70eec50f42a2c2431ffaef6c76a2f0762e4ee1f5c8648345891f861cf30a8d5", func := "sharecore/sharecorelaw03.LimbInverts", spec := "limbInverts", inPlace := ["math/bits.Add64", "math/bits.Sub64"], unfollowed := true, recurses := true, apart := false, narrowed := true }
def LimbInvertsUptoSaid : Prop := limbInvertsUptoRow.holds Try.pinned (OpenSpec.upto limbInvertsSpec)

/-- 'sharecorelaw03.LimbCompares', WHERE WHAT IT READS IS OF BULK AT MOST 1048576: true; the input reads as it did. -/
def limbComparesUptoRow : OpenClaim := { program := "ytacghnepggkgpaa", sum := "c70eec50f42a2c2431ffaef6c76a2f0762e4ee1f5c8648345891f861cf30a8d5", func := "sharecore/sharecorelaw03.LimbCompares", spec := "limbCompares", inPlace := ["math/bits.Add64", "math/bits.Sub64"], unfollowed := true, recurses := true, apart := false, narrowed := true }
def LimbComparesUptoSaid : Prop := limbComparesUptoRow.holds Try.pinned (OpenSpec.upto limbComparesSpec)

end Rows
end Go.Proofs.Ytacghnepggkgpaa
