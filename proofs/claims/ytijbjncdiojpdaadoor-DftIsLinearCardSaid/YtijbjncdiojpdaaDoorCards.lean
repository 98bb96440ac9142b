/-
  DERIVED. GIVEN WITH THE SEED: THE CARDS: each row of YtijbjncdiojpdaaDoorRows.lean that lists a variable, with what it lists TIED to the program's text (the seventh form; the later family's looks); each row that meets fmt, with fmt's text TOLD by the authors' own Lean function (tested against real Go, not proved from fmt's source: count such statements apart). THE CARD IS WHAT COUNTS. Prove the row's statement (the work); the ties are given (YtijbjncdiojpdaaDoorTie.lean); close each card by the builder's one call (the guide's Derived/Test/ToyasCard.lean, 'card_holds'). Laid BY PROGRAM, IN A SANDBOX (cutbox-door.mjs). By AI agents, Wed Nov 11 2026. No macro, syntax, notation, axiom, sorry.
-/
import Derived.Test.YtijbjncdiojpdaaDoorRows
import GoSem.ClaimSeven
namespace Go.Proofs.YtijbjncdiojpdaaDoor
namespace Rows

/-- THE TIED CARD OF 'sharecorelaw11.DftMultiplies'. -/
def dftMultipliesCard : Claim7 := { stood := { row := dftMultipliesRow, standIns := [], harness := (true, "95827faf9aee51bc5e53a54dc147512fe6cc484990ae7cba69cadda86d7d5f5e"), looks := false }, kinds := [], alts := [], laidByText := true, laidKinds := [.data, .data, .data], laidTests := true, laidLooks := .later }
def DftMultipliesCardSaid : Prop := Claim7.holds Tryd.pinned (.plain (OpenSpec.ofChange dftMultipliesSpec)) dftMultipliesCard

/-- THE TIED CARD OF 'sharecorelaw11.DftRoots'. -/
def dftRootsCard : Claim7 := { stood := { row := dftRootsRow, standIns := [], harness := (true, "95827faf9aee51bc5e53a54dc147512fe6cc484990ae7cba69cadda86d7d5f5e"), looks := false }, kinds := [], alts := [], laidByText := true, laidKinds := [.data, .data, .data], laidTests := true, laidLooks := .later }
def DftRootsCardSaid : Prop := Claim7.holds Tryd.pinned (.plain (OpenSpec.ofChange dftRootsSpec)) dftRootsCard

/-- THE TIED CARD OF 'sharecorelaw11.DftInverts'. -/
def dftInvertsCard : Claim7 := { stood := { row := dftInvertsRow, standIns := [], harness := (true, "95827faf9aee51bc5e53a54dc147512fe6cc484990ae7cba69cadda86d7d5f5e"), looks := false }, kinds := [], alts := [], laidByText := true, laidKinds := [.data, .data, .data], laidTests := true, laidLooks := .later }
def DftInvertsCardSaid : Prop := Claim7.holds Tryd.pinned (.plain (OpenSpec.ofChange dftInvertsSpec)) dftInvertsCard

/-- THE TIED CARD OF 'sharecorelaw11.DftCommutes'. -/
def dftCommutesCard : Claim7 := { stood := { row := dftCommutesRow, standIns := [], harness := (true, "95827faf9aee51bc5e53a54dc147512fe6cc484990ae7cba69cadda86d7d5f5e"), looks := false }, kinds := [], alts := [], laidByText := true, laidKinds := [.data, .data, .data], laidTests := true, laidLooks := .later }
def DftCommutesCardSaid : Prop := Claim7.holds Tryd.pinned (.plain (OpenSpec.ofChange dftCommutesSpec)) dftCommutesCard

/-- THE TIED CARD OF 'sharecorelaw11.DftDistributes'. -/
def dftDistributesCard : Claim7 := { stood := { row := dftDistributesRow, standIns := [], harness := (true, "95827faf9aee51bc5e53a54dc147512fe6cc484990ae7cba69cadda86d7d5f5e"), looks := false }, kinds := [], alts := [], laidByText := true, laidKinds := [.data, .data, .data], laidTests := true, laidLooks := .later }
def DftDistributesCardSaid : Prop := Claim7.holds Tryd.pinned (.plain (OpenSpec.ofChange dftDistributesSpec)) dftDistributesCard

/-- THE TIED CARD OF 'sharecorelaw11.DftIsLinear'. -/
def dftIsLinearCard : Claim7 := { stood := { row := dftIsLinearRow, standIns := [], harness := (true, "95827faf9aee51bc5e53a54dc147512fe6cc484990ae7cba69cadda86d7d5f5e"), looks := false }, kinds := [], alts := [], laidByText := true, laidKinds := [.data, .data, .data], laidTests := true, laidLooks := .later }
def DftIsLinearCardSaid : Prop := Claim7.holds Tryd.pinned (.plain (OpenSpec.ofChange dftIsLinearSpec)) dftIsLinearCard

/-- THE SECOND FORM's CARD OF 'sharecorelaw11.DftMultiplies'. -/
def dftMultipliesUptoCard : Claim7 := { stood := { row := dftMultipliesUptoRow, standIns := [], harness := (true, "95827faf9aee51bc5e53a54dc147512fe6cc484990ae7cba69cadda86d7d5f5e"), looks := false }, kinds := [], alts := [], laidByText := true, laidKinds := [.data, .data, .data], laidTests := true, laidLooks := .later }
def DftMultipliesUptoCardSaid : Prop := Claim7.holds Tryd.pinned (.plain (OpenSpec.upto dftMultipliesSpec)) dftMultipliesUptoCard

/-- THE SECOND FORM's CARD OF 'sharecorelaw11.DftRoots'. -/
def dftRootsUptoCard : Claim7 := { stood := { row := dftRootsUptoRow, standIns := [], harness := (true, "95827faf9aee51bc5e53a54dc147512fe6cc484990ae7cba69cadda86d7d5f5e"), looks := false }, kinds := [], alts := [], laidByText := true, laidKinds := [.data, .data, .data], laidTests := true, laidLooks := .later }
def DftRootsUptoCardSaid : Prop := Claim7.holds Tryd.pinned (.plain (OpenSpec.upto dftRootsSpec)) dftRootsUptoCard

/-- THE SECOND FORM's CARD OF 'sharecorelaw11.DftInverts'. -/
def dftInvertsUptoCard : Claim7 := { stood := { row := dftInvertsUptoRow, standIns := [], harness := (true, "95827faf9aee51bc5e53a54dc147512fe6cc484990ae7cba69cadda86d7d5f5e"), looks := false }, kinds := [], alts := [], laidByText := true, laidKinds := [.data, .data, .data], laidTests := true, laidLooks := .later }
def DftInvertsUptoCardSaid : Prop := Claim7.holds Tryd.pinned (.plain (OpenSpec.upto dftInvertsSpec)) dftInvertsUptoCard

/-- THE SECOND FORM's CARD OF 'sharecorelaw11.DftCommutes'. -/
def dftCommutesUptoCard : Claim7 := { stood := { row := dftCommutesUptoRow, standIns := [], harness := (true, "95827faf9aee51bc5e53a54dc147512fe6cc484990ae7cba69cadda86d7d5f5e"), looks := false }, kinds := [], alts := [], laidByText := true, laidKinds := [.data, .data, .data], laidTests := true, laidLooks := .later }
def DftCommutesUptoCardSaid : Prop := Claim7.holds Tryd.pinned (.plain (OpenSpec.upto dftCommutesSpec)) dftCommutesUptoCard

/-- THE SECOND FORM's CARD OF 'sharecorelaw11.DftDistributes'. -/
def dftDistributesUptoCard : Claim7 := { stood := { row := dftDistributesUptoRow, standIns := [], harness := (true, "95827faf9aee51bc5e53a54dc147512fe6cc484990ae7cba69cadda86d7d5f5e"), looks := false }, kinds := [], alts := [], laidByText := true, laidKinds := [.data, .data, .data], laidTests := true, laidLooks := .later }
def DftDistributesUptoCardSaid : Prop := Claim7.holds Tryd.pinned (.plain (OpenSpec.upto dftDistributesSpec)) dftDistributesUptoCard

/-- THE SECOND FORM's CARD OF 'sharecorelaw11.DftIsLinear'. -/
def dftIsLinearUptoCard : Claim7 := { stood := { row := dftIsLinearUptoRow, standIns := [], harness := (true, "95827faf9aee51bc5e53a54dc147512fe6cc484990ae7cba69cadda86d7d5f5e"), looks := false }, kinds := [], alts := [], laidByText := true, laidKinds := [.data, .data, .data], laidTests := true, laidLooks := .later }
def DftIsLinearUptoCardSaid : Prop := Claim7.holds Tryd.pinned (.plain (OpenSpec.upto dftIsLinearSpec)) dftIsLinearUptoCard
end Rows
end Go.Proofs.YtijbjncdiojpdaaDoor
