/-
  DERIVED. GIVEN WITH THE SEED: THE CARDS: each row of YtccgfladbibjbaaGreatDoorRows.lean that lists a variable, with what it lists TIED to the program's text (the seventh form; the later family's looks); each row that meets fmt, with fmt's text TOLD by the authors' own Lean function (tested against real Go, not proved from fmt's source: count such statements apart). THE CARD IS WHAT COUNTS. Prove the row's statement (the work); the ties are given (YtccgfladbibjbaaGreatDoorTie.lean); close each card by the builder's one call (the guide's Derived/Test/ToyasCard.lean, 'card_holds'). Laid BY PROGRAM, IN A SANDBOX (cutbox-door.mjs). By AI agents, Wed Nov 11 2026. No macro, syntax, notation, axiom, sorry.
-/
import Derived.Test.YtccgfladbibjbaaGreatDoorRows
import GoSem.ClaimSeven
namespace Go.Proofs.YtccgfladbibjbaaGreatDoor
namespace Rows

/-- THE TIED CARD OF 'sharecoretop.TopLines'. -/
def topLinesCard : Claim7 := { stood := { row := topLinesRow, standIns := [], harness := (true, "5867dfb3a20eb17e3c777ea39da53ab59c9fb0678fadd89af924a441b09e3a22"), looks := false }, kinds := [], alts := [], laidByText := true, laidKinds := [.data, .data, .data], laidTests := true, laidLooks := .later }
def TopLinesCardSaid : Prop := Claim7.holds Tryz.pinned (.plain (OpenSpec.ofChange topLinesSpec)) topLinesCard

/-- THE TIED CARD OF 'sharecoretop.TopFirst'. -/
def topFirstCard : Claim7 := { stood := { row := topFirstRow, standIns := [], harness := (true, "5867dfb3a20eb17e3c777ea39da53ab59c9fb0678fadd89af924a441b09e3a22"), looks := false }, kinds := [], alts := [], laidByText := true, laidKinds := [.data, .data, .data], laidTests := true, laidLooks := .later }
def TopFirstCardSaid : Prop := Claim7.holds Tryz.pinned (.plain (OpenSpec.ofChange topFirstSpec)) topFirstCard

/-- THE TIED CARD OF 'sharecoretop.TopAdds'. -/
def topAddsCard : Claim7 := { stood := { row := topAddsRow, standIns := [], harness := (true, "5867dfb3a20eb17e3c777ea39da53ab59c9fb0678fadd89af924a441b09e3a22"), looks := false }, kinds := [], alts := [], laidByText := true, laidKinds := [.data, .data, .data], laidTests := true, laidLooks := .later }
def TopAddsCardSaid : Prop := Claim7.holds Tryz.pinned (.plain (OpenSpec.ofChange topAddsSpec)) topAddsCard

/-- THE TIED CARD OF 'sharecoretop.TopTags'. -/
def topTagsCard : Claim7 := { stood := { row := topTagsRow, standIns := [], harness := (true, "5867dfb3a20eb17e3c777ea39da53ab59c9fb0678fadd89af924a441b09e3a22"), looks := false }, kinds := [], alts := [], laidByText := true, laidKinds := [.data, .data, .data], laidTests := true, laidLooks := .later }
def TopTagsCardSaid : Prop := Claim7.holds Tryz.pinned (.plain (OpenSpec.ofChange topTagsSpec)) topTagsCard

/-- THE SECOND FORM's CARD OF 'sharecoretop.TopLines'. -/
def topLinesUptoCard : Claim7 := { stood := { row := topLinesUptoRow, standIns := [], harness := (true, "5867dfb3a20eb17e3c777ea39da53ab59c9fb0678fadd89af924a441b09e3a22"), looks := false }, kinds := [], alts := [], laidByText := true, laidKinds := [.data, .data, .data], laidTests := true, laidLooks := .later }
def TopLinesUptoCardSaid : Prop := Claim7.holds Tryz.pinned (.plain (OpenSpec.upto topLinesSpec)) topLinesUptoCard

/-- THE SECOND FORM's CARD OF 'sharecoretop.TopFirst'. -/
def topFirstUptoCard : Claim7 := { stood := { row := topFirstUptoRow, standIns := [], harness := (true, "5867dfb3a20eb17e3c777ea39da53ab59c9fb0678fadd89af924a441b09e3a22"), looks := false }, kinds := [], alts := [], laidByText := true, laidKinds := [.data, .data, .data], laidTests := true, laidLooks := .later }
def TopFirstUptoCardSaid : Prop := Claim7.holds Tryz.pinned (.plain (OpenSpec.upto topFirstSpec)) topFirstUptoCard

/-- THE SECOND FORM's CARD OF 'sharecoretop.TopAdds'. -/
def topAddsUptoCard : Claim7 := { stood := { row := topAddsUptoRow, standIns := [], harness := (true, "5867dfb3a20eb17e3c777ea39da53ab59c9fb0678fadd89af924a441b09e3a22"), looks := false }, kinds := [], alts := [], laidByText := true, laidKinds := [.data, .data, .data], laidTests := true, laidLooks := .later }
def TopAddsUptoCardSaid : Prop := Claim7.holds Tryz.pinned (.plain (OpenSpec.upto topAddsSpec)) topAddsUptoCard

/-- THE SECOND FORM's CARD OF 'sharecoretop.TopTags'. -/
def topTagsUptoCard : Claim7 := { stood := { row := topTagsUptoRow, standIns := [], harness := (true, "5867dfb3a20eb17e3c777ea39da53ab59c9fb0678fadd89af924a441b09e3a22"), looks := false }, kinds := [], alts := [], laidByText := true, laidKinds := [.data, .data, .data], laidTests := true, laidLooks := .later }
def TopTagsUptoCardSaid : Prop := Claim7.holds Tryz.pinned (.plain (OpenSpec.upto topTagsSpec)) topTagsUptoCard
end Rows
end Go.Proofs.YtccgfladbibjbaaGreatDoor
