/-
  DERIVED. GIVEN WITH THE SEED: THE CARDS: each row of YtmkacifjegnehaaDoorRows.lean that lists a variable, with what it lists TIED to the program's text (the seventh form; the later family's looks); each row that meets fmt, with fmt's text TOLD by the authors' own Lean function (tested against real Go, not proved from fmt's source: count such statements apart). THE CARD IS WHAT COUNTS. Prove the row's statement (the work); the ties are given (YtmkacifjegnehaaDoorTie.lean); close each card by the builder's one call (the guide's Derived/Test/ToyasCard.lean, 'card_holds'). Laid BY PROGRAM, IN A SANDBOX (cutbox-door.mjs). By AI agents, Wed Nov 11 2026. No macro, syntax, notation, axiom, sorry.
-/
import Derived.Test.YtmkacifjegnehaaDoorRows
import GoSem.ClaimSeven
namespace Go.Proofs.YtmkacifjegnehaaDoor
namespace Rows

/-- THE TIED CARD OF 'sextantlaw04.ExpandApart'. -/
def expandApartCard : Claim7 := { stood := { row := expandApartRow, standIns := [], harness := (true, "0328d6f4b5818fa821e6903b0f629ec765b42ef30ee9e5c36357951bf84010df"), looks := true }, kinds := [], alts := [], laidByText := true, laidKinds := [.data, .data, .data], laidTests := true, laidLooks := .later }
def ExpandApartCardSaid : Prop := Claim7.holds Tryd.pinned (.plain (OpenSpec.ofChange expandApartSpec)) expandApartCard

/-- THE TIED CARD OF 'sextantlaw04.ExpandDeep'. -/
def expandDeepCard : Claim7 := { stood := { row := expandDeepRow, standIns := [], harness := (true, "0328d6f4b5818fa821e6903b0f629ec765b42ef30ee9e5c36357951bf84010df"), looks := true }, kinds := [], alts := [], laidByText := true, laidKinds := [.data, .data, .data], laidTests := true, laidLooks := .later }
def ExpandDeepCardSaid : Prop := Claim7.holds Tryd.pinned (.plain (OpenSpec.ofChange expandDeepSpec)) expandDeepCard

/-- THE SECOND FORM's CARD OF 'sextantlaw04.ExpandApart'. -/
def expandApartUptoCard : Claim7 := { stood := { row := expandApartUptoRow, standIns := [], harness := (true, "0328d6f4b5818fa821e6903b0f629ec765b42ef30ee9e5c36357951bf84010df"), looks := true }, kinds := [], alts := [], laidByText := true, laidKinds := [.data, .data, .data], laidTests := true, laidLooks := .later }
def ExpandApartUptoCardSaid : Prop := Claim7.holds Tryd.pinned (.plain (OpenSpec.upto expandApartSpec)) expandApartUptoCard

/-- THE SECOND FORM's CARD OF 'sextantlaw04.ExpandDeep'. -/
def expandDeepUptoCard : Claim7 := { stood := { row := expandDeepUptoRow, standIns := [], harness := (true, "0328d6f4b5818fa821e6903b0f629ec765b42ef30ee9e5c36357951bf84010df"), looks := true }, kinds := [], alts := [], laidByText := true, laidKinds := [.data, .data, .data], laidTests := true, laidLooks := .later }
def ExpandDeepUptoCardSaid : Prop := Claim7.holds Tryd.pinned (.plain (OpenSpec.upto expandDeepSpec)) expandDeepUptoCard
end Rows
end Go.Proofs.YtmkacifjegnehaaDoor
