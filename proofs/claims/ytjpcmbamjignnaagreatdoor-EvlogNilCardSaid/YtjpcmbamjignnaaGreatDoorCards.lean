/-
  DERIVED. GIVEN WITH THE SEED: THE CARDS: each row of YtjpcmbamjignnaaGreatDoorRows.lean that lists a variable, with what it lists TIED to the program's text (the seventh form; the later family's looks); each row that meets fmt, with fmt's text TOLD by the authors' own Lean function (tested against real Go, not proved from fmt's source: count such statements apart). THE CARD IS WHAT COUNTS. Prove the row's statement (the work); the ties are given (YtjpcmbamjignnaaGreatDoorTie.lean); close each card by the builder's one call (the guide's Derived/Test/ToyasCard.lean, 'card_holds'). Laid BY PROGRAM, IN A SANDBOX (cutbox-door.mjs). By AI agents, Wed Nov 11 2026. No macro, syntax, notation, axiom, sorry.
-/
import Derived.Test.YtjpcmbamjignnaaGreatDoorRows
import GoSem.ClaimSeven
namespace Go.Proofs.YtjpcmbamjignnaaGreatDoor
namespace Rows

/-- THE TIED CARD OF 'equerrylaw09.SeglogTrims'. -/
def seglogTrimsCard : Claim7 := { stood := { row := seglogTrimsRow, standIns := [], harness := (true, "063dab106ca4a99c5fc0b27a9760405c22851248f339bdaed6627afbd77c650b"), looks := false }, kinds := [], alts := [], laidByText := true, laidKinds := [.data, .data, .data, .data, .data, .pinned], laidTests := true, laidLooks := .later }
def SeglogTrimsCardSaid : Prop := Claim7.holds Tryz.pinned (.plain (OpenSpec.ofChange seglogTrimsSpec)) seglogTrimsCard

/-- THE TIED CARD OF 'equerrylaw09.SeglogAgain'. -/
def seglogAgainCard : Claim7 := { stood := { row := seglogAgainRow, standIns := [], harness := (true, "063dab106ca4a99c5fc0b27a9760405c22851248f339bdaed6627afbd77c650b"), looks := false }, kinds := [], alts := [], laidByText := true, laidKinds := [.data, .data, .data, .data, .data, .pinned], laidTests := true, laidLooks := .later }
def SeglogAgainCardSaid : Prop := Claim7.holds Tryz.pinned (.plain (OpenSpec.ofChange seglogAgainSpec)) seglogAgainCard

/-- THE TIED CARD OF 'equerrylaw19.QueueKeeps'. -/
def queueKeepsCard : Claim7 := { stood := { row := queueKeepsRow, standIns := [], harness := (true, "063dab106ca4a99c5fc0b27a9760405c22851248f339bdaed6627afbd77c650b"), looks := false }, kinds := [], alts := [], laidByText := true, laidKinds := [.data, .data, .data, .data, .data, .pinned], laidTests := true, laidLooks := .later }
def QueueKeepsCardSaid : Prop := Claim7.holds Tryz.pinned (.plain (OpenSpec.ofChange queueKeepsSpec)) queueKeepsCard

/-- THE TIED CARD OF 'equerrylaw17.EvlogNil'. -/
def evlogNilCard : Claim7 := { stood := { row := evlogNilRow, standIns := [], harness := (true, "063dab106ca4a99c5fc0b27a9760405c22851248f339bdaed6627afbd77c650b"), looks := false }, kinds := [], alts := [], laidByText := true, laidKinds := [.data, .data, .data, .data, .data, .pinned], laidTests := true, laidLooks := .later }
def EvlogNilCardSaid : Prop := Claim7.holds Tryz.pinned (.plain (OpenSpec.ofChange evlogNilSpec)) evlogNilCard

/-- THE TIED CARD OF 'equerrylaw17.EvlogOnce'. -/
def evlogOnceCard : Claim7 := { stood := { row := evlogOnceRow, standIns := [], harness := (true, "063dab106ca4a99c5fc0b27a9760405c22851248f339bdaed6627afbd77c650b"), looks := false }, kinds := [], alts := [], laidByText := true, laidKinds := [.data, .data, .data, .data, .data, .pinned], laidTests := true, laidLooks := .later }
def EvlogOnceCardSaid : Prop := Claim7.holds Tryz.pinned (.plain (OpenSpec.ofChange evlogOnceSpec)) evlogOnceCard

/-- THE TIED CARD OF 'equerrylaw17.EvlogSafe'. -/
def evlogSafeCard : Claim7 := { stood := { row := evlogSafeRow, standIns := [], harness := (true, "063dab106ca4a99c5fc0b27a9760405c22851248f339bdaed6627afbd77c650b"), looks := false }, kinds := [], alts := [], laidByText := true, laidKinds := [.data, .data, .data, .data, .data, .pinned], laidTests := true, laidLooks := .later }
def EvlogSafeCardSaid : Prop := Claim7.holds Tryz.pinned (.plain (OpenSpec.ofChange evlogSafeSpec)) evlogSafeCard

/-- THE SECOND FORM's CARD OF 'equerrylaw09.SeglogTrims'. -/
def seglogTrimsUptoCard : Claim7 := { stood := { row := seglogTrimsUptoRow, standIns := [], harness := (true, "063dab106ca4a99c5fc0b27a9760405c22851248f339bdaed6627afbd77c650b"), looks := false }, kinds := [], alts := [], laidByText := true, laidKinds := [.data, .data, .data, .data, .data, .pinned], laidTests := true, laidLooks := .later }
def SeglogTrimsUptoCardSaid : Prop := Claim7.holds Tryz.pinned (.plain (OpenSpec.upto seglogTrimsSpec)) seglogTrimsUptoCard

/-- THE SECOND FORM's CARD OF 'equerrylaw09.SeglogAgain'. -/
def seglogAgainUptoCard : Claim7 := { stood := { row := seglogAgainUptoRow, standIns := [], harness := (true, "063dab106ca4a99c5fc0b27a9760405c22851248f339bdaed6627afbd77c650b"), looks := false }, kinds := [], alts := [], laidByText := true, laidKinds := [.data, .data, .data, .data, .data, .pinned], laidTests := true, laidLooks := .later }
def SeglogAgainUptoCardSaid : Prop := Claim7.holds Tryz.pinned (.plain (OpenSpec.upto seglogAgainSpec)) seglogAgainUptoCard

/-- THE SECOND FORM's CARD OF 'equerrylaw19.QueueKeeps'. -/
def queueKeepsUptoCard : Claim7 := { stood := { row := queueKeepsUptoRow, standIns := [], harness := (true, "063dab106ca4a99c5fc0b27a9760405c22851248f339bdaed6627afbd77c650b"), looks := false }, kinds := [], alts := [], laidByText := true, laidKinds := [.data, .data, .data, .data, .data, .pinned], laidTests := true, laidLooks := .later }
def QueueKeepsUptoCardSaid : Prop := Claim7.holds Tryz.pinned (.plain (OpenSpec.upto queueKeepsSpec)) queueKeepsUptoCard

/-- THE SECOND FORM's CARD OF 'equerrylaw17.EvlogNil'. -/
def evlogNilUptoCard : Claim7 := { stood := { row := evlogNilUptoRow, standIns := [], harness := (true, "063dab106ca4a99c5fc0b27a9760405c22851248f339bdaed6627afbd77c650b"), looks := false }, kinds := [], alts := [], laidByText := true, laidKinds := [.data, .data, .data, .data, .data, .pinned], laidTests := true, laidLooks := .later }
def EvlogNilUptoCardSaid : Prop := Claim7.holds Tryz.pinned (.plain (OpenSpec.upto evlogNilSpec)) evlogNilUptoCard

/-- THE SECOND FORM's CARD OF 'equerrylaw17.EvlogOnce'. -/
def evlogOnceUptoCard : Claim7 := { stood := { row := evlogOnceUptoRow, standIns := [], harness := (true, "063dab106ca4a99c5fc0b27a9760405c22851248f339bdaed6627afbd77c650b"), looks := false }, kinds := [], alts := [], laidByText := true, laidKinds := [.data, .data, .data, .data, .data, .pinned], laidTests := true, laidLooks := .later }
def EvlogOnceUptoCardSaid : Prop := Claim7.holds Tryz.pinned (.plain (OpenSpec.upto evlogOnceSpec)) evlogOnceUptoCard

/-- THE SECOND FORM's CARD OF 'equerrylaw17.EvlogSafe'. -/
def evlogSafeUptoCard : Claim7 := { stood := { row := evlogSafeUptoRow, standIns := [], harness := (true, "063dab106ca4a99c5fc0b27a9760405c22851248f339bdaed6627afbd77c650b"), looks := false }, kinds := [], alts := [], laidByText := true, laidKinds := [.data, .data, .data, .data, .data, .pinned], laidTests := true, laidLooks := .later }
def EvlogSafeUptoCardSaid : Prop := Claim7.holds Tryz.pinned (.plain (OpenSpec.upto evlogSafeSpec)) evlogSafeUptoCard
end Rows
end Go.Proofs.YtjpcmbamjignnaaGreatDoor
