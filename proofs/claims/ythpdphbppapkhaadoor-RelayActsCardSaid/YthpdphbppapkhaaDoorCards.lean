/-
  DERIVED. GIVEN WITH THE SEED: THE CARDS: each row of YthpdphbppapkhaaDoorRows.lean that lists a variable, with what it lists TIED to the program's text (the seventh form; the later family's looks); each row that meets fmt, with fmt's text TOLD by the authors' own Lean function (tested against real Go, not proved from fmt's source: count such statements apart). THE CARD IS WHAT COUNTS. Prove the row's statement (the work); the ties are given (YthpdphbppapkhaaDoorTie.lean); close each card by the builder's one call (the guide's Derived/Test/ToyasCard.lean, 'card_holds'). Laid BY PROGRAM, IN A SANDBOX (cutbox-door.mjs). By AI agents, Wed Nov 11 2026. No macro, syntax, notation, axiom, sorry.
-/
import Derived.Test.YthpdphbppapkhaaDoorRows
import GoSem.ClaimSeven
namespace Go.Proofs.YthpdphbppapkhaaDoor
namespace Rows

/-- THE TIED CARD OF 'cuecardlaw06.PtyWhole'. -/
def ptyWholeCard : Claim7 := { stood := { row := ptyWholeRow, standIns := [], harness := (true, "b774fa9f6c34ad256291ffbc906dd876c24da77a370226d230452883d24bb807"), looks := false }, kinds := [], alts := [], laidByText := true, laidKinds := [.data], laidTests := true, laidLooks := .later }
def PtyWholeCardSaid : Prop := Claim7.holds Tryd.pinned (.plain (OpenSpec.ofChange ptyWholeSpec)) ptyWholeCard

/-- THE TIED CARD OF 'cuecardlaw06.PtyPrefix'. -/
def ptyPrefixCard : Claim7 := { stood := { row := ptyPrefixRow, standIns := [], harness := (true, "b774fa9f6c34ad256291ffbc906dd876c24da77a370226d230452883d24bb807"), looks := false }, kinds := [], alts := [], laidByText := true, laidKinds := [.data], laidTests := true, laidLooks := .later }
def PtyPrefixCardSaid : Prop := Claim7.holds Tryd.pinned (.plain (OpenSpec.ofChange ptyPrefixSpec)) ptyPrefixCard

/-- THE TIED CARD OF 'cuecardlaw06.PtyWays'. -/
def ptyWaysCard : Claim7 := { stood := { row := ptyWaysRow, standIns := [], harness := (true, "b774fa9f6c34ad256291ffbc906dd876c24da77a370226d230452883d24bb807"), looks := false }, kinds := [], alts := [], laidByText := true, laidKinds := [.data], laidTests := true, laidLooks := .later }
def PtyWaysCardSaid : Prop := Claim7.holds Tryd.pinned (.plain (OpenSpec.ofChange ptyWaysSpec)) ptyWaysCard

/-- THE TIED CARD OF 'cuecardlaw06.PtyActs'. -/
def ptyActsCard : Claim7 := { stood := { row := ptyActsRow, standIns := [], harness := (true, "b774fa9f6c34ad256291ffbc906dd876c24da77a370226d230452883d24bb807"), looks := false }, kinds := [], alts := [], laidByText := true, laidKinds := [.data], laidTests := true, laidLooks := .later }
def PtyActsCardSaid : Prop := Claim7.holds Tryd.pinned (.plain (OpenSpec.ofChange ptyActsSpec)) ptyActsCard

/-- THE TIED CARD OF 'cuecardlaw06.PtyNews'. -/
def ptyNewsCard : Claim7 := { stood := { row := ptyNewsRow, standIns := [], harness := (true, "b774fa9f6c34ad256291ffbc906dd876c24da77a370226d230452883d24bb807"), looks := false }, kinds := [], alts := [], laidByText := true, laidKinds := [.data], laidTests := true, laidLooks := .later }
def PtyNewsCardSaid : Prop := Claim7.holds Tryd.pinned (.plain (OpenSpec.ofChange ptyNewsSpec)) ptyNewsCard

/-- THE TIED CARD OF 'cuecardlaw07.RelayTimes'. -/
def relayTimesCard : Claim7 := { stood := { row := relayTimesRow, standIns := [], harness := (true, "b774fa9f6c34ad256291ffbc906dd876c24da77a370226d230452883d24bb807"), looks := false }, kinds := [], alts := [], laidByText := true, laidKinds := [.data], laidTests := true, laidLooks := .later }
def RelayTimesCardSaid : Prop := Claim7.holds Tryd.pinned (.plain (OpenSpec.ofChange relayTimesSpec)) relayTimesCard

/-- THE TIED CARD OF 'cuecardlaw07.RelayOwn'. -/
def relayOwnCard : Claim7 := { stood := { row := relayOwnRow, standIns := [], harness := (true, "b774fa9f6c34ad256291ffbc906dd876c24da77a370226d230452883d24bb807"), looks := false }, kinds := [], alts := [], laidByText := true, laidKinds := [.data], laidTests := true, laidLooks := .later }
def RelayOwnCardSaid : Prop := Claim7.holds Tryd.pinned (.plain (OpenSpec.ofChange relayOwnSpec)) relayOwnCard

/-- THE TIED CARD OF 'cuecardlaw07.RelayPrefix'. -/
def relayPrefixCard : Claim7 := { stood := { row := relayPrefixRow, standIns := [], harness := (true, "b774fa9f6c34ad256291ffbc906dd876c24da77a370226d230452883d24bb807"), looks := false }, kinds := [], alts := [], laidByText := true, laidKinds := [.data], laidTests := true, laidLooks := .later }
def RelayPrefixCardSaid : Prop := Claim7.holds Tryd.pinned (.plain (OpenSpec.ofChange relayPrefixSpec)) relayPrefixCard

/-- THE TIED CARD OF 'cuecardlaw07.RelayNews'. -/
def relayNewsCard : Claim7 := { stood := { row := relayNewsRow, standIns := [], harness := (true, "b774fa9f6c34ad256291ffbc906dd876c24da77a370226d230452883d24bb807"), looks := false }, kinds := [], alts := [], laidByText := true, laidKinds := [.data], laidTests := true, laidLooks := .later }
def RelayNewsCardSaid : Prop := Claim7.holds Tryd.pinned (.plain (OpenSpec.ofChange relayNewsSpec)) relayNewsCard

/-- THE TIED CARD OF 'cuecardlaw07.RelayEnds'. -/
def relayEndsCard : Claim7 := { stood := { row := relayEndsRow, standIns := [], harness := (true, "b774fa9f6c34ad256291ffbc906dd876c24da77a370226d230452883d24bb807"), looks := false }, kinds := [], alts := [], laidByText := true, laidKinds := [.data], laidTests := true, laidLooks := .later }
def RelayEndsCardSaid : Prop := Claim7.holds Tryd.pinned (.plain (OpenSpec.ofChange relayEndsSpec)) relayEndsCard

/-- THE TIED CARD OF 'cuecardlaw07.RelayActs'. -/
def relayActsCard : Claim7 := { stood := { row := relayActsRow, standIns := [], harness := (true, "b774fa9f6c34ad256291ffbc906dd876c24da77a370226d230452883d24bb807"), looks := false }, kinds := [], alts := [], laidByText := true, laidKinds := [.data], laidTests := true, laidLooks := .later }
def RelayActsCardSaid : Prop := Claim7.holds Tryd.pinned (.plain (OpenSpec.ofChange relayActsSpec)) relayActsCard

/-- THE SECOND FORM's CARD OF 'cuecardlaw06.PtyWhole'. -/
def ptyWholeUptoCard : Claim7 := { stood := { row := ptyWholeUptoRow, standIns := [], harness := (true, "b774fa9f6c34ad256291ffbc906dd876c24da77a370226d230452883d24bb807"), looks := false }, kinds := [], alts := [], laidByText := true, laidKinds := [.data], laidTests := true, laidLooks := .later }
def PtyWholeUptoCardSaid : Prop := Claim7.holds Tryd.pinned (.plain (OpenSpec.upto ptyWholeSpec)) ptyWholeUptoCard

/-- THE SECOND FORM's CARD OF 'cuecardlaw06.PtyPrefix'. -/
def ptyPrefixUptoCard : Claim7 := { stood := { row := ptyPrefixUptoRow, standIns := [], harness := (true, "b774fa9f6c34ad256291ffbc906dd876c24da77a370226d230452883d24bb807"), looks := false }, kinds := [], alts := [], laidByText := true, laidKinds := [.data], laidTests := true, laidLooks := .later }
def PtyPrefixUptoCardSaid : Prop := Claim7.holds Tryd.pinned (.plain (OpenSpec.upto ptyPrefixSpec)) ptyPrefixUptoCard

/-- THE SECOND FORM's CARD OF 'cuecardlaw06.PtyWays'. -/
def ptyWaysUptoCard : Claim7 := { stood := { row := ptyWaysUptoRow, standIns := [], harness := (true, "b774fa9f6c34ad256291ffbc906dd876c24da77a370226d230452883d24bb807"), looks := false }, kinds := [], alts := [], laidByText := true, laidKinds := [.data], laidTests := true, laidLooks := .later }
def PtyWaysUptoCardSaid : Prop := Claim7.holds Tryd.pinned (.plain (OpenSpec.upto ptyWaysSpec)) ptyWaysUptoCard

/-- THE SECOND FORM's CARD OF 'cuecardlaw06.PtyActs'. -/
def ptyActsUptoCard : Claim7 := { stood := { row := ptyActsUptoRow, standIns := [], harness := (true, "b774fa9f6c34ad256291ffbc906dd876c24da77a370226d230452883d24bb807"), looks := false }, kinds := [], alts := [], laidByText := true, laidKinds := [.data], laidTests := true, laidLooks := .later }
def PtyActsUptoCardSaid : Prop := Claim7.holds Tryd.pinned (.plain (OpenSpec.upto ptyActsSpec)) ptyActsUptoCard

/-- THE SECOND FORM's CARD OF 'cuecardlaw06.PtyNews'. -/
def ptyNewsUptoCard : Claim7 := { stood := { row := ptyNewsUptoRow, standIns := [], harness := (true, "b774fa9f6c34ad256291ffbc906dd876c24da77a370226d230452883d24bb807"), looks := false }, kinds := [], alts := [], laidByText := true, laidKinds := [.data], laidTests := true, laidLooks := .later }
def PtyNewsUptoCardSaid : Prop := Claim7.holds Tryd.pinned (.plain (OpenSpec.upto ptyNewsSpec)) ptyNewsUptoCard

/-- THE SECOND FORM's CARD OF 'cuecardlaw07.RelayTimes'. -/
def relayTimesUptoCard : Claim7 := { stood := { row := relayTimesUptoRow, standIns := [], harness := (true, "b774fa9f6c34ad256291ffbc906dd876c24da77a370226d230452883d24bb807"), looks := false }, kinds := [], alts := [], laidByText := true, laidKinds := [.data], laidTests := true, laidLooks := .later }
def RelayTimesUptoCardSaid : Prop := Claim7.holds Tryd.pinned (.plain (OpenSpec.upto relayTimesSpec)) relayTimesUptoCard

/-- THE SECOND FORM's CARD OF 'cuecardlaw07.RelayOwn'. -/
def relayOwnUptoCard : Claim7 := { stood := { row := relayOwnUptoRow, standIns := [], harness := (true, "b774fa9f6c34ad256291ffbc906dd876c24da77a370226d230452883d24bb807"), looks := false }, kinds := [], alts := [], laidByText := true, laidKinds := [.data], laidTests := true, laidLooks := .later }
def RelayOwnUptoCardSaid : Prop := Claim7.holds Tryd.pinned (.plain (OpenSpec.upto relayOwnSpec)) relayOwnUptoCard

/-- THE SECOND FORM's CARD OF 'cuecardlaw07.RelayPrefix'. -/
def relayPrefixUptoCard : Claim7 := { stood := { row := relayPrefixUptoRow, standIns := [], harness := (true, "b774fa9f6c34ad256291ffbc906dd876c24da77a370226d230452883d24bb807"), looks := false }, kinds := [], alts := [], laidByText := true, laidKinds := [.data], laidTests := true, laidLooks := .later }
def RelayPrefixUptoCardSaid : Prop := Claim7.holds Tryd.pinned (.plain (OpenSpec.upto relayPrefixSpec)) relayPrefixUptoCard

/-- THE SECOND FORM's CARD OF 'cuecardlaw07.RelayNews'. -/
def relayNewsUptoCard : Claim7 := { stood := { row := relayNewsUptoRow, standIns := [], harness := (true, "b774fa9f6c34ad256291ffbc906dd876c24da77a370226d230452883d24bb807"), looks := false }, kinds := [], alts := [], laidByText := true, laidKinds := [.data], laidTests := true, laidLooks := .later }
def RelayNewsUptoCardSaid : Prop := Claim7.holds Tryd.pinned (.plain (OpenSpec.upto relayNewsSpec)) relayNewsUptoCard

/-- THE SECOND FORM's CARD OF 'cuecardlaw07.RelayEnds'. -/
def relayEndsUptoCard : Claim7 := { stood := { row := relayEndsUptoRow, standIns := [], harness := (true, "b774fa9f6c34ad256291ffbc906dd876c24da77a370226d230452883d24bb807"), looks := false }, kinds := [], alts := [], laidByText := true, laidKinds := [.data], laidTests := true, laidLooks := .later }
def RelayEndsUptoCardSaid : Prop := Claim7.holds Tryd.pinned (.plain (OpenSpec.upto relayEndsSpec)) relayEndsUptoCard

/-- THE SECOND FORM's CARD OF 'cuecardlaw07.RelayActs'. -/
def relayActsUptoCard : Claim7 := { stood := { row := relayActsUptoRow, standIns := [], harness := (true, "b774fa9f6c34ad256291ffbc906dd876c24da77a370226d230452883d24bb807"), looks := false }, kinds := [], alts := [], laidByText := true, laidKinds := [.data], laidTests := true, laidLooks := .later }
def RelayActsUptoCardSaid : Prop := Claim7.holds Tryd.pinned (.plain (OpenSpec.upto relayActsSpec)) relayActsUptoCard
end Rows
end Go.Proofs.YthpdphbppapkhaaDoor
