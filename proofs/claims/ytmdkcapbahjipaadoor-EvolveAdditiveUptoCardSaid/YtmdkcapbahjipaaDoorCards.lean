/-
  DERIVED. GIVEN WITH THE SEED: THE CARDS: each row of YtmdkcapbahjipaaDoorRows.lean that lists a variable, with what it lists TIED to the program's text (the seventh form; the later family's looks); each row that meets fmt, with fmt's text TOLD by the authors' own Lean function (tested against real Go, not proved from fmt's source: count such statements apart). THE CARD IS WHAT COUNTS. Prove the row's statement (the work); the ties are given (YtmdkcapbahjipaaDoorTie.lean); close each card by the builder's one call (the guide's Derived/Test/ToyasCard.lean, 'card_holds'). Laid BY PROGRAM, IN A SANDBOX (cutbox-door.mjs). By AI agents, Wed Nov 11 2026. No macro, syntax, notation, axiom, sorry.
-/
import Derived.Test.YtmdkcapbahjipaaDoorRows
import GoSem.ClaimSeven
namespace Go.Proofs.YtmdkcapbahjipaaDoor
namespace Rows

/-- THE TIED CARD OF 'cartouchelaw7.TableGood'. -/
def tableGoodCard : Claim7 := { stood := { row := tableGoodRow, standIns := [], harness := (true, "84a24611ba93a76b9ce1160a2deac2e67348e3a49468935696ae20e7a744d240"), looks := false }, kinds := [], alts := [], laidByText := true, laidKinds := [.data, .pinned], laidTests := true, laidLooks := .later }
def TableGoodCardSaid : Prop := Claim7.holds Tryd.pinned (.plain (OpenSpec.ofChange tableGoodSpec)) tableGoodCard

/-- THE TIED CARD OF 'cartouchelaw7.TableFields'. -/
def tableFieldsCard : Claim7 := { stood := { row := tableFieldsRow, standIns := [], harness := (true, "84a24611ba93a76b9ce1160a2deac2e67348e3a49468935696ae20e7a744d240"), looks := false }, kinds := [], alts := [], laidByText := true, laidKinds := [.data, .pinned], laidTests := true, laidLooks := .later }
def TableFieldsCardSaid : Prop := Claim7.holds Tryd.pinned (.plain (OpenSpec.ofChange tableFieldsSpec)) tableFieldsCard

/-- THE TIED CARD OF 'cartouchelaw7.TableSymbols'. -/
def tableSymbolsCard : Claim7 := { stood := { row := tableSymbolsRow, standIns := [], harness := (true, "84a24611ba93a76b9ce1160a2deac2e67348e3a49468935696ae20e7a744d240"), looks := false }, kinds := [], alts := [], laidByText := true, laidKinds := [.data, .pinned], laidTests := true, laidLooks := .later }
def TableSymbolsCardSaid : Prop := Claim7.holds Tryd.pinned (.plain (OpenSpec.ofChange tableSymbolsSpec)) tableSymbolsCard

/-- THE TIED CARD OF 'cartouchelaw18.EvolveDiffs'. -/
def evolveDiffsCard : Claim7 := { stood := { row := evolveDiffsRow, standIns := [], harness := (true, "84a24611ba93a76b9ce1160a2deac2e67348e3a49468935696ae20e7a744d240"), looks := false }, kinds := [], alts := [], laidByText := true, laidKinds := [.data, .pinned], laidTests := true, laidLooks := .later }
def EvolveDiffsCardSaid : Prop := Claim7.holds Tryd.pinned (.plain (OpenSpec.ofChange evolveDiffsSpec)) evolveDiffsCard

/-- THE TIED CARD OF 'cartouchelaw18.EvolveAdditive'. -/
def evolveAdditiveCard : Claim7 := { stood := { row := evolveAdditiveRow, standIns := [], harness := (true, "84a24611ba93a76b9ce1160a2deac2e67348e3a49468935696ae20e7a744d240"), looks := false }, kinds := [], alts := [], laidByText := true, laidKinds := [.data, .pinned], laidTests := true, laidLooks := .later }
def EvolveAdditiveCardSaid : Prop := Claim7.holds Tryd.pinned (.plain (OpenSpec.ofChange evolveAdditiveSpec)) evolveAdditiveCard

/-- THE TIED CARD OF 'cartouchelaw18.EvolveChains'. -/
def evolveChainsCard : Claim7 := { stood := { row := evolveChainsRow, standIns := [], harness := (true, "84a24611ba93a76b9ce1160a2deac2e67348e3a49468935696ae20e7a744d240"), looks := false }, kinds := [], alts := [], laidByText := true, laidKinds := [.data, .pinned], laidTests := true, laidLooks := .later }
def EvolveChainsCardSaid : Prop := Claim7.holds Tryd.pinned (.plain (OpenSpec.ofChange evolveChainsSpec)) evolveChainsCard

/-- THE TIED CARD OF 'cartouchelaw18.EvolveFresh'. -/
def evolveFreshCard : Claim7 := { stood := { row := evolveFreshRow, standIns := [], harness := (true, "84a24611ba93a76b9ce1160a2deac2e67348e3a49468935696ae20e7a744d240"), looks := false }, kinds := [], alts := [], laidByText := true, laidKinds := [.data, .pinned], laidTests := true, laidLooks := .later }
def EvolveFreshCardSaid : Prop := Claim7.holds Tryd.pinned (.plain (OpenSpec.ofChange evolveFreshSpec)) evolveFreshCard

/-- THE SECOND FORM's CARD OF 'cartouchelaw7.TableGood'. -/
def tableGoodUptoCard : Claim7 := { stood := { row := tableGoodUptoRow, standIns := [], harness := (true, "84a24611ba93a76b9ce1160a2deac2e67348e3a49468935696ae20e7a744d240"), looks := false }, kinds := [], alts := [], laidByText := true, laidKinds := [.data, .pinned], laidTests := true, laidLooks := .later }
def TableGoodUptoCardSaid : Prop := Claim7.holds Tryd.pinned (.plain (OpenSpec.upto tableGoodSpec)) tableGoodUptoCard

/-- THE SECOND FORM's CARD OF 'cartouchelaw7.TableFields'. -/
def tableFieldsUptoCard : Claim7 := { stood := { row := tableFieldsUptoRow, standIns := [], harness := (true, "84a24611ba93a76b9ce1160a2deac2e67348e3a49468935696ae20e7a744d240"), looks := false }, kinds := [], alts := [], laidByText := true, laidKinds := [.data, .pinned], laidTests := true, laidLooks := .later }
def TableFieldsUptoCardSaid : Prop := Claim7.holds Tryd.pinned (.plain (OpenSpec.upto tableFieldsSpec)) tableFieldsUptoCard

/-- THE SECOND FORM's CARD OF 'cartouchelaw7.TableSymbols'. -/
def tableSymbolsUptoCard : Claim7 := { stood := { row := tableSymbolsUptoRow, standIns := [], harness := (true, "84a24611ba93a76b9ce1160a2deac2e67348e3a49468935696ae20e7a744d240"), looks := false }, kinds := [], alts := [], laidByText := true, laidKinds := [.data, .pinned], laidTests := true, laidLooks := .later }
def TableSymbolsUptoCardSaid : Prop := Claim7.holds Tryd.pinned (.plain (OpenSpec.upto tableSymbolsSpec)) tableSymbolsUptoCard

/-- THE SECOND FORM's CARD OF 'cartouchelaw18.EvolveDiffs'. -/
def evolveDiffsUptoCard : Claim7 := { stood := { row := evolveDiffsUptoRow, standIns := [], harness := (true, "84a24611ba93a76b9ce1160a2deac2e67348e3a49468935696ae20e7a744d240"), looks := false }, kinds := [], alts := [], laidByText := true, laidKinds := [.data, .pinned], laidTests := true, laidLooks := .later }
def EvolveDiffsUptoCardSaid : Prop := Claim7.holds Tryd.pinned (.plain (OpenSpec.upto evolveDiffsSpec)) evolveDiffsUptoCard

/-- THE SECOND FORM's CARD OF 'cartouchelaw18.EvolveAdditive'. -/
def evolveAdditiveUptoCard : Claim7 := { stood := { row := evolveAdditiveUptoRow, standIns := [], harness := (true, "84a24611ba93a76b9ce1160a2deac2e67348e3a49468935696ae20e7a744d240"), looks := false }, kinds := [], alts := [], laidByText := true, laidKinds := [.data, .pinned], laidTests := true, laidLooks := .later }
def EvolveAdditiveUptoCardSaid : Prop := Claim7.holds Tryd.pinned (.plain (OpenSpec.upto evolveAdditiveSpec)) evolveAdditiveUptoCard

/-- THE SECOND FORM's CARD OF 'cartouchelaw18.EvolveChains'. -/
def evolveChainsUptoCard : Claim7 := { stood := { row := evolveChainsUptoRow, standIns := [], harness := (true, "84a24611ba93a76b9ce1160a2deac2e67348e3a49468935696ae20e7a744d240"), looks := false }, kinds := [], alts := [], laidByText := true, laidKinds := [.data, .pinned], laidTests := true, laidLooks := .later }
def EvolveChainsUptoCardSaid : Prop := Claim7.holds Tryd.pinned (.plain (OpenSpec.upto evolveChainsSpec)) evolveChainsUptoCard

/-- THE SECOND FORM's CARD OF 'cartouchelaw18.EvolveFresh'. -/
def evolveFreshUptoCard : Claim7 := { stood := { row := evolveFreshUptoRow, standIns := [], harness := (true, "84a24611ba93a76b9ce1160a2deac2e67348e3a49468935696ae20e7a744d240"), looks := false }, kinds := [], alts := [], laidByText := true, laidKinds := [.data, .pinned], laidTests := true, laidLooks := .later }
def EvolveFreshUptoCardSaid : Prop := Claim7.holds Tryd.pinned (.plain (OpenSpec.upto evolveFreshSpec)) evolveFreshUptoCard
end Rows
end Go.Proofs.YtmdkcapbahjipaaDoor
