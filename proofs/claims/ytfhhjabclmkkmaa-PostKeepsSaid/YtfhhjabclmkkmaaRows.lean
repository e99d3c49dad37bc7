/-
  No cell of these rows narrows 'for every input' (looked for: loops, veiled, ifaces, maps, wideKeys, modest, calm, conditions, laid).
  DERIVED. THE GIVEN ROWS OF THIS SEAT. 6 by the template 'for every input the law returns true; each argument reads behind the call as it read before'; 0 by the template 'total and deterministic' (their statements: YtfhhjabclmkkmaaTotals.lean).
  GIVEN WITH THE SEED: the statements are not yours to turn. If you find one false, say at which input.
  Laid BY PROGRAM, IN A SANDBOX (cutbox-rows.mjs): the forced cells as the released guide's own fill.sh prints them over the translation 1d6718f6bebdcf6d… (all of the seat's roots in one cut). By AI agents, Wed Nov 11 2026. No macro, syntax, notation, axiom, sorry.
-/
import Derived.Test.YtfhhjabclmkkmaaChecked
import GoSem.Claim
import GoSem.ClaimJoined
import GoSem.ClaimMapViews
import Derived.JoinedTies
import Derived.KernelRfl
namespace Go.Proofs.Ytfhhjabclmkkmaa
/- THE CELL 'sum', in the pinned program and in every row, IS THE sha256 OF THE DUMP (.gsa) THAT YtfhhjabclmkkmaaProg.lean LOADS. Nothing in Lean hashes anything: it is a label: what it is worth is what the hold of that sum in a sandbox is worth. -/
noncomputable def Try.pinned : Pinned := { name := "ytfhhjabclmkkmaa", sum := "1d6718f6bebdcf6df43a151a3b9d1c971d3ce9103e18c65cbc19edbf0794b96f", checked := Try.checked }
namespace Rows
def none {H : Type} : Left H := { results := [], args := [] }

/-- 'kithlaw15.ShelfFrom': WHATEVER THE INPUT: true; the input reads as it did. -/
def shelfFromSpec : ChangeSpec := { name := "shelfFrom", fn := fun _ => fun
  | [d1, d2, d3] => { results := [.lit (.bool true)], args := [d1, d2, d3] }
  | _ => none }
def shelfFromRow : OpenClaim := { program := "ytfhhjabclmkkmaa", sum := "1d6718f6bebdcf6df43a151a3b9d1c971d3ce9103e18c65cbc19edbf0794b96f", func := "kith/kithlaw15.ShelfFrom", spec := "shelfFrom", unfollowed := true, recurses := true, apart := false }
def ShelfFromSaid : Prop := shelfFromRow.holds Try.pinned (OpenSpec.ofChange shelfFromSpec)

/-- ITS FALSE NEIGHBOUR: 'it returns false'. Refute it at one input. -/
def shelfFromWrong : ChangeSpec := { name := "shelfFrom", fn := fun _ => fun
  | [d1, d2, d3] => { results := [.lit (.bool false)], args := [d1, d2, d3] }
  | _ => none }
def ShelfFromWrongFalsely : Prop := shelfFromRow.holds Try.pinned (OpenSpec.ofChange shelfFromWrong)

/-- 'kithlaw15.ShelfCuts': WHATEVER THE INPUT: true; the input reads as it did. -/
def shelfCutsSpec : ChangeSpec := { name := "shelfCuts", fn := fun _ => fun
  | [d1, d2, d3] => { results := [.lit (.bool true)], args := [d1, d2, d3] }
  | _ => none }
def shelfCutsRow : OpenClaim := { program := "ytfhhjabclmkkmaa", sum := "1d6718f6bebdcf6df43a151a3b9d1c971d3ce9103e18c65cbc19edbf0794b96f", func := "kith/kithlaw15.ShelfCuts", spec := "shelfCuts", unfollowed := true, recurses := true, apart := false }
def ShelfCutsSaid : Prop := shelfCutsRow.holds Try.pinned (OpenSpec.ofChange shelfCutsSpec)

/-- ITS FALSE NEIGHBOUR: 'it returns false'. Refute it at one input. -/
def shelfCutsWrong : ChangeSpec := { name := "shelfCuts", fn := fun _ => fun
  | [d1, d2, d3] => { results := [.lit (.bool false)], args := [d1, d2, d3] }
  | _ => none }
def ShelfCutsWrongFalsely : Prop := shelfCutsRow.holds Try.pinned (OpenSpec.ofChange shelfCutsWrong)

/-- 'kithlaw16.PostKeeps': WHATEVER THE INPUT: true; the input reads as it did. -/
def postKeepsSpec : ChangeSpec := { name := "postKeeps", fn := fun _ => fun
  | [d1, d2, d3] => { results := [.lit (.bool true)], args := [d1, d2, d3] }
  | _ => none }
def postKeepsRow : OpenClaim := { program := "ytfhhjabclmkkmaa", sum := "1d6718f6bebdcf6df43a151a3b9d1c971d3ce9103e18c65cbc19edbf0794b96f", func := "kith/kithlaw16.PostKeeps", spec := "postKeeps", unfollowed := true, recurses := true, apart := false }
def PostKeepsSaid : Prop := postKeepsRow.holds Try.pinned (OpenSpec.ofChange postKeepsSpec)

/-- ITS FALSE NEIGHBOUR: 'it returns false'. Refute it at one input. -/
def postKeepsWrong : ChangeSpec := { name := "postKeeps", fn := fun _ => fun
  | [d1, d2, d3] => { results := [.lit (.bool false)], args := [d1, d2, d3] }
  | _ => none }
def PostKeepsWrongFalsely : Prop := postKeepsRow.holds Try.pinned (OpenSpec.ofChange postKeepsWrong)

/-- 'kithlaw16.PostAgain': WHATEVER THE INPUT: true; the input reads as it did. -/
def postAgainSpec : ChangeSpec := { name := "postAgain", fn := fun _ => fun
  | [d1, d2] => { results := [.lit (.bool true)], args := [d1, d2] }
  | _ => none }
def postAgainRow : OpenClaim := { program := "ytfhhjabclmkkmaa", sum := "1d6718f6bebdcf6df43a151a3b9d1c971d3ce9103e18c65cbc19edbf0794b96f", func := "kith/kithlaw16.PostAgain", spec := "postAgain", unfollowed := true, recurses := true, apart := false }
def PostAgainSaid : Prop := postAgainRow.holds Try.pinned (OpenSpec.ofChange postAgainSpec)

/-- ITS FALSE NEIGHBOUR: 'it returns false'. Refute it at one input. -/
def postAgainWrong : ChangeSpec := { name := "postAgain", fn := fun _ => fun
  | [d1, d2] => { results := [.lit (.bool false)], args := [d1, d2] }
  | _ => none }
def PostAgainWrongFalsely : Prop := postAgainRow.holds Try.pinned (OpenSpec.ofChange postAgainWrong)

/-- 'kithlaw16.PostApart': WHATEVER THE INPUT: true; the input reads as it did. -/
def postApartSpec : ChangeSpec := { name := "postApart", fn := fun _ => fun
  | [d1, d2] => { results := [.lit (.bool true)], args := [d1, d2] }
  | _ => none }
def postApartRow : OpenClaim := { program := "ytfhhjabclmkkmaa", sum := "1d6718f6bebdcf6df43a151a3b9d1c971d3ce9103e18c65cbc19edbf0794b96f", func := "kith/kithlaw16.PostApart", spec := "postApart", unfollowed := true, recurses := true, apart := false }
def PostApartSaid : Prop := postApartRow.holds Try.pinned (OpenSpec.ofChange postApartSpec)

/-- ITS FALSE NEIGHBOUR: 'it returns false'. Refute it at one input. -/
def postApartWrong : ChangeSpec := { name := "postApart", fn := fun _ => fun
  | [d1, d2] => { results := [.lit (.bool false)], args := [d1, d2] }
  | _ => none }
def PostApartWrongFalsely : Prop := postApartRow.holds Try.pinned (OpenSpec.ofChange postApartWrong)

/-- 'kithlaw16.PostWaits': WHATEVER THE INPUT: true; the input reads as it did. -/
def postWaitsSpec : ChangeSpec := { name := "postWaits", fn := fun _ => fun
  | [d1, d2, d3] => { results := [.lit (.bool true)], args := [d1, d2, d3] }
  | _ => none }
def postWaitsRow : OpenClaim := { program := "ytfhhjabclmkkmaa", sum := "1d6718f6bebdcf6df43a151a3b9d1c971d3ce9103e18c65cbc19edbf0794b96f", func := "kith/kithlaw16.PostWaits", spec := "postWaits", unfollowed := true, recurses := true, apart := false }
def PostWaitsSaid : Prop := postWaitsRow.holds Try.pinned (OpenSpec.ofChange postWaitsSpec)

/-- ITS FALSE NEIGHBOUR: 'it returns false'. Refute it at one input. -/
def postWaitsWrong : ChangeSpec := { name := "postWaits", fn := fun _ => fun
  | [d1, d2, d3] => { results := [.lit (.bool false)], args := [d1, d2, d3] }
  | _ => none }
def PostWaitsWrongFalsely : Prop := postWaitsRow.holds Try.pinned (OpenSpec.ofChange postWaitsWrong)

/- THE SECOND FORM. 'bulk': how many values and letters a reading holds, each counted each time it is reached (what is shared counts as often as it is met; a slice's spare places count too). A statement '..UptoSaid' is the law's where the arguments, and the package variables that the reading takes, are together of bulk at most 1048576: NARROWER than '..Said'. Prove '..Said' where nothing that the law and all that it calls make is longer than what came in: it says more and counts as full. Else prove '..UptoSaid'. A law counts once. -/
mutual
def uptoBulk {H : Type} : DataW H → Nat
  | .lit (.string bytes) => bytes.length + 1
  | .lit _ => 1
  | .nil => 1
  | .ptr d => uptoBulk d + 1
  | .slice elems spare => uptoBulkAll elems + uptoBulkAll spare + 1
  | .agg parts => uptoBulkAll parts + 1
  | .iface _ d => uptoBulk d + 1
  | .map entries => uptoBulkEntries entries + 1
  | .held _ => 1
def uptoBulkAll {H : Type} : List (DataW H) → Nat
  | [] => 0
  | d :: r => uptoBulk d + uptoBulkAll r
def uptoBulkEntries {H : Type} : List (Lit × DataW H) → Nat
  | [] => 0
  | x :: r => uptoBulkEntry x + uptoBulkEntries r
def uptoBulkEntry {H : Type} : Lit × DataW H → Nat
  | (.string bytes, d) => bytes.length + uptoBulk d + 1
  | (_, d) => uptoBulk d + 1
 end
def uptoSmall : (H : Type) → List (DataW H) → Bool := fun _ ds => decide (uptoBulkAll ds ≤ 1048576)
def OpenSpec.upto (s : _root_.Go.ChangeSpec) : _root_.Go.OpenSpec := { _root_.Go.OpenSpec.ofChange s with cond := some uptoSmall }

/-- 'kithlaw15.ShelfFrom', WHERE WHAT IT READS IS OF BULK AT MOST 1048576: true; the input reads as it did. -/
def shelfFromUptoRow : OpenClaim := { program := "ytfhhjabclmkkmaa", sum := "1d6718f6bebdcf6df43a151a3b9d1c971d3ce9103e18c65cbc19edbf0794b96f", func := "kith/kithlaw15.ShelfFrom", spec := "shelfFrom", unfollowed := true, recurses := true, apart := false, narrowed := true }
def ShelfFromUptoSaid : Prop := shelfFromUptoRow.holds Try.pinned (OpenSpec.upto shelfFromSpec)

/-- 'kithlaw15.ShelfCuts', WHERE WHAT IT READS IS OF BULK AT MOST 1048576: true; the input reads as it did. -/
def shelfCutsUptoRow : OpenClaim := { program := "ytfhhjabclmkkmaa", sum := "1d6718f6bebdcf6df43a151a3b9d1c971d3ce9103e18c65cbc19edbf0794b96f", func := "kith/kithlaw15.ShelfCuts", spec := "shelfCuts", unfollowed := true, recurses := true, apart := false, narrowed := true }
def ShelfCutsUptoSaid : Prop := shelfCutsUptoRow.holds Try.pinned (OpenSpec.upto shelfCutsSpec)

/-- 'kithlaw16.PostKeeps', WHERE WHAT IT READS IS OF BULK AT MOST 1048576: true; the input reads as it did. -/
def postKeepsUptoRow : OpenClaim := { program := "ytfhhjabclmkkmaa", sum := "1d6718f6bebdcf6df43a151a3b9d1c971d3ce9103e18c65cbc19edbf0794b96f", func := "kith/kithlaw16.PostKeeps", spec := "postKeeps", unfollowed := true, recurses := true, apart := false, narrowed := true }
def PostKeepsUptoSaid : Prop := postKeepsUptoRow.holds Try.pinned (OpenSpec.upto postKeepsSpec)

/-- 'kithlaw16.PostAgain', WHERE WHAT IT READS IS OF BULK AT MOST 1048576: true; the input reads as it did. -/
def postAgainUptoRow : OpenClaim := { program := "ytfhhjabclmkkmaa", sum := "1d6718f6bebdcf6df43a151a3b9d1c971d3ce9103e18c65cbc19edbf0794b96f", func := "kith/kithlaw16.PostAgain", spec := "postAgain", unfollowed := true, recurses := true, apart := false, narrowed := true }
def PostAgainUptoSaid : Prop := postAgainUptoRow.holds Try.pinned (OpenSpec.upto postAgainSpec)

/-- 'kithlaw16.PostApart', WHERE WHAT IT READS IS OF BULK AT MOST 1048576: true; the input reads as it did. -/
def postApartUptoRow : OpenClaim := { program := "ytfhhjabclmkkmaa", sum := "1d6718f6bebdcf6df43a151a3b9d1c971d3ce9103e18c65cbc19edbf0794b96f", func := "kith/kithlaw16.PostApart", spec := "postApart", unfollowed := true, recurses := true, apart := false, narrowed := true }
def PostApartUptoSaid : Prop := postApartUptoRow.holds Try.pinned (OpenSpec.upto postApartSpec)

/-- 'kithlaw16.PostWaits', WHERE WHAT IT READS IS OF BULK AT MOST 1048576: true; the input reads as it did. -/
def postWaitsUptoRow : OpenClaim := { program := "ytfhhjabclmkkmaa", sum := "1d6718f6bebdcf6df43a151a3b9d1c971d3ce9103e18c65cbc19edbf0794b96f", func := "kith/kithlaw16.PostWaits", spec := "postWaits", unfollowed := true, recurses := true, apart := false, narrowed := true }
def PostWaitsUptoSaid : Prop := postWaitsUptoRow.holds Try.pinned (OpenSpec.upto postWaitsSpec)

end Rows
end Go.Proofs.Ytfhhjabclmkkmaa
