/-
  No cell of these rows narrows 'for every input' (looked for: loops, veiled, ifaces, maps, wideKeys, modest, calm, conditions, laid).
  DERIVED. THE GIVEN ROWS OF THIS SEAT. 12 by the template 'for every input the law returns true; each argument reads behind the call as it read before'; 0 by the template 'total and deterministic' (their statements: YtgebfcdcpmmgnaaTotals.lean).
  GIVEN WITH THE SEED: the statements are not yours to turn. If you find one false, say at which input.
  Laid BY PROGRAM, IN A SANDBOX (cutbox-rows.mjs): the forced cells as the released guide's own fill.sh prints them over the translation 3fef75b37f4b65fa… (all of the seat's roots in one cut). By AI agents, Wed Nov 11 2026. No macro, syntax, notation, axiom, sorry.
-/
import Derived.Test.YtgebfcdcpmmgnaaChecked
import GoSem.Claim
import GoSem.ClaimJoined
import GoSem.ClaimMapViews
import Derived.JoinedTies
import Derived.KernelRfl
namespace Go.Proofs.Ytgebfcdcpmmgnaa
/- THE CELL 'sum', in the pinned program and in every row, IS THE sha256 OF THE DUMP (.gsa) THAT YtgebfcdcpmmgnaaProg.lean LOADS. Nothing in Lean hashes anything: it is a label: what it is worth is what the hold of that sum in a sandbox is worth. -/
noncomputable def Try.pinned : Pinned := { name := "ytgebfcdcpmmgnaa", sum := "3fef75b37f4b65faeba03e50a0fcf6f4e7facbc60ba3c28da09fe5111e0badf9", checked := Try.checked }
namespace Rows
def none {H : Type} : Left H := { results := [], args := [] }

/-- 'davitlaw04.FragCuts': WHATEVER THE INPUT: true; the input reads as it did. -/
def fragCutsSpec : ChangeSpec := { name := "fragCuts", fn := fun _ => fun
  | [d1, d2, d3] => { results := [.lit (.bool true)], args := [d1, d2, d3] }
  | _ => none }
def fragCutsRow : OpenClaim := { program := "ytgebfcdcpmmgnaa", sum := "3fef75b37f4b65faeba03e50a0fcf6f4e7facbc60ba3c28da09fe5111e0badf9", func := "davit/davitlaw04.FragCuts", spec := "fragCuts", unfollowed := true, recurses := true, apart := false }
def FragCutsSaid : Prop := fragCutsRow.holds Try.pinned (OpenSpec.ofChange fragCutsSpec)

/-- ITS FALSE NEIGHBOUR: 'it returns false'. Refute it at one input. -/
def fragCutsWrong : ChangeSpec := { name := "fragCuts", fn := fun _ => fun
  | [d1, d2, d3] => { results := [.lit (.bool false)], args := [d1, d2, d3] }
  | _ => none }
def FragCutsWrongFalsely : Prop := fragCutsRow.holds Try.pinned (OpenSpec.ofChange fragCutsWrong)

/-- 'davitlaw04.FragBack': WHATEVER THE INPUT: true; the input reads as it did. -/
def fragBackSpec : ChangeSpec := { name := "fragBack", fn := fun _ => fun
  | [d1, d2] => { results := [.lit (.bool true)], args := [d1, d2] }
  | _ => none }
def fragBackRow : OpenClaim := { program := "ytgebfcdcpmmgnaa", sum := "3fef75b37f4b65faeba03e50a0fcf6f4e7facbc60ba3c28da09fe5111e0badf9", func := "davit/davitlaw04.FragBack", spec := "fragBack", unfollowed := true, recurses := true, apart := false }
def FragBackSaid : Prop := fragBackRow.holds Try.pinned (OpenSpec.ofChange fragBackSpec)

/-- ITS FALSE NEIGHBOUR: 'it returns false'. Refute it at one input. -/
def fragBackWrong : ChangeSpec := { name := "fragBack", fn := fun _ => fun
  | [d1, d2] => { results := [.lit (.bool false)], args := [d1, d2] }
  | _ => none }
def FragBackWrongFalsely : Prop := fragBackRow.holds Try.pinned (OpenSpec.ofChange fragBackWrong)

/-- 'davitlaw11.LexAlone': WHATEVER THE INPUT: true; the input reads as it did. -/
def lexAloneSpec : ChangeSpec := { name := "lexAlone", fn := fun _ => fun
  | [d1, d2] => { results := [.lit (.bool true)], args := [d1, d2] }
  | _ => none }
def lexAloneRow : OpenClaim := { program := "ytgebfcdcpmmgnaa", sum := "3fef75b37f4b65faeba03e50a0fcf6f4e7facbc60ba3c28da09fe5111e0badf9", func := "davit/davitlaw11.LexAlone", spec := "lexAlone", unfollowed := true, recurses := true, apart := false }
def LexAloneSaid : Prop := lexAloneRow.holds Try.pinned (OpenSpec.ofChange lexAloneSpec)

/-- ITS FALSE NEIGHBOUR: 'it returns false'. Refute it at one input. -/
def lexAloneWrong : ChangeSpec := { name := "lexAlone", fn := fun _ => fun
  | [d1, d2] => { results := [.lit (.bool false)], args := [d1, d2] }
  | _ => none }
def LexAloneWrongFalsely : Prop := lexAloneRow.holds Try.pinned (OpenSpec.ofChange lexAloneWrong)

/-- 'davitlaw13.VarsFill': WHATEVER THE INPUT: true; the input reads as it did. -/
def varsFillSpec : ChangeSpec := { name := "varsFill", fn := fun _ => fun
  | [d1, d2, d3] => { results := [.lit (.bool true)], args := [d1, d2, d3] }
  | _ => none }
def varsFillRow : OpenClaim := { program := "ytgebfcdcpmmgnaa", sum := "3fef75b37f4b65faeba03e50a0fcf6f4e7facbc60ba3c28da09fe5111e0badf9", func := "davit/davitlaw13.VarsFill", spec := "varsFill", unfollowed := true, recurses := true, apart := false }
def VarsFillSaid : Prop := varsFillRow.holds Try.pinned (OpenSpec.ofChange varsFillSpec)

/-- ITS FALSE NEIGHBOUR: 'it returns false'. Refute it at one input. -/
def varsFillWrong : ChangeSpec := { name := "varsFill", fn := fun _ => fun
  | [d1, d2, d3] => { results := [.lit (.bool false)], args := [d1, d2, d3] }
  | _ => none }
def VarsFillWrongFalsely : Prop := varsFillRow.holds Try.pinned (OpenSpec.ofChange varsFillWrong)

/-- 'davitlaw13.VarsPlain': WHATEVER THE INPUT: true; the input reads as it did. -/
def varsPlainSpec : ChangeSpec := { name := "varsPlain", fn := fun _ => fun
  | [d1, d2, d3] => { results := [.lit (.bool true)], args := [d1, d2, d3] }
  | _ => none }
def varsPlainRow : OpenClaim := { program := "ytgebfcdcpmmgnaa", sum := "3fef75b37f4b65faeba03e50a0fcf6f4e7facbc60ba3c28da09fe5111e0badf9", func := "davit/davitlaw13.VarsPlain", spec := "varsPlain", unfollowed := true, recurses := true, apart := false }
def VarsPlainSaid : Prop := varsPlainRow.holds Try.pinned (OpenSpec.ofChange varsPlainSpec)

/-- ITS FALSE NEIGHBOUR: 'it returns false'. Refute it at one input. -/
def varsPlainWrong : ChangeSpec := { name := "varsPlain", fn := fun _ => fun
  | [d1, d2, d3] => { results := [.lit (.bool false)], args := [d1, d2, d3] }
  | _ => none }
def VarsPlainWrongFalsely : Prop := varsPlainRow.holds Try.pinned (OpenSpec.ofChange varsPlainWrong)

/-- 'davitlaw12.RunbookJoins': WHATEVER THE INPUT: true; the input reads as it did. -/
def runbookJoinsSpec : ChangeSpec := { name := "runbookJoins", fn := fun _ => fun
  | [d1, d2] => { results := [.lit (.bool true)], args := [d1, d2] }
  | _ => none }
def runbookJoinsRow : OpenClaim := { program := "ytgebfcdcpmmgnaa", sum := "3fef75b37f4b65faeba03e50a0fcf6f4e7facbc60ba3c28da09fe5111e0badf9", func := "davit/davitlaw12.RunbookJoins", spec := "runbookJoins", unfollowed := true, recurses := true, apart := false }
def RunbookJoinsSaid : Prop := runbookJoinsRow.holds Try.pinned (OpenSpec.ofChange runbookJoinsSpec)

/-- ITS FALSE NEIGHBOUR: 'it returns false'. Refute it at one input. -/
def runbookJoinsWrong : ChangeSpec := { name := "runbookJoins", fn := fun _ => fun
  | [d1, d2] => { results := [.lit (.bool false)], args := [d1, d2] }
  | _ => none }
def RunbookJoinsWrongFalsely : Prop := runbookJoinsRow.holds Try.pinned (OpenSpec.ofChange runbookJoinsWrong)

/-- 'davitlaw09.NfaBuilds': WHATEVER THE INPUT: true; the input reads as it did. -/
def nfaBuildsSpec : ChangeSpec := { name := "nfaBuilds", fn := fun _ => fun
  | [d] => { results := [.lit (.bool true)], args := [d] }
  | _ => none }
def nfaBuildsRow : OpenClaim := { program := "ytgebfcdcpmmgnaa", sum := "3fef75b37f4b65faeba03e50a0fcf6f4e7facbc60ba3c28da09fe5111e0badf9", func := "davit/davitlaw09.NfaBuilds", spec := "nfaBuilds", unfollowed := true, recurses := true, apart := false }
def NfaBuildsSaid : Prop := nfaBuildsRow.holds Try.pinned (OpenSpec.ofChange nfaBuildsSpec)

/-- ITS FALSE NEIGHBOUR: 'it returns false'. Refute it at one input. -/
def nfaBuildsWrong : ChangeSpec := { name := "nfaBuilds", fn := fun _ => fun
  | [d] => { results := [.lit (.bool false)], args := [d] }
  | _ => none }
def NfaBuildsWrongFalsely : Prop := nfaBuildsRow.holds Try.pinned (OpenSpec.ofChange nfaBuildsWrong)

/-- 'davitlaw09.NfaHas': WHATEVER THE INPUT: true; the input reads as it did. -/
def nfaHasSpec : ChangeSpec := { name := "nfaHas", fn := fun _ => fun
  | [d1, d2] => { results := [.lit (.bool true)], args := [d1, d2] }
  | _ => none }
def nfaHasRow : OpenClaim := { program := "ytgebfcdcpmmgnaa", sum := "3fef75b37f4b65faeba03e50a0fcf6f4e7facbc60ba3c28da09fe5111e0badf9", func := "davit/davitlaw09.NfaHas", spec := "nfaHas", unfollowed := true, recurses := true, apart := false }
def NfaHasSaid : Prop := nfaHasRow.holds Try.pinned (OpenSpec.ofChange nfaHasSpec)

/-- ITS FALSE NEIGHBOUR: 'it returns false'. Refute it at one input. -/
def nfaHasWrong : ChangeSpec := { name := "nfaHas", fn := fun _ => fun
  | [d1, d2] => { results := [.lit (.bool false)], args := [d1, d2] }
  | _ => none }
def NfaHasWrongFalsely : Prop := nfaHasRow.holds Try.pinned (OpenSpec.ofChange nfaHasWrong)

/-- 'davitlaw09.NfaPlaces': WHATEVER THE INPUT: true; the input reads as it did. -/
def nfaPlacesSpec : ChangeSpec := { name := "nfaPlaces", fn := fun _ => fun
  | [d] => { results := [.lit (.bool true)], args := [d] }
  | _ => none }
def nfaPlacesRow : OpenClaim := { program := "ytgebfcdcpmmgnaa", sum := "3fef75b37f4b65faeba03e50a0fcf6f4e7facbc60ba3c28da09fe5111e0badf9", func := "davit/davitlaw09.NfaPlaces", spec := "nfaPlaces", unfollowed := true, recurses := true, apart := false }
def NfaPlacesSaid : Prop := nfaPlacesRow.holds Try.pinned (OpenSpec.ofChange nfaPlacesSpec)

/-- ITS FALSE NEIGHBOUR: 'it returns false'. Refute it at one input. -/
def nfaPlacesWrong : ChangeSpec := { name := "nfaPlaces", fn := fun _ => fun
  | [d] => { results := [.lit (.bool false)], args := [d] }
  | _ => none }
def NfaPlacesWrongFalsely : Prop := nfaPlacesRow.holds Try.pinned (OpenSpec.ofChange nfaPlacesWrong)

/-- 'davitlaw10.SeekArms': WHATEVER THE INPUT: true; the input reads as it did. -/
def seekArmsSpec : ChangeSpec := { name := "seekArms", fn := fun _ => fun
  | [d] => { results := [.lit (.bool true)], args := [d] }
  | _ => none }
def seekArmsRow : OpenClaim := { program := "ytgebfcdcpmmgnaa", sum := "3fef75b37f4b65faeba03e50a0fcf6f4e7facbc60ba3c28da09fe5111e0badf9", func := "davit/davitlaw10.SeekArms", spec := "seekArms", unfollowed := true, recurses := true, apart := false }
def SeekArmsSaid : Prop := seekArmsRow.holds Try.pinned (OpenSpec.ofChange seekArmsSpec)

/-- ITS FALSE NEIGHBOUR: 'it returns false'. Refute it at one input. -/
def seekArmsWrong : ChangeSpec := { name := "seekArms", fn := fun _ => fun
  | [d] => { results := [.lit (.bool false)], args := [d] }
  | _ => none }
def SeekArmsWrongFalsely : Prop := seekArmsRow.holds Try.pinned (OpenSpec.ofChange seekArmsWrong)

/-- 'davitlaw10.SeekLooks': WHATEVER THE INPUT: true; the input reads as it did. -/
def seekLooksSpec : ChangeSpec := { name := "seekLooks", fn := fun _ => fun
  | [d1, d2] => { results := [.lit (.bool true)], args := [d1, d2] }
  | _ => none }
def seekLooksRow : OpenClaim := { program := "ytgebfcdcpmmgnaa", sum := "3fef75b37f4b65faeba03e50a0fcf6f4e7facbc60ba3c28da09fe5111e0badf9", func := "davit/davitlaw10.SeekLooks", spec := "seekLooks", unfollowed := true, recurses := true, apart := false }
def SeekLooksSaid : Prop := seekLooksRow.holds Try.pinned (OpenSpec.ofChange seekLooksSpec)

/-- ITS FALSE NEIGHBOUR: 'it returns false'. Refute it at one input. -/
def seekLooksWrong : ChangeSpec := { name := "seekLooks", fn := fun _ => fun
  | [d1, d2] => { results := [.lit (.bool false)], args := [d1, d2] }
  | _ => none }
def SeekLooksWrongFalsely : Prop := seekLooksRow.holds Try.pinned (OpenSpec.ofChange seekLooksWrong)

/-- 'davitlaw10.SeekStays': WHATEVER THE INPUT: true; the input reads as it did. -/
def seekStaysSpec : ChangeSpec := { name := "seekStays", fn := fun _ => fun
  | [d1, d2, d3] => { results := [.lit (.bool true)], args := [d1, d2, d3] }
  | _ => none }
def seekStaysRow : OpenClaim := { program := "ytgebfcdcpmmgnaa", sum := "3fef75b37f4b65faeba03e50a0fcf6f4e7facbc60ba3c28da09fe5111e0badf9", func := "davit/davitlaw10.SeekStays", spec := "seekStays", unfollowed := true, recurses := true, apart := false }
def SeekStaysSaid : Prop := seekStaysRow.holds Try.pinned (OpenSpec.ofChange seekStaysSpec)

/-- ITS FALSE NEIGHBOUR: 'it returns false'. Refute it at one input. -/
def seekStaysWrong : ChangeSpec := { name := "seekStays", fn := fun _ => fun
  | [d1, d2, d3] => { results := [.lit (.bool false)], args := [d1, d2, d3] }
  | _ => none }
def SeekStaysWrongFalsely : Prop := seekStaysRow.holds Try.pinned (OpenSpec.ofChange seekStaysWrong)

/- THE SECOND FORM. 'bulk': how many values and letters a reading holds, each counted each time it is reached (what is shared counts as often as it is met; a slice's spare places count too). A statement '..UptoSaid' is the law's where the arguments, and the package variables that the reading takes, are together of bulk at most 1048576: NARROWER than '..Said'. Prove '..Said' where nothing that the law and all that it calls make is longer than what came in: it says more and counts as full. Else prove '..UptoSaid'. A law counts once. -/
mutual
def uptoBulk {H : Type} : DataW H → Nat
  | .lit (.string bytes) => bytes.length + 1
  | .lit _ => 1
  | .nil => 1
  | .ptr d => uptoBulk d + 1
  | .slice elems spare => uptoBulkAll elems + uptoBulkAll spare + 1
  | .agg parts => uptoBulkAll parts + 1
  | .iface _ d => uptoBulk d + 1
  | .map entries => uptoBulkEntries entries + 1
  | .held _ => 1
def uptoBulkAll {H : Type} : List (DataW H) → Nat
  | [] => 0
  | d :: r => uptoBulk d + uptoBulkAll r
def uptoBulkEntries {H : Type} : List (Lit × DataW H) → Nat
  | [] => 0
  | x :: r => uptoBulkEntry x + uptoBulkEntries r
def uptoBulkEntry {H : Type} : Lit × DataW H → Nat
  | (.string bytes, d) => bytes.length + uptoBulk d + 1
  | (_, d) => uptoBulk d + 1
 end
def uptoSmall : (H : Type) → List (DataW H) → Bool := fun _ ds => decide (uptoBulkAll ds ≤ 1048576)
def OpenSpec.upto (s : _root_.Go.ChangeSpec) : _root_.Go.OpenSpec := { _root_.Go.OpenSpec.ofChange s with cond := some uptoSmall }

/-- 'davitlaw04.FragCuts', WHERE WHAT IT READS IS OF BULK AT MOST 1048576: true; the input reads as it did. -/
def fragCutsUptoRow : OpenClaim := { program := "ytgebfcdcpmmgnaa", sum := "3fef75b37f4b65faeba03e50a0fcf6f4e7facbc60ba3c28da09fe5111e0badf9", func := "davit/davitlaw04.FragCuts", spec := "fragCuts", unfollowed := true, recurses := true, apart := false, narrowed := true }
def FragCutsUptoSaid : Prop := fragCutsUptoRow.holds Try.pinned (OpenSpec.upto fragCutsSpec)

/-- 'davitlaw04.FragBack', WHERE WHAT IT READS IS OF BULK AT MOST 1048576: true; the input reads as it did. -/
def fragBackUptoRow : OpenClaim := { program := "ytgebfcdcpmmgnaa", sum := "3fef75b37f4b65faeba03e50a0fcf6f4e7facbc60ba3c28da09fe5111e0badf9", func := "davit/davitlaw04.FragBack", spec := "fragBack", unfollowed := true, recurses := true, apart := false, narrowed := true }
def FragBackUptoSaid : Prop := fragBackUptoRow.holds Try.pinned (OpenSpec.upto fragBackSpec)

/-- 'davitlaw11.LexAlone', WHERE WHAT IT READS IS OF BULK AT MOST 1048576: true; the input reads as it did. -/
def lexAloneUptoRow : OpenClaim := { program := "ytgebfcdcpmmgnaa", sum := "3fef75b37f4b65faeba03e50a0fcf6f4e7facbc60ba3c28da09fe5111e0badf9", func := "davit/davitlaw11.LexAlone", spec := "lexAlone", unfollowed := true, recurses := true, apart := false, narrowed := true }
def LexAloneUptoSaid : Prop := lexAloneUptoRow.holds Try.pinned (OpenSpec.upto lexAloneSpec)

/-- 'davitlaw13.VarsFill', WHERE WHAT IT READS IS OF BULK AT MOST 1048576: true; the input reads as it did. -/
def varsFillUptoRow : OpenClaim := { program := "ytgebfcdcpmmgnaa", sum := "3fef75b37f4b65faeba03e50a0fcf6f4e7facbc60ba3c28da09fe5111e0badf9", func := "davit/davitlaw13.VarsFill", spec := "varsFill", unfollowed := true, recurses := true, apart := false, narrowed := true }
def VarsFillUptoSaid : Prop := varsFillUptoRow.holds Try.pinned (OpenSpec.upto varsFillSpec)

/-- 'davitlaw13.VarsPlain', WHERE WHAT IT READS IS OF BULK AT MOST 1048576: true; the input reads as it did. -/
def varsPlainUptoRow : OpenClaim := { program := "ytgebfcdcpmmgnaa", sum := "3fef75b37f4b65faeba03e50a0fcf6f4e7facbc60ba3c28da09fe5111e0badf9", func := "davit/davitlaw13.VarsPlain", spec := "varsPlain", unfollowed := true, recurses := true, apart := false, narrowed := true }
def VarsPlainUptoSaid : Prop := varsPlainUptoRow.holds Try.pinned (OpenSpec.upto varsPlainSpec)

/-- 'davitlaw12.RunbookJoins', WHERE WHAT IT READS IS OF BULK AT MOST 1048576: true; the input reads as it did. -/
def runbookJoinsUptoRow : OpenClaim := { program := "ytgebfcdcpmmgnaa", sum := "3fef75b37f4b65faeba03e50a0fcf6f4e7facbc60ba3c28da09fe5111e0badf9", func := "davit/davitlaw12.RunbookJoins", spec := "runbookJoins", unfollowed := true, recurses := true, apart := false, narrowed := true }
def RunbookJoinsUptoSaid : Prop := runbookJoinsUptoRow.holds Try.pinned (OpenSpec.upto runbookJoinsSpec)

/-- 'davitlaw09.NfaBuilds', WHERE WHAT IT READS IS OF BULK AT MOST 1048576: true; the input reads as it did. -/
def nfaBuildsUptoRow : OpenClaim := { program := "ytgebfcdcpmmgnaa", sum := "3fef75b37f4b65faeba03e50a0fcf6f4e7facbc60ba3c28da09fe5111e0badf9", func := "davit/davitlaw09.NfaBuilds", spec := "nfaBuilds", unfollowed := true, recurses := true, apart := false, narrowed := true }
def NfaBuildsUptoSaid : Prop := nfaBuildsUptoRow.holds Try.pinned (OpenSpec.upto nfaBuildsSpec)

/-- 'davitlaw09.NfaHas', WHERE WHAT IT READS IS OF BULK AT MOST 1048576: true; the input reads as it did. -/
def nfaHasUptoRow : OpenClaim := { program := "ytgebfcdcpmmgnaa", sum := "3fef75b37f4b65faeba03e50a0fcf6f4e7facbc60ba3c28da09fe5111e0badf9", func := "davit/davitlaw09.NfaHas", spec := "nfaHas", unfollowed := true, recurses := true, apart := false, narrowed := true }
def NfaHasUptoSaid : Prop := nfaHasUptoRow.holds Try.pinned (OpenSpec.upto nfaHasSpec)

/-- 'davitlaw09.NfaPlaces', WHERE WHAT IT READS IS OF BULK AT MOST 1048576: true; the input reads as it did. -/
def nfaPlacesUptoRow : OpenClaim := { program := "ytgebfcdcpmmgnaa", sum := "3fef75b37f4b65faeba03e50a0fcf6f4e7facbc60ba3c28da09fe5111e0badf9", func := "davit/davitlaw09.NfaPlaces", spec := "nfaPlaces", unfollowed := true, recurses := true, apart := false, narrowed := true }
def NfaPlacesUptoSaid : Prop := nfaPlacesUptoRow.holds Try.pinned (OpenSpec.upto nfaPlacesSpec)

/-- 'davitlaw10.SeekArms', WHERE WHAT IT READS IS OF BULK AT MOST 1048576: true; the input reads as it did. -/
def seekArmsUptoRow : OpenClaim := { program := "ytgebfcdcpmmgnaa", sum := "3fef75b37f4b65faeba03e50a0fcf6f4e7facbc60ba3c28da09fe5111e0badf9", func := "davit/davitlaw10.SeekArms", spec := "seekArms", unfollowed := true, recurses := true, apart := false, narrowed := true }
def SeekArmsUptoSaid : Prop := seekArmsUptoRow.holds Try.pinned (OpenSpec.upto seekArmsSpec)

/-- 'davitlaw10.SeekLooks', WHERE WHAT IT READS IS OF BULK AT MOST 1048576: true; the input reads as it did. -/
def seekLooksUptoRow : OpenClaim := { program := "ytgebfcdcpmmgnaa", sum := "3fef75b37f4b65faeba03e50a0fcf6f4e7facbc60ba3c28da09fe5111e0badf9", func := "davit/davitlaw10.SeekLooks", spec := "seekLooks", unfollowed := true, recurses := true, apart := false, narrowed := true }
def SeekLooksUptoSaid : Prop := seekLooksUptoRow.holds Try.pinned (OpenSpec.upto seekLooksSpec)

/-- 'davitlaw10.SeekStays', WHERE WHAT IT READS IS OF BULK AT MOST 1048576: true; the input reads as it did. -/
def seekStaysUptoRow : OpenClaim := { program := "ytgebfcdcpmmgnaa", sum := "3fef75b37f4b65faeba03e50a0fcf6f4e7facbc60ba3c28da09fe5111e0badf9", func := "davit/davitlaw10.SeekStays", spec := "seekStays", unfollowed := true, recurses := true, apart := false, narrowed := true }
def SeekStaysUptoSaid : Prop := seekStaysUptoRow.holds Try.pinned (OpenSpec.upto seekStaysSpec)

end Rows
end Go.Proofs.Ytgebfcdcpmmgnaa
