/-
  No cell of these rows narrows 'for every input' (looked for: loops, veiled, ifaces, maps, wideKeys, modest, calm, conditions, laid).
  DERIVED. THE GIVEN ROWS OF THIS SEAT. 12 by the template 'for every input the law returns true; each argument reads behind the call as it read before'; 0 by the template 'total and deterministic' (their statements: YtpmbeldmclcjlaaTotals.lean).
  GIVEN WITH THE SEED: the statements are not yours to turn. If you find one false, say at which input.
  Laid BY PROGRAM, IN A SANDBOX (cutbox-rows.mjs): the forced cells as the released guide's own fill.sh prints them over the translation a105051f4bed9072… (all of the seat's roots in one cut). By AI agents, Wed Nov 11 2026. No macro, syntax, notation, axiom, sorry.
-/
import Derived.Test.YtpmbeldmclcjlaaChecked
import GoSem.Claim
import GoSem.ClaimJoined
import GoSem.ClaimMapViews
import Derived.JoinedTies
import Derived.KernelRfl
namespace Go.Proofs.Ytpmbeldmclcjlaa
/- THE CELL 'sum', in the pinned program and in every row, IS THE sha256 OF THE DUMP (.gsa) THAT YtpmbeldmclcjlaaProg.lean LOADS. Nothing in Lean hashes anything: it is a label: what it is worth is what the hold of that sum in a sandbox is worth. -/
noncomputable def Try.pinned : Pinned := { name := "ytpmbeldmclcjlaa", sum := "a105051f4bed9072e681eeb1f12490a058a6c9d5337d379cf306a2161dc44f6a", checked := Try.checked }
namespace Rows
def none {H : Type} : Left H := { results := [], args := [] }

/-- 'davitlaw16.FoldRises': WHATEVER THE INPUT: true; the input reads as it did. -/
def foldRisesSpec : ChangeSpec := { name := "foldRises", fn := fun _ => fun
  | [d1, d2] => { results := [.lit (.bool true)], args := [d1, d2] }
  | _ => none }
def foldRisesRow : OpenClaim := { program := "ytpmbeldmclcjlaa", sum := "a105051f4bed9072e681eeb1f12490a058a6c9d5337d379cf306a2161dc44f6a", func := "davit/davitlaw16.FoldRises", spec := "foldRises", unfollowed := true, recurses := true, apart := false }
def FoldRisesSaid : Prop := foldRisesRow.holds Try.pinned (OpenSpec.ofChange foldRisesSpec)

/-- ITS FALSE NEIGHBOUR: 'it returns false'. Refute it at one input. -/
def foldRisesWrong : ChangeSpec := { name := "foldRises", fn := fun _ => fun
  | [d1, d2] => { results := [.lit (.bool false)], args := [d1, d2] }
  | _ => none }
def FoldRisesWrongFalsely : Prop := foldRisesRow.holds Try.pinned (OpenSpec.ofChange foldRisesWrong)

/-- 'davitlaw15.RecordPuts': WHATEVER THE INPUT: true; the input reads as it did. -/
def recordPutsSpec : ChangeSpec := { name := "recordPuts", fn := fun _ => fun
  | [d] => { results := [.lit (.bool true)], args := [d] }
  | _ => none }
def recordPutsRow : OpenClaim := { program := "ytpmbeldmclcjlaa", sum := "a105051f4bed9072e681eeb1f12490a058a6c9d5337d379cf306a2161dc44f6a", func := "davit/davitlaw15.RecordPuts", spec := "recordPuts", unfollowed := true, recurses := true, apart := false }
def RecordPutsSaid : Prop := recordPutsRow.holds Try.pinned (OpenSpec.ofChange recordPutsSpec)

/-- ITS FALSE NEIGHBOUR: 'it returns false'. Refute it at one input. -/
def recordPutsWrong : ChangeSpec := { name := "recordPuts", fn := fun _ => fun
  | [d] => { results := [.lit (.bool false)], args := [d] }
  | _ => none }
def RecordPutsWrongFalsely : Prop := recordPutsRow.holds Try.pinned (OpenSpec.ofChange recordPutsWrong)

/-- 'davitlaw15.RecordGets': WHATEVER THE INPUT: true; the input reads as it did. -/
def recordGetsSpec : ChangeSpec := { name := "recordGets", fn := fun _ => fun
  | [d1, d2] => { results := [.lit (.bool true)], args := [d1, d2] }
  | _ => none }
def recordGetsRow : OpenClaim := { program := "ytpmbeldmclcjlaa", sum := "a105051f4bed9072e681eeb1f12490a058a6c9d5337d379cf306a2161dc44f6a", func := "davit/davitlaw15.RecordGets", spec := "recordGets", unfollowed := true, recurses := true, apart := false }
def RecordGetsSaid : Prop := recordGetsRow.holds Try.pinned (OpenSpec.ofChange recordGetsSpec)

/-- ITS FALSE NEIGHBOUR: 'it returns false'. Refute it at one input. -/
def recordGetsWrong : ChangeSpec := { name := "recordGets", fn := fun _ => fun
  | [d1, d2] => { results := [.lit (.bool false)], args := [d1, d2] }
  | _ => none }
def RecordGetsWrongFalsely : Prop := recordGetsRow.holds Try.pinned (OpenSpec.ofChange recordGetsWrong)

/-- 'davitlaw16.FoldAll': WHATEVER THE INPUT: true; the input reads as it did. -/
def foldAllSpec : ChangeSpec := { name := "foldAll", fn := fun _ => fun
  | [d1, d2] => { results := [.lit (.bool true)], args := [d1, d2] }
  | _ => none }
def foldAllRow : OpenClaim := { program := "ytpmbeldmclcjlaa", sum := "a105051f4bed9072e681eeb1f12490a058a6c9d5337d379cf306a2161dc44f6a", func := "davit/davitlaw16.FoldAll", spec := "foldAll", unfollowed := true, recurses := true, apart := false }
def FoldAllSaid : Prop := foldAllRow.holds Try.pinned (OpenSpec.ofChange foldAllSpec)

/-- ITS FALSE NEIGHBOUR: 'it returns false'. Refute it at one input. -/
def foldAllWrong : ChangeSpec := { name := "foldAll", fn := fun _ => fun
  | [d1, d2] => { results := [.lit (.bool false)], args := [d1, d2] }
  | _ => none }
def FoldAllWrongFalsely : Prop := foldAllRow.holds Try.pinned (OpenSpec.ofChange foldAllWrong)

/-- 'davitlaw09.NfaBuilds': WHATEVER THE INPUT: true; the input reads as it did. -/
def nfaBuildsSpec : ChangeSpec := { name := "nfaBuilds", fn := fun _ => fun
  | [d] => { results := [.lit (.bool true)], args := [d] }
  | _ => none }
def nfaBuildsRow : OpenClaim := { program := "ytpmbeldmclcjlaa", sum := "a105051f4bed9072e681eeb1f12490a058a6c9d5337d379cf306a2161dc44f6a", func := "davit/davitlaw09.NfaBuilds", spec := "nfaBuilds", unfollowed := true, recurses := true, apart := false }
def NfaBuildsSaid : Prop := nfaBuildsRow.holds Try.pinned (OpenSpec.ofChange nfaBuildsSpec)

/-- ITS FALSE NEIGHBOUR: 'it returns false'. Refute it at one input. -/
def nfaBuildsWrong : ChangeSpec := { name := "nfaBuilds", fn := fun _ => fun
  | [d] => { results := [.lit (.bool false)], args := [d] }
  | _ => none }
def NfaBuildsWrongFalsely : Prop := nfaBuildsRow.holds Try.pinned (OpenSpec.ofChange nfaBuildsWrong)

/-- 'davitlaw09.NfaHas': WHATEVER THE INPUT: true; the input reads as it did. -/
def nfaHasSpec : ChangeSpec := { name := "nfaHas", fn := fun _ => fun
  | [d1, d2] => { results := [.lit (.bool true)], args := [d1, d2] }
  | _ => none }
def nfaHasRow : OpenClaim := { program := "ytpmbeldmclcjlaa", sum := "a105051f4bed9072e681eeb1f12490a058a6c9d5337d379cf306a2161dc44f6a", func := "davit/davitlaw09.NfaHas", spec := "nfaHas", unfollowed := true, recurses := true, apart := false }
def NfaHasSaid : Prop := nfaHasRow.holds Try.pinned (OpenSpec.ofChange nfaHasSpec)

/-- ITS FALSE NEIGHBOUR: 'it returns false'. Refute it at one input. -/
def nfaHasWrong : ChangeSpec := { name := "nfaHas", fn := fun _ => fun
  | [d1, d2] => { results := [.lit (.bool false)], args := [d1, d2] }
  | _ => none }
def NfaHasWrongFalsely : Prop := nfaHasRow.holds Try.pinned (OpenSpec.ofChange nfaHasWrong)

/-- 'davitlaw09.NfaPlaces': WHATEVER THE INPUT: true; the input reads as it did. -/
def nfaPlacesSpec : ChangeSpec := { name := "nfaPlaces", fn := fun _ => fun
  | [d] => { results := [.lit (.bool true)], args := [d] }
  | _ => none }
def nfaPlacesRow : OpenClaim := { program := "ytpmbeldmclcjlaa", sum := "a105051f4bed9072e681eeb1f12490a058a6c9d5337d379cf306a2161dc44f6a", func := "davit/davitlaw09.NfaPlaces", spec := "nfaPlaces", unfollowed := true, recurses := true, apart := false }
def NfaPlacesSaid : Prop := nfaPlacesRow.holds Try.pinned (OpenSpec.ofChange nfaPlacesSpec)

/-- ITS FALSE NEIGHBOUR: 'it returns false'. Refute it at one input. -/
def nfaPlacesWrong : ChangeSpec := { name := "nfaPlaces", fn := fun _ => fun
  | [d] => { results := [.lit (.bool false)], args := [d] }
  | _ => none }
def NfaPlacesWrongFalsely : Prop := nfaPlacesRow.holds Try.pinned (OpenSpec.ofChange nfaPlacesWrong)

/-- 'davitlaw10.SeekArms': WHATEVER THE INPUT: true; the input reads as it did. -/
def seekArmsSpec : ChangeSpec := { name := "seekArms", fn := fun _ => fun
  | [d] => { results := [.lit (.bool true)], args := [d] }
  | _ => none }
def seekArmsRow : OpenClaim := { program := "ytpmbeldmclcjlaa", sum := "a105051f4bed9072e681eeb1f12490a058a6c9d5337d379cf306a2161dc44f6a", func := "davit/davitlaw10.SeekArms", spec := "seekArms", unfollowed := true, recurses := true, apart := false }
def SeekArmsSaid : Prop := seekArmsRow.holds Try.pinned (OpenSpec.ofChange seekArmsSpec)

/-- ITS FALSE NEIGHBOUR: 'it returns false'. Refute it at one input. -/
def seekArmsWrong : ChangeSpec := { name := "seekArms", fn := fun _ => fun
  | [d] => { results := [.lit (.bool false)], args := [d] }
  | _ => none }
def SeekArmsWrongFalsely : Prop := seekArmsRow.holds Try.pinned (OpenSpec.ofChange seekArmsWrong)

/-- 'davitlaw10.SeekLooks': WHATEVER THE INPUT: true; the input reads as it did. -/
def seekLooksSpec : ChangeSpec := { name := "seekLooks", fn := fun _ => fun
  | [d1, d2] => { results := [.lit (.bool true)], args := [d1, d2] }
  | _ => none }
def seekLooksRow : OpenClaim := { program := "ytpmbeldmclcjlaa", sum := "a105051f4bed9072e681eeb1f12490a058a6c9d5337d379cf306a2161dc44f6a", func := "davit/davitlaw10.SeekLooks", spec := "seekLooks", unfollowed := true, recurses := true, apart := false }
def SeekLooksSaid : Prop := seekLooksRow.holds Try.pinned (OpenSpec.ofChange seekLooksSpec)

/-- ITS FALSE NEIGHBOUR: 'it returns false'. Refute it at one input. -/
def seekLooksWrong : ChangeSpec := { name := "seekLooks", fn := fun _ => fun
  | [d1, d2] => { results := [.lit (.bool false)], args := [d1, d2] }
  | _ => none }
def SeekLooksWrongFalsely : Prop := seekLooksRow.holds Try.pinned (OpenSpec.ofChange seekLooksWrong)

/-- 'davitlaw10.SeekStays': WHATEVER THE INPUT: true; the input reads as it did. -/
def seekStaysSpec : ChangeSpec := { name := "seekStays", fn := fun _ => fun
  | [d1, d2, d3] => { results := [.lit (.bool true)], args := [d1, d2, d3] }
  | _ => none }
def seekStaysRow : OpenClaim := { program := "ytpmbeldmclcjlaa", sum := "a105051f4bed9072e681eeb1f12490a058a6c9d5337d379cf306a2161dc44f6a", func := "davit/davitlaw10.SeekStays", spec := "seekStays", unfollowed := true, recurses := true, apart := false }
def SeekStaysSaid : Prop := seekStaysRow.holds Try.pinned (OpenSpec.ofChange seekStaysSpec)

/-- ITS FALSE NEIGHBOUR: 'it returns false'. Refute it at one input. -/
def seekStaysWrong : ChangeSpec := { name := "seekStays", fn := fun _ => fun
  | [d1, d2, d3] => { results := [.lit (.bool false)], args := [d1, d2, d3] }
  | _ => none }
def SeekStaysWrongFalsely : Prop := seekStaysRow.holds Try.pinned (OpenSpec.ofChange seekStaysWrong)

/-- 'davitlaw05.DiskKeeps': WHATEVER THE INPUT: true; the input reads as it did. -/
def diskKeepsSpec : ChangeSpec := { name := "diskKeeps", fn := fun _ => fun
  | [d1, d2, d3] => { results := [.lit (.bool true)], args := [d1, d2, d3] }
  | _ => none }
def diskKeepsRow : OpenClaim := { program := "ytpmbeldmclcjlaa", sum := "a105051f4bed9072e681eeb1f12490a058a6c9d5337d379cf306a2161dc44f6a", func := "davit/davitlaw05.DiskKeeps", spec := "diskKeeps", unfollowed := true, recurses := true, apart := false }
def DiskKeepsSaid : Prop := diskKeepsRow.holds Try.pinned (OpenSpec.ofChange diskKeepsSpec)

/-- ITS FALSE NEIGHBOUR: 'it returns false'. Refute it at one input. -/
def diskKeepsWrong : ChangeSpec := { name := "diskKeeps", fn := fun _ => fun
  | [d1, d2, d3] => { results := [.lit (.bool false)], args := [d1, d2, d3] }
  | _ => none }
def DiskKeepsWrongFalsely : Prop := diskKeepsRow.holds Try.pinned (OpenSpec.ofChange diskKeepsWrong)

/-- 'davitlaw05.DiskPlays': WHATEVER THE INPUT: true; the input reads as it did. -/
def diskPlaysSpec : ChangeSpec := { name := "diskPlays", fn := fun _ => fun
  | [d1, d2] => { results := [.lit (.bool true)], args := [d1, d2] }
  | _ => none }
def diskPlaysRow : OpenClaim := { program := "ytpmbeldmclcjlaa", sum := "a105051f4bed9072e681eeb1f12490a058a6c9d5337d379cf306a2161dc44f6a", func := "davit/davitlaw05.DiskPlays", spec := "diskPlays", unfollowed := true, recurses := true, apart := false }
def DiskPlaysSaid : Prop := diskPlaysRow.holds Try.pinned (OpenSpec.ofChange diskPlaysSpec)

/-- ITS FALSE NEIGHBOUR: 'it returns false'. Refute it at one input. -/
def diskPlaysWrong : ChangeSpec := { name := "diskPlays", fn := fun _ => fun
  | [d1, d2] => { results := [.lit (.bool false)], args := [d1, d2] }
  | _ => none }
def DiskPlaysWrongFalsely : Prop := diskPlaysRow.holds Try.pinned (OpenSpec.ofChange diskPlaysWrong)

/- THE SECOND FORM. 'bulk': how many values and letters a reading holds, each counted each time it is reached (what is shared counts as often as it is met; a slice's spare places count too). A statement '..UptoSaid' is the law's where the arguments, and the package variables that the reading takes, are together of bulk at most 1048576: NARROWER than '..Said'. Prove '..Said' where nothing that the law and all that it calls make is longer than what came in: it says more and counts as full. Else prove '..UptoSaid'. A law counts once. -/
mutual
def uptoBulk {H : Type} : DataW H → Nat
  | .lit (.string bytes) => bytes.length + 1
  | .lit _ => 1
  | .nil => 1
  | .ptr d => uptoBulk d + 1
  | .slice elems spare => uptoBulkAll elems + uptoBulkAll spare + 1
  | .agg parts => uptoBulkAll parts + 1
  | .iface _ d => uptoBulk d + 1
  | .map entries => uptoBulkEntries entries + 1
  | .held _ => 1
def uptoBulkAll {H : Type} : List (DataW H) → Nat
  | [] => 0
  | d :: r => uptoBulk d + uptoBulkAll r
def uptoBulkEntries {H : Type} : List (Lit × DataW H) → Nat
  | [] => 0
  | x :: r => uptoBulkEntry x + uptoBulkEntries r
def uptoBulkEntry {H : Type} : Lit × DataW H → Nat
  | (.string bytes, d) => bytes.length + uptoBulk d + 1
  | (_, d) => uptoBulk d + 1
 end
def uptoSmall : (H : Type) → List (DataW H) → Bool := fun _ ds => decide (uptoBulkAll ds ≤ 1048576)
def OpenSpec.upto (s : _root_.Go.ChangeSpec) : _root_.Go.OpenSpec := { _root_.Go.OpenSpec.ofChange s with cond := some uptoSmall }

/-- 'davitlaw16.FoldRises', WHERE WHAT IT READS IS OF BULK AT MOST 1048576: true; the input reads as it did. -/
def foldRisesUptoRow : OpenClaim := { program := "ytpmbeldmclcjlaa", sum := "a105051f4bed9072e681eeb1f12490a058a6c9d5337d379cf306a2161dc44f6a", func := "davit/davitlaw16.FoldRises", spec := "foldRises", unfollowed := true, recurses := true, apart := false, narrowed := true }
def FoldRisesUptoSaid : Prop := foldRisesUptoRow.holds Try.pinned (OpenSpec.upto foldRisesSpec)

/-- 'davitlaw15.RecordPuts', WHERE WHAT IT READS IS OF BULK AT MOST 1048576: true; the input reads as it did. -/
def recordPutsUptoRow : OpenClaim := { program := "ytpmbeldmclcjlaa", sum := "a105051f4bed9072e681eeb1f12490a058a6c9d5337d379cf306a2161dc44f6a", func := "davit/davitlaw15.RecordPuts", spec := "recordPuts", unfollowed := true, recurses := true, apart := false, narrowed := true }
def RecordPutsUptoSaid : Prop := recordPutsUptoRow.holds Try.pinned (OpenSpec.upto recordPutsSpec)

/-- 'davitlaw15.RecordGets', WHERE WHAT IT READS IS OF BULK AT MOST 1048576: true; the input reads as it did. -/
def recordGetsUptoRow : OpenClaim := { program := "ytpmbeldmclcjlaa", sum := "a105051f4bed9072e681eeb1f12490a058a6c9d5337d379cf306a2161dc44f6a", func := "davit/davitlaw15.RecordGets", spec := "recordGets", unfollowed := true, recurses := true, apart := false, narrowed := true }
def RecordGetsUptoSaid : Prop := recordGetsUptoRow.holds Try.pinned (OpenSpec.upto recordGetsSpec)

/-- 'davitlaw16.FoldAll', WHERE WHAT IT READS IS OF BULK AT MOST 1048576: true; the input reads as it did. -/
def foldAllUptoRow : OpenClaim := { program := "ytpmbeldmclcjlaa", sum := "a105051f4bed9072e681eeb1f12490a058a6c9d5337d379cf306a2161dc44f6a", func := "davit/davitlaw16.FoldAll", spec := "foldAll", unfollowed := true, recurses := true, apart := false, narrowed := true }
def FoldAllUptoSaid : Prop := foldAllUptoRow.holds Try.pinned (OpenSpec.upto foldAllSpec)

/-- 'davitlaw09.NfaBuilds', WHERE WHAT IT READS IS OF BULK AT MOST 1048576: true; the input reads as it did. -/
def nfaBuildsUptoRow : OpenClaim := { program := "ytpmbeldmclcjlaa", sum := "a105051f4bed9072e681eeb1f12490a058a6c9d5337d379cf306a2161dc44f6a", func := "davit/davitlaw09.NfaBuilds", spec := "nfaBuilds", unfollowed := true, recurses := true, apart := false, narrowed := true }
def NfaBuildsUptoSaid : Prop := nfaBuildsUptoRow.holds Try.pinned (OpenSpec.upto nfaBuildsSpec)

/-- 'davitlaw09.NfaHas', WHERE WHAT IT READS IS OF BULK AT MOST 1048576: true; the input reads as it did. -/
def nfaHasUptoRow : OpenClaim := { program := "ytpmbeldmclcjlaa", sum := "a105051f4bed9072e681eeb1f12490a058a6c9d5337d379cf306a2161dc44f6a", func := "davit/davitlaw09.NfaHas", spec := "nfaHas", unfollowed := true, recurses := true, apart := false, narrowed := true }
def NfaHasUptoSaid : Prop := nfaHasUptoRow.holds Try.pinned (OpenSpec.upto nfaHasSpec)

/-- 'davitlaw09.NfaPlaces', WHERE WHAT IT READS IS OF BULK AT MOST 1048576: true; the input reads as it did. -/
def nfaPlacesUptoRow : OpenClaim := { program := "ytpmbeldmclcjlaa", sum := "a105051f4bed9072e681eeb1f12490a058a6c9d5337d379cf306a2161dc44f6a", func := "davit/davitlaw09.NfaPlaces", spec := "nfaPlaces", unfollowed := true, recurses := true, apart := false, narrowed := true }
def NfaPlacesUptoSaid : Prop := nfaPlacesUptoRow.holds Try.pinned (OpenSpec.upto nfaPlacesSpec)

/-- 'davitlaw10.SeekArms', WHERE WHAT IT READS IS OF BULK AT MOST 1048576: true; the input reads as it did. -/
def seekArmsUptoRow : OpenClaim := { program := "ytpmbeldmclcjlaa", sum := "a105051f4bed9072e681eeb1f12490a058a6c9d5337d379cf306a2161dc44f6a", func := "davit/davitlaw10.SeekArms", spec := "seekArms", unfollowed := true, recurses := true, apart := false, narrowed := true }
def SeekArmsUptoSaid : Prop := seekArmsUptoRow.holds Try.pinned (OpenSpec.upto seekArmsSpec)

/-- 'davitlaw10.SeekLooks', WHERE WHAT IT READS IS OF BULK AT MOST 1048576: true; the input reads as it did. -/
def seekLooksUptoRow : OpenClaim := { program := "ytpmbeldmclcjlaa", sum := "a105051f4bed9072e681eeb1f12490a058a6c9d5337d379cf306a2161dc44f6a", func := "davit/davitlaw10.SeekLooks", spec := "seekLooks", unfollowed := true, recurses := true, apart := false, narrowed := true }
def SeekLooksUptoSaid : Prop := seekLooksUptoRow.holds Try.pinned (OpenSpec.upto seekLooksSpec)

/-- 'davitlaw10.SeekStays', WHERE WHAT IT READS IS OF BULK AT MOST 1048576: true; the input reads as it did. -/
def seekStaysUptoRow : OpenClaim := { program := "ytpmbeldmclcjlaa", sum := "a105051f4bed9072e681eeb1f12490a058a6c9d5337d379cf306a2161dc44f6a", func := "davit/davitlaw10.SeekStays", spec := "seekStays", unfollowed := true, recurses := true, apart := false, narrowed := true }
def SeekStaysUptoSaid : Prop := seekStaysUptoRow.holds Try.pinned (OpenSpec.upto seekStaysSpec)

/-- 'davitlaw05.DiskKeeps', WHERE WHAT IT READS IS OF BULK AT MOST 1048576: true; the input reads as it did. -/
def diskKeepsUptoRow : OpenClaim := { program := "ytpmbeldmclcjlaa", sum := "a105051f4bed9072e681eeb1f12490a058a6c9d5337d379cf306a2161dc44f6a", func := "davit/davitlaw05.DiskKeeps", spec := "diskKeeps", unfollowed := true, recurses := true, apart := false, narrowed := true }
def DiskKeepsUptoSaid : Prop := diskKeepsUptoRow.holds Try.pinned (OpenSpec.upto diskKeepsSpec)

/-- 'davitlaw05.DiskPlays', WHERE WHAT IT READS IS OF BULK AT MOST 1048576: true; the input reads as it did. -/
def diskPlaysUptoRow : OpenClaim := { program := "ytpmbeldmclcjlaa", sum := "a105051f4bed9072e681eeb1f12490a058a6c9d5337d379cf306a2161dc44f6a", func := "davit/davitlaw05.DiskPlays", spec := "diskPlays", unfollowed := true, recurses := true, apart := false, narrowed := true }
def DiskPlaysUptoSaid : Prop := diskPlaysUptoRow.holds Try.pinned (OpenSpec.upto diskPlaysSpec)

end Rows
end Go.Proofs.Ytpmbeldmclcjlaa
