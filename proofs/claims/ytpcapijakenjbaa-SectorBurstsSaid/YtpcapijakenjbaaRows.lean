/-
  No cell of these rows narrows 'for every input' (looked for: loops, veiled, ifaces, maps, wideKeys, modest, calm, conditions, laid).
  DERIVED. THE GIVEN ROWS OF THIS SEAT. 12 by the template 'for every input the law returns true; each argument reads behind the call as it read before'; 0 by the template 'total and deterministic' (their statements: YtpcapijakenjbaaTotals.lean).
  GIVEN WITH THE SEED: the statements are not yours to turn. If you find one false, say at which input.
  Laid BY PROGRAM, IN A SANDBOX (cutbox-rows.mjs): the forced cells as the released guide's own fill.sh prints them over the translation a9935e65fe352894… (all of the seat's roots in one cut). By AI agents, Wed Nov 11 2026. No macro, syntax, notation, axiom, sorry.
-/
import Derived.Test.YtpcapijakenjbaaChecked
import GoSem.Claim
import GoSem.ClaimJoined
import GoSem.ClaimMapViews
import Derived.JoinedTies
import Derived.KernelRfl
namespace Go.Proofs.Ytpcapijakenjbaa
/- THE CELL 'sum', in the pinned program and in every row, IS THE sha256 OF THE DUMP (.gsa) THAT YtpcapijakenjbaaProg.lean LOADS. Nothing in Lean hashes anything: it is a label: what it is worth is what the hold of that sum in a sandbox is worth. -/
noncomputable def Try.pinned : Pinned := { name := "ytpcapijakenjbaa", sum := "a9935e65fe352894dcddbefae189e9c8973474abd073d64368a5ef227b1f80e7", checked := Try.checked }
namespace Rows
def none {H : Type} : Left H := { results := [], args := [] }

/-- 'davitlaw04.FragCuts': WHATEVER THE INPUT: true; the input reads as it did. -/
def fragCutsSpec : ChangeSpec := { name := "fragCuts", fn := fun _ => fun
  | [d1, d2, d3] => { results := [.lit (.bool true)], args := [d1, d2, d3] }
  | _ => none }
def fragCutsRow : OpenClaim := { program := "ytpcapijakenjbaa", sum := "a9935e65fe352894dcddbefae189e9c8973474abd073d64368a5ef227b1f80e7", func := "davit/davitlaw04.FragCuts", spec := "fragCuts", unfollowed := true, recurses := true, apart := false }
def FragCutsSaid : Prop := fragCutsRow.holds Try.pinned (OpenSpec.ofChange fragCutsSpec)

/-- ITS FALSE NEIGHBOUR: 'it returns false'. Refute it at one input. -/
def fragCutsWrong : ChangeSpec := { name := "fragCuts", fn := fun _ => fun
  | [d1, d2, d3] => { results := [.lit (.bool false)], args := [d1, d2, d3] }
  | _ => none }
def FragCutsWrongFalsely : Prop := fragCutsRow.holds Try.pinned (OpenSpec.ofChange fragCutsWrong)

/-- 'davitlaw04.FragBack': WHATEVER THE INPUT: true; the input reads as it did. -/
def fragBackSpec : ChangeSpec := { name := "fragBack", fn := fun _ => fun
  | [d1, d2] => { results := [.lit (.bool true)], args := [d1, d2] }
  | _ => none }
def fragBackRow : OpenClaim := { program := "ytpcapijakenjbaa", sum := "a9935e65fe352894dcddbefae189e9c8973474abd073d64368a5ef227b1f80e7", func := "davit/davitlaw04.FragBack", spec := "fragBack", unfollowed := true, recurses := true, apart := false }
def FragBackSaid : Prop := fragBackRow.holds Try.pinned (OpenSpec.ofChange fragBackSpec)

/-- ITS FALSE NEIGHBOUR: 'it returns false'. Refute it at one input. -/
def fragBackWrong : ChangeSpec := { name := "fragBack", fn := fun _ => fun
  | [d1, d2] => { results := [.lit (.bool false)], args := [d1, d2] }
  | _ => none }
def FragBackWrongFalsely : Prop := fragBackRow.holds Try.pinned (OpenSpec.ofChange fragBackWrong)

/-- 'davitlaw11.LexCuts': WHATEVER THE INPUT: true; the input reads as it did. -/
def lexCutsSpec : ChangeSpec := { name := "lexCuts", fn := fun _ => fun
  | [d] => { results := [.lit (.bool true)], args := [d] }
  | _ => none }
def lexCutsRow : OpenClaim := { program := "ytpcapijakenjbaa", sum := "a9935e65fe352894dcddbefae189e9c8973474abd073d64368a5ef227b1f80e7", func := "davit/davitlaw11.LexCuts", spec := "lexCuts", unfollowed := true, recurses := true, apart := false }
def LexCutsSaid : Prop := lexCutsRow.holds Try.pinned (OpenSpec.ofChange lexCutsSpec)

/-- ITS FALSE NEIGHBOUR: 'it returns false'. Refute it at one input. -/
def lexCutsWrong : ChangeSpec := { name := "lexCuts", fn := fun _ => fun
  | [d] => { results := [.lit (.bool false)], args := [d] }
  | _ => none }
def LexCutsWrongFalsely : Prop := lexCutsRow.holds Try.pinned (OpenSpec.ofChange lexCutsWrong)

/-- 'davitlaw11.LexAlone': WHATEVER THE INPUT: true; the input reads as it did. -/
def lexAloneSpec : ChangeSpec := { name := "lexAlone", fn := fun _ => fun
  | [d1, d2] => { results := [.lit (.bool true)], args := [d1, d2] }
  | _ => none }
def lexAloneRow : OpenClaim := { program := "ytpcapijakenjbaa", sum := "a9935e65fe352894dcddbefae189e9c8973474abd073d64368a5ef227b1f80e7", func := "davit/davitlaw11.LexAlone", spec := "lexAlone", unfollowed := true, recurses := true, apart := false }
def LexAloneSaid : Prop := lexAloneRow.holds Try.pinned (OpenSpec.ofChange lexAloneSpec)

/-- ITS FALSE NEIGHBOUR: 'it returns false'. Refute it at one input. -/
def lexAloneWrong : ChangeSpec := { name := "lexAlone", fn := fun _ => fun
  | [d1, d2] => { results := [.lit (.bool false)], args := [d1, d2] }
  | _ => none }
def LexAloneWrongFalsely : Prop := lexAloneRow.holds Try.pinned (OpenSpec.ofChange lexAloneWrong)

/-- 'davitlaw03.SectorPuts': WHATEVER THE INPUT: true; the input reads as it did. -/
def sectorPutsSpec : ChangeSpec := { name := "sectorPuts", fn := fun _ => fun
  | [d] => { results := [.lit (.bool true)], args := [d] }
  | _ => none }
def sectorPutsRow : OpenClaim := { program := "ytpcapijakenjbaa", sum := "a9935e65fe352894dcddbefae189e9c8973474abd073d64368a5ef227b1f80e7", func := "davit/davitlaw03.SectorPuts", spec := "sectorPuts", unfollowed := true, recurses := true, apart := false }
def SectorPutsSaid : Prop := sectorPutsRow.holds Try.pinned (OpenSpec.ofChange sectorPutsSpec)

/-- ITS FALSE NEIGHBOUR: 'it returns false'. Refute it at one input. -/
def sectorPutsWrong : ChangeSpec := { name := "sectorPuts", fn := fun _ => fun
  | [d] => { results := [.lit (.bool false)], args := [d] }
  | _ => none }
def SectorPutsWrongFalsely : Prop := sectorPutsRow.holds Try.pinned (OpenSpec.ofChange sectorPutsWrong)

/-- 'davitlaw03.SectorGets': WHATEVER THE INPUT: true; the input reads as it did. -/
def sectorGetsSpec : ChangeSpec := { name := "sectorGets", fn := fun _ => fun
  | [d] => { results := [.lit (.bool true)], args := [d] }
  | _ => none }
def sectorGetsRow : OpenClaim := { program := "ytpcapijakenjbaa", sum := "a9935e65fe352894dcddbefae189e9c8973474abd073d64368a5ef227b1f80e7", func := "davit/davitlaw03.SectorGets", spec := "sectorGets", unfollowed := true, recurses := true, apart := false }
def SectorGetsSaid : Prop := sectorGetsRow.holds Try.pinned (OpenSpec.ofChange sectorGetsSpec)

/-- ITS FALSE NEIGHBOUR: 'it returns false'. Refute it at one input. -/
def sectorGetsWrong : ChangeSpec := { name := "sectorGets", fn := fun _ => fun
  | [d] => { results := [.lit (.bool false)], args := [d] }
  | _ => none }
def SectorGetsWrongFalsely : Prop := sectorGetsRow.holds Try.pinned (OpenSpec.ofChange sectorGetsWrong)

/-- 'davitlaw03.SectorBursts': WHATEVER THE INPUT: true; the input reads as it did. -/
def sectorBurstsSpec : ChangeSpec := { name := "sectorBursts", fn := fun _ => fun
  | [d1, d2, d3] => { results := [.lit (.bool true)], args := [d1, d2, d3] }
  | _ => none }
def sectorBurstsRow : OpenClaim := { program := "ytpcapijakenjbaa", sum := "a9935e65fe352894dcddbefae189e9c8973474abd073d64368a5ef227b1f80e7", func := "davit/davitlaw03.SectorBursts", spec := "sectorBursts", unfollowed := true, recurses := true, apart := false }
def SectorBurstsSaid : Prop := sectorBurstsRow.holds Try.pinned (OpenSpec.ofChange sectorBurstsSpec)

/-- ITS FALSE NEIGHBOUR: 'it returns false'. Refute it at one input. -/
def sectorBurstsWrong : ChangeSpec := { name := "sectorBursts", fn := fun _ => fun
  | [d1, d2, d3] => { results := [.lit (.bool false)], args := [d1, d2, d3] }
  | _ => none }
def SectorBurstsWrongFalsely : Prop := sectorBurstsRow.holds Try.pinned (OpenSpec.ofChange sectorBurstsWrong)

/-- 'davitlaw13.VarsFill': WHATEVER THE INPUT: true; the input reads as it did. -/
def varsFillSpec : ChangeSpec := { name := "varsFill", fn := fun _ => fun
  | [d1, d2, d3] => { results := [.lit (.bool true)], args := [d1, d2, d3] }
  | _ => none }
def varsFillRow : OpenClaim := { program := "ytpcapijakenjbaa", sum := "a9935e65fe352894dcddbefae189e9c8973474abd073d64368a5ef227b1f80e7", func := "davit/davitlaw13.VarsFill", spec := "varsFill", unfollowed := true, recurses := true, apart := false }
def VarsFillSaid : Prop := varsFillRow.holds Try.pinned (OpenSpec.ofChange varsFillSpec)

/-- ITS FALSE NEIGHBOUR: 'it returns false'. Refute it at one input. -/
def varsFillWrong : ChangeSpec := { name := "varsFill", fn := fun _ => fun
  | [d1, d2, d3] => { results := [.lit (.bool false)], args := [d1, d2, d3] }
  | _ => none }
def VarsFillWrongFalsely : Prop := varsFillRow.holds Try.pinned (OpenSpec.ofChange varsFillWrong)

/-- 'davitlaw13.VarsPlain': WHATEVER THE INPUT: true; the input reads as it did. -/
def varsPlainSpec : ChangeSpec := { name := "varsPlain", fn := fun _ => fun
  | [d1, d2, d3] => { results := [.lit (.bool true)], args := [d1, d2, d3] }
  | _ => none }
def varsPlainRow : OpenClaim := { program := "ytpcapijakenjbaa", sum := "a9935e65fe352894dcddbefae189e9c8973474abd073d64368a5ef227b1f80e7", func := "davit/davitlaw13.VarsPlain", spec := "varsPlain", unfollowed := true, recurses := true, apart := false }
def VarsPlainSaid : Prop := varsPlainRow.holds Try.pinned (OpenSpec.ofChange varsPlainSpec)

/-- ITS FALSE NEIGHBOUR: 'it returns false'. Refute it at one input. -/
def varsPlainWrong : ChangeSpec := { name := "varsPlain", fn := fun _ => fun
  | [d1, d2, d3] => { results := [.lit (.bool false)], args := [d1, d2, d3] }
  | _ => none }
def VarsPlainWrongFalsely : Prop := varsPlainRow.holds Try.pinned (OpenSpec.ofChange varsPlainWrong)

/-- 'davitlaw19.TimersOnce': WHATEVER THE INPUT: true; the input reads as it did. -/
def timersOnceSpec : ChangeSpec := { name := "timersOnce", fn := fun _ => fun
  | [d1, d2] => { results := [.lit (.bool true)], args := [d1, d2] }
  | _ => none }
def timersOnceRow : OpenClaim := { program := "ytpcapijakenjbaa", sum := "a9935e65fe352894dcddbefae189e9c8973474abd073d64368a5ef227b1f80e7", func := "davit/davitlaw19.TimersOnce", spec := "timersOnce", unfollowed := true, recurses := true, apart := false }
def TimersOnceSaid : Prop := timersOnceRow.holds Try.pinned (OpenSpec.ofChange timersOnceSpec)

/-- ITS FALSE NEIGHBOUR: 'it returns false'. Refute it at one input. -/
def timersOnceWrong : ChangeSpec := { name := "timersOnce", fn := fun _ => fun
  | [d1, d2] => { results := [.lit (.bool false)], args := [d1, d2] }
  | _ => none }
def TimersOnceWrongFalsely : Prop := timersOnceRow.holds Try.pinned (OpenSpec.ofChange timersOnceWrong)

/-- 'davitlaw19.TimersPlay': WHATEVER THE INPUT: true; the input reads as it did. -/
def timersPlaySpec : ChangeSpec := { name := "timersPlay", fn := fun _ => fun
  | [d] => { results := [.lit (.bool true)], args := [d] }
  | _ => none }
def timersPlayRow : OpenClaim := { program := "ytpcapijakenjbaa", sum := "a9935e65fe352894dcddbefae189e9c8973474abd073d64368a5ef227b1f80e7", func := "davit/davitlaw19.TimersPlay", spec := "timersPlay", unfollowed := true, recurses := true, apart := false }
def TimersPlaySaid : Prop := timersPlayRow.holds Try.pinned (OpenSpec.ofChange timersPlaySpec)

/-- ITS FALSE NEIGHBOUR: 'it returns false'. Refute it at one input. -/
def timersPlayWrong : ChangeSpec := { name := "timersPlay", fn := fun _ => fun
  | [d] => { results := [.lit (.bool false)], args := [d] }
  | _ => none }
def TimersPlayWrongFalsely : Prop := timersPlayRow.holds Try.pinned (OpenSpec.ofChange timersPlayWrong)

/-- 'davitlaw12.RunbookJoins': WHATEVER THE INPUT: true; the input reads as it did. -/
def runbookJoinsSpec : ChangeSpec := { name := "runbookJoins", fn := fun _ => fun
  | [d1, d2] => { results := [.lit (.bool true)], args := [d1, d2] }
  | _ => none }
def runbookJoinsRow : OpenClaim := { program := "ytpcapijakenjbaa", sum := "a9935e65fe352894dcddbefae189e9c8973474abd073d64368a5ef227b1f80e7", func := "davit/davitlaw12.RunbookJoins", spec := "runbookJoins", unfollowed := true, recurses := true, apart := false }
def RunbookJoinsSaid : Prop := runbookJoinsRow.holds Try.pinned (OpenSpec.ofChange runbookJoinsSpec)

/-- ITS FALSE NEIGHBOUR: 'it returns false'. Refute it at one input. -/
def runbookJoinsWrong : ChangeSpec := { name := "runbookJoins", fn := fun _ => fun
  | [d1, d2] => { results := [.lit (.bool false)], args := [d1, d2] }
  | _ => none }
def RunbookJoinsWrongFalsely : Prop := runbookJoinsRow.holds Try.pinned (OpenSpec.ofChange runbookJoinsWrong)

/- THE SECOND FORM. 'bulk': how many values and letters a reading holds, each counted each time it is reached (what is shared counts as often as it is met; a slice's spare places count too). A statement '..UptoSaid' is the law's where the arguments, and the package variables that the reading takes, are together of bulk at most 1048576: NARROWER than '..Said'. Prove '..Said' where nothing that the law and all that it calls make is longer than what came in: it says more and counts as full. Else prove '..UptoSaid'. A law counts once. -/
mutual
def uptoBulk {H : Type} : DataW H → Nat
  | .lit (.string bytes) => bytes.length + 1
  | .lit _ => 1
  | .nil => 1
  | .ptr d => uptoBulk d + 1
  | .slice elems spare => uptoBulkAll elems + uptoBulkAll spare + 1
  | .agg parts => uptoBulkAll parts + 1
  | .iface _ d => uptoBulk d + 1
  | .map entries => uptoBulkEntries entries + 1
  | .held _ => 1
def uptoBulkAll {H : Type} : List (DataW H) → Nat
  | [] => 0
  | d :: r => uptoBulk d + uptoBulkAll r
def uptoBulkEntries {H : Type} : List (Lit × DataW H) → Nat
  | [] => 0
  | x :: r => uptoBulkEntry x + uptoBulkEntries r
def uptoBulkEntry {H : Type} : Lit × DataW H → Nat
  | (.string bytes, d) => bytes.length + uptoBulk d + 1
  | (_, d) => uptoBulk d + 1
 end
def uptoSmall : (H : Type) → List (DataW H) → Bool := fun _ ds => decide (uptoBulkAll ds ≤ 1048576)
def OpenSpec.upto (s : _root_.Go.ChangeSpec) : _root_.Go.OpenSpec := { _root_.Go.OpenSpec.ofChange s with cond := some uptoSmall }

/-- 'davitlaw04.FragCuts', WHERE WHAT IT READS IS OF BULK AT MOST 1048576: true; the input reads as it did. -/
def fragCutsUptoRow : OpenClaim := { program := "ytpcapijakenjbaa", sum := "a9935e65fe352894dcddbefae189e9c8973474abd073d64368a5ef227b1f80e7", func := "davit/davitlaw04.FragCuts", spec := "fragCuts", unfollowed := true, recurses := true, apart := false, narrowed := true }
def FragCutsUptoSaid : Prop := fragCutsUptoRow.holds Try.pinned (OpenSpec.upto fragCutsSpec)

/-- 'davitlaw04.FragBack', WHERE WHAT IT READS IS OF BULK AT MOST 1048576: true; the input reads as it did. -/
def fragBackUptoRow : OpenClaim := { program := "ytpcapijakenjbaa", sum := "a9935e65fe352894dcddbefae189e9c8973474abd073d64368a5ef227b1f80e7", func := "davit/davitlaw04.FragBack", spec := "fragBack", unfollowed := true, recurses := true, apart := false, narrowed := true }
def FragBackUptoSaid : Prop := fragBackUptoRow.holds Try.pinned (OpenSpec.upto fragBackSpec)

/-- 'davitlaw11.LexCuts', WHERE WHAT IT READS IS OF BULK AT MOST 1048576: true; the input reads as it did. -/
def lexCutsUptoRow : OpenClaim := { program := "ytpcapijakenjbaa", sum := "a9935e65fe352894dcddbefae189e9c8973474abd073d64368a5ef227b1f80e7", func := "davit/davitlaw11.LexCuts", spec := "lexCuts", unfollowed := true, recurses := true, apart := false, narrowed := true }
def LexCutsUptoSaid : Prop := lexCutsUptoRow.holds Try.pinned (OpenSpec.upto lexCutsSpec)

/-- 'davitlaw11.LexAlone', WHERE WHAT IT READS IS OF BULK AT MOST 1048576: true; the input reads as it did. -/
def lexAloneUptoRow : OpenClaim := { program := "ytpcapijakenjbaa", sum := "a9935e65fe352894dcddbefae189e9c8973474abd073d64368a5ef227b1f80e7", func := "davit/davitlaw11.LexAlone", spec := "lexAlone", unfollowed := true, recurses := true, apart := false, narrowed := true }
def LexAloneUptoSaid : Prop := lexAloneUptoRow.holds Try.pinned (OpenSpec.upto lexAloneSpec)

/-- 'davitlaw03.SectorPuts', WHERE WHAT IT READS IS OF BULK AT MOST 1048576: true; the input reads as it did. -/
def sectorPutsUptoRow : OpenClaim := { program := "ytpcapijakenjbaa", sum := "a9935e65fe352894dcddbefae189e9c8973474abd073d64368a5ef227b1f80e7", func := "davit/davitlaw03.SectorPuts", spec := "sectorPuts", unfollowed := true, recurses := true, apart := false, narrowed := true }
def SectorPutsUptoSaid : Prop := sectorPutsUptoRow.holds Try.pinned (OpenSpec.upto sectorPutsSpec)

/-- 'davitlaw03.SectorGets', WHERE WHAT IT READS IS OF BULK AT MOST 1048576: true; the input reads as it did. -/
def sectorGetsUptoRow : OpenClaim := { program := "ytpcapijakenjbaa", sum := "a9935e65fe352894dcddbefae189e9c8973474abd073d64368a5ef227b1f80e7", func := "davit/davitlaw03.SectorGets", spec := "sectorGets", unfollowed := true, recurses := true, apart := false, narrowed := true }
def SectorGetsUptoSaid : Prop := sectorGetsUptoRow.holds Try.pinned (OpenSpec.upto sectorGetsSpec)

/-- 'davitlaw03.SectorBursts', WHERE WHAT IT READS IS OF BULK AT MOST 1048576: true; the input reads as it did. -/
def sectorBurstsUptoRow : OpenClaim := { program := "ytpcapijakenjbaa", sum := "a9935e65fe352894dcddbefae189e9c8973474abd073d64368a5ef227b1f80e7", func := "davit/davitlaw03.SectorBursts", spec := "sectorBursts", unfollowed := true, recurses := true, apart := false, narrowed := true }
def SectorBurstsUptoSaid : Prop := sectorBurstsUptoRow.holds Try.pinned (OpenSpec.upto sectorBurstsSpec)

/-- 'davitlaw13.VarsFill', WHERE WHAT IT READS IS OF BULK AT MOST 1048576: true; the input reads as it did. -/
def varsFillUptoRow : OpenClaim := { program := "ytpcapijakenjbaa", sum := "a9935e65fe352894dcddbefae189e9c8973474abd073d64368a5ef227b1f80e7", func := "davit/davitlaw13.VarsFill", spec := "varsFill", unfollowed := true, recurses := true, apart := false, narrowed := true }
def VarsFillUptoSaid : Prop := varsFillUptoRow.holds Try.pinned (OpenSpec.upto varsFillSpec)

/-- 'davitlaw13.VarsPlain', WHERE WHAT IT READS IS OF BULK AT MOST 1048576: true; the input reads as it did. -/
def varsPlainUptoRow : OpenClaim := { program := "ytpcapijakenjbaa", sum := "a9935e65fe352894dcddbefae189e9c8973474abd073d64368a5ef227b1f80e7", func := "davit/davitlaw13.VarsPlain", spec := "varsPlain", unfollowed := true, recurses := true, apart := false, narrowed := true }
def VarsPlainUptoSaid : Prop := varsPlainUptoRow.holds Try.pinned (OpenSpec.upto varsPlainSpec)

/-- 'davitlaw19.TimersOnce', WHERE WHAT IT READS IS OF BULK AT MOST 1048576: true; the input reads as it did. -/
def timersOnceUptoRow : OpenClaim := { program := "ytpcapijakenjbaa", sum := "a9935e65fe352894dcddbefae189e9c8973474abd073d64368a5ef227b1f80e7", func := "davit/davitlaw19.TimersOnce", spec := "timersOnce", unfollowed := true, recurses := true, apart := false, narrowed := true }
def TimersOnceUptoSaid : Prop := timersOnceUptoRow.holds Try.pinned (OpenSpec.upto timersOnceSpec)

/-- 'davitlaw19.TimersPlay', WHERE WHAT IT READS IS OF BULK AT MOST 1048576: true; the input reads as it did. -/
def timersPlayUptoRow : OpenClaim := { program := "ytpcapijakenjbaa", sum := "a9935e65fe352894dcddbefae189e9c8973474abd073d64368a5ef227b1f80e7", func := "davit/davitlaw19.TimersPlay", spec := "timersPlay", unfollowed := true, recurses := true, apart := false, narrowed := true }
def TimersPlayUptoSaid : Prop := timersPlayUptoRow.holds Try.pinned (OpenSpec.upto timersPlaySpec)

/-- 'davitlaw12.RunbookJoins', WHERE WHAT IT READS IS OF BULK AT MOST 1048576: true; the input reads as it did. -/
def runbookJoinsUptoRow : OpenClaim := { program := "ytpcapijakenjbaa", sum := "a9935e65fe352894dcddbefae189e9c8973474abd073d64368a5ef227b1f80e7", func := "davit/davitlaw12.RunbookJoins", spec := "runbookJoins", unfollowed := true, recurses := true, apart := false, narrowed := true }
def RunbookJoinsUptoSaid : Prop := runbookJoinsUptoRow.holds Try.pinned (OpenSpec.upto runbookJoinsSpec)

end Rows
end Go.Proofs.Ytpcapijakenjbaa
