/-
  No cell of these rows narrows 'for every input' (looked for: loops, veiled, ifaces, maps, wideKeys, modest, calm, conditions, laid).
  DERIVED. THE GIVEN ROWS OF THIS SEAT. 12 by the template 'for every input the law returns true; each argument reads behind the call as it read before'; 0 by the template 'total and deterministic' (their statements: YtjnpohloodcddaaTotals.lean).
  GIVEN WITH THE SEED: the statements are not yours to turn. If you find one false, say at which input.
  Laid BY PROGRAM, IN A SANDBOX (cutbox-rows.mjs): the forced cells as the released guide's own fill.sh prints them over the translation 61c5ec316c941924… (all of the seat's roots in one cut). By AI agents, Wed Nov 11 2026. No macro, syntax, notation, axiom, sorry.
-/
import Derived.Test.YtjnpohloodcddaaChecked
import GoSem.Claim
import GoSem.ClaimJoined
import GoSem.ClaimMapViews
import Derived.JoinedTies
import Derived.KernelRfl
namespace Go.Proofs.Ytjnpohloodcddaa
/- THE CELL 'sum', in the pinned program and in every row, IS THE sha256 OF THE DUMP (.gsa) THAT YtjnpohloodcddaaProg.lean LOADS. Nothing in Lean hashes anything: it is a label: what it is worth is what the hold of that sum in a sandbox is worth. -/
noncomputable def Try.pinned : Pinned := { name := "ytjnpohloodcddaa", sum := "61c5ec316c9419243893a9bead6464f332da55429d257d9e0cea9fae7bd381c8", checked := Try.checked }
namespace Rows
def none {H : Type} : Left H := { results := [], args := [] }

/-- 'davitlaw01.CrcBursts': WHATEVER THE INPUT: true; the input reads as it did. -/
def crcBurstsSpec : ChangeSpec := { name := "crcBursts", fn := fun _ => fun
  | [d1, d2, d3] => { results := [.lit (.bool true)], args := [d1, d2, d3] }
  | _ => none }
def crcBurstsRow : OpenClaim := { program := "ytjnpohloodcddaa", sum := "61c5ec316c9419243893a9bead6464f332da55429d257d9e0cea9fae7bd381c8", func := "davit/davitlaw01.CrcBursts", spec := "crcBursts", unfollowed := true, recurses := true, apart := false }
def CrcBurstsSaid : Prop := crcBurstsRow.holds Try.pinned (OpenSpec.ofChange crcBurstsSpec)

/-- ITS FALSE NEIGHBOUR: 'it returns false'. Refute it at one input. -/
def crcBurstsWrong : ChangeSpec := { name := "crcBursts", fn := fun _ => fun
  | [d1, d2, d3] => { results := [.lit (.bool false)], args := [d1, d2, d3] }
  | _ => none }
def CrcBurstsWrongFalsely : Prop := crcBurstsRow.holds Try.pinned (OpenSpec.ofChange crcBurstsWrong)

/-- 'davitlaw01.CrcParts': WHATEVER THE INPUT: true; the input reads as it did. -/
def crcPartsSpec : ChangeSpec := { name := "crcParts", fn := fun _ => fun
  | [d1, d2, d3] => { results := [.lit (.bool true)], args := [d1, d2, d3] }
  | _ => none }
def crcPartsRow : OpenClaim := { program := "ytjnpohloodcddaa", sum := "61c5ec316c9419243893a9bead6464f332da55429d257d9e0cea9fae7bd381c8", func := "davit/davitlaw01.CrcParts", spec := "crcParts", unfollowed := true, recurses := true, apart := false }
def CrcPartsSaid : Prop := crcPartsRow.holds Try.pinned (OpenSpec.ofChange crcPartsSpec)

/-- ITS FALSE NEIGHBOUR: 'it returns false'. Refute it at one input. -/
def crcPartsWrong : ChangeSpec := { name := "crcParts", fn := fun _ => fun
  | [d1, d2, d3] => { results := [.lit (.bool false)], args := [d1, d2, d3] }
  | _ => none }
def CrcPartsWrongFalsely : Prop := crcPartsRow.holds Try.pinned (OpenSpec.ofChange crcPartsWrong)

/-- 'davitlaw01.CrcSums': WHATEVER THE INPUT: true; the input reads as it did. -/
def crcSumsSpec : ChangeSpec := { name := "crcSums", fn := fun _ => fun
  | [d1, d2, d3] => { results := [.lit (.bool true)], args := [d1, d2, d3] }
  | _ => none }
def crcSumsRow : OpenClaim := { program := "ytjnpohloodcddaa", sum := "61c5ec316c9419243893a9bead6464f332da55429d257d9e0cea9fae7bd381c8", func := "davit/davitlaw01.CrcSums", spec := "crcSums", unfollowed := true, recurses := true, apart := false }
def CrcSumsSaid : Prop := crcSumsRow.holds Try.pinned (OpenSpec.ofChange crcSumsSpec)

/-- ITS FALSE NEIGHBOUR: 'it returns false'. Refute it at one input. -/
def crcSumsWrong : ChangeSpec := { name := "crcSums", fn := fun _ => fun
  | [d1, d2, d3] => { results := [.lit (.bool false)], args := [d1, d2, d3] }
  | _ => none }
def CrcSumsWrongFalsely : Prop := crcSumsRow.holds Try.pinned (OpenSpec.ofChange crcSumsWrong)

/-- 'davitlaw02.PackWrites': WHATEVER THE INPUT: true; the input reads as it did. -/
def packWritesSpec : ChangeSpec := { name := "packWrites", fn := fun _ => fun
  | [d1, d2, d3] => { results := [.lit (.bool true)], args := [d1, d2, d3] }
  | _ => none }
def packWritesRow : OpenClaim := { program := "ytjnpohloodcddaa", sum := "61c5ec316c9419243893a9bead6464f332da55429d257d9e0cea9fae7bd381c8", func := "davit/davitlaw02.PackWrites", spec := "packWrites", unfollowed := true, recurses := true, apart := false }
def PackWritesSaid : Prop := packWritesRow.holds Try.pinned (OpenSpec.ofChange packWritesSpec)

/-- ITS FALSE NEIGHBOUR: 'it returns false'. Refute it at one input. -/
def packWritesWrong : ChangeSpec := { name := "packWrites", fn := fun _ => fun
  | [d1, d2, d3] => { results := [.lit (.bool false)], args := [d1, d2, d3] }
  | _ => none }
def PackWritesWrongFalsely : Prop := packWritesRow.holds Try.pinned (OpenSpec.ofChange packWritesWrong)

/-- 'davitlaw17.PeerFeeds': WHATEVER THE INPUT: true; the input reads as it did. -/
def peerFeedsSpec : ChangeSpec := { name := "peerFeeds", fn := fun _ => fun
  | [d1, d2, d3] => { results := [.lit (.bool true)], args := [d1, d2, d3] }
  | _ => none }
def peerFeedsRow : OpenClaim := { program := "ytjnpohloodcddaa", sum := "61c5ec316c9419243893a9bead6464f332da55429d257d9e0cea9fae7bd381c8", func := "davit/davitlaw17.PeerFeeds", spec := "peerFeeds", unfollowed := true, recurses := true, apart := false }
def PeerFeedsSaid : Prop := peerFeedsRow.holds Try.pinned (OpenSpec.ofChange peerFeedsSpec)

/-- ITS FALSE NEIGHBOUR: 'it returns false'. Refute it at one input. -/
def peerFeedsWrong : ChangeSpec := { name := "peerFeeds", fn := fun _ => fun
  | [d1, d2, d3] => { results := [.lit (.bool false)], args := [d1, d2, d3] }
  | _ => none }
def PeerFeedsWrongFalsely : Prop := peerFeedsRow.holds Try.pinned (OpenSpec.ofChange peerFeedsWrong)

/-- 'davitlaw17.PeerParts': WHATEVER THE INPUT: true; the input reads as it did. -/
def peerPartsSpec : ChangeSpec := { name := "peerParts", fn := fun _ => fun
  | [d1, d2, d3, d4] => { results := [.lit (.bool true)], args := [d1, d2, d3, d4] }
  | _ => none }
def peerPartsRow : OpenClaim := { program := "ytjnpohloodcddaa", sum := "61c5ec316c9419243893a9bead6464f332da55429d257d9e0cea9fae7bd381c8", func := "davit/davitlaw17.PeerParts", spec := "peerParts", unfollowed := true, recurses := true, apart := false }
def PeerPartsSaid : Prop := peerPartsRow.holds Try.pinned (OpenSpec.ofChange peerPartsSpec)

/-- ITS FALSE NEIGHBOUR: 'it returns false'. Refute it at one input. -/
def peerPartsWrong : ChangeSpec := { name := "peerParts", fn := fun _ => fun
  | [d1, d2, d3, d4] => { results := [.lit (.bool false)], args := [d1, d2, d3, d4] }
  | _ => none }
def PeerPartsWrongFalsely : Prop := peerPartsRow.holds Try.pinned (OpenSpec.ofChange peerPartsWrong)

/-- 'davitlaw02.PackReads': WHATEVER THE INPUT: true; the input reads as it did. -/
def packReadsSpec : ChangeSpec := { name := "packReads", fn := fun _ => fun
  | [d1, d2] => { results := [.lit (.bool true)], args := [d1, d2] }
  | _ => none }
def packReadsRow : OpenClaim := { program := "ytjnpohloodcddaa", sum := "61c5ec316c9419243893a9bead6464f332da55429d257d9e0cea9fae7bd381c8", func := "davit/davitlaw02.PackReads", spec := "packReads", unfollowed := true, recurses := true, apart := false }
def PackReadsSaid : Prop := packReadsRow.holds Try.pinned (OpenSpec.ofChange packReadsSpec)

/-- ITS FALSE NEIGHBOUR: 'it returns false'. Refute it at one input. -/
def packReadsWrong : ChangeSpec := { name := "packReads", fn := fun _ => fun
  | [d1, d2] => { results := [.lit (.bool false)], args := [d1, d2] }
  | _ => none }
def PackReadsWrongFalsely : Prop := packReadsRow.holds Try.pinned (OpenSpec.ofChange packReadsWrong)

/-- 'davitlaw02.PackBack': WHATEVER THE INPUT: true; the input reads as it did. -/
def packBackSpec : ChangeSpec := { name := "packBack", fn := fun _ => fun
  | [d1, d2, d3] => { results := [.lit (.bool true)], args := [d1, d2, d3] }
  | _ => none }
def packBackRow : OpenClaim := { program := "ytjnpohloodcddaa", sum := "61c5ec316c9419243893a9bead6464f332da55429d257d9e0cea9fae7bd381c8", func := "davit/davitlaw02.PackBack", spec := "packBack", unfollowed := true, recurses := true, apart := false }
def PackBackSaid : Prop := packBackRow.holds Try.pinned (OpenSpec.ofChange packBackSpec)

/-- ITS FALSE NEIGHBOUR: 'it returns false'. Refute it at one input. -/
def packBackWrong : ChangeSpec := { name := "packBack", fn := fun _ => fun
  | [d1, d2, d3] => { results := [.lit (.bool false)], args := [d1, d2, d3] }
  | _ => none }
def PackBackWrongFalsely : Prop := packBackRow.holds Try.pinned (OpenSpec.ofChange packBackWrong)

/-- 'davitlaw04.FragCuts': WHATEVER THE INPUT: true; the input reads as it did. -/
def fragCutsSpec : ChangeSpec := { name := "fragCuts", fn := fun _ => fun
  | [d1, d2, d3] => { results := [.lit (.bool true)], args := [d1, d2, d3] }
  | _ => none }
def fragCutsRow : OpenClaim := { program := "ytjnpohloodcddaa", sum := "61c5ec316c9419243893a9bead6464f332da55429d257d9e0cea9fae7bd381c8", func := "davit/davitlaw04.FragCuts", spec := "fragCuts", unfollowed := true, recurses := true, apart := false }
def FragCutsSaid : Prop := fragCutsRow.holds Try.pinned (OpenSpec.ofChange fragCutsSpec)

/-- ITS FALSE NEIGHBOUR: 'it returns false'. Refute it at one input. -/
def fragCutsWrong : ChangeSpec := { name := "fragCuts", fn := fun _ => fun
  | [d1, d2, d3] => { results := [.lit (.bool false)], args := [d1, d2, d3] }
  | _ => none }
def FragCutsWrongFalsely : Prop := fragCutsRow.holds Try.pinned (OpenSpec.ofChange fragCutsWrong)

/-- 'davitlaw04.FragBack': WHATEVER THE INPUT: true; the input reads as it did. -/
def fragBackSpec : ChangeSpec := { name := "fragBack", fn := fun _ => fun
  | [d1, d2] => { results := [.lit (.bool true)], args := [d1, d2] }
  | _ => none }
def fragBackRow : OpenClaim := { program := "ytjnpohloodcddaa", sum := "61c5ec316c9419243893a9bead6464f332da55429d257d9e0cea9fae7bd381c8", func := "davit/davitlaw04.FragBack", spec := "fragBack", unfollowed := true, recurses := true, apart := false }
def FragBackSaid : Prop := fragBackRow.holds Try.pinned (OpenSpec.ofChange fragBackSpec)

/-- ITS FALSE NEIGHBOUR: 'it returns false'. Refute it at one input. -/
def fragBackWrong : ChangeSpec := { name := "fragBack", fn := fun _ => fun
  | [d1, d2] => { results := [.lit (.bool false)], args := [d1, d2] }
  | _ => none }
def FragBackWrongFalsely : Prop := fragBackRow.holds Try.pinned (OpenSpec.ofChange fragBackWrong)

/-- 'davitlaw18.LinkTakes': WHATEVER THE INPUT: true; the input reads as it did. -/
def linkTakesSpec : ChangeSpec := { name := "linkTakes", fn := fun _ => fun
  | [d1, d2, d3, d4, d5] => { results := [.lit (.bool true)], args := [d1, d2, d3, d4, d5] }
  | _ => none }
def linkTakesRow : OpenClaim := { program := "ytjnpohloodcddaa", sum := "61c5ec316c9419243893a9bead6464f332da55429d257d9e0cea9fae7bd381c8", func := "davit/davitlaw18.LinkTakes", spec := "linkTakes", unfollowed := true, recurses := true, apart := false }
def LinkTakesSaid : Prop := linkTakesRow.holds Try.pinned (OpenSpec.ofChange linkTakesSpec)

/-- ITS FALSE NEIGHBOUR: 'it returns false'. Refute it at one input. -/
def linkTakesWrong : ChangeSpec := { name := "linkTakes", fn := fun _ => fun
  | [d1, d2, d3, d4, d5] => { results := [.lit (.bool false)], args := [d1, d2, d3, d4, d5] }
  | _ => none }
def LinkTakesWrongFalsely : Prop := linkTakesRow.holds Try.pinned (OpenSpec.ofChange linkTakesWrong)

/-- 'davitlaw18.LinkPlays': WHATEVER THE INPUT: true; the input reads as it did. -/
def linkPlaysSpec : ChangeSpec := { name := "linkPlays", fn := fun _ => fun
  | [d1, d2] => { results := [.lit (.bool true)], args := [d1, d2] }
  | _ => none }
def linkPlaysRow : OpenClaim := { program := "ytjnpohloodcddaa", sum := "61c5ec316c9419243893a9bead6464f332da55429d257d9e0cea9fae7bd381c8", func := "davit/davitlaw18.LinkPlays", spec := "linkPlays", unfollowed := true, recurses := true, apart := false }
def LinkPlaysSaid : Prop := linkPlaysRow.holds Try.pinned (OpenSpec.ofChange linkPlaysSpec)

/-- ITS FALSE NEIGHBOUR: 'it returns false'. Refute it at one input. -/
def linkPlaysWrong : ChangeSpec := { name := "linkPlays", fn := fun _ => fun
  | [d1, d2] => { results := [.lit (.bool false)], args := [d1, d2] }
  | _ => none }
def LinkPlaysWrongFalsely : Prop := linkPlaysRow.holds Try.pinned (OpenSpec.ofChange linkPlaysWrong)

/- THE SECOND FORM. 'bulk': how many values and letters a reading holds, each counted each time it is reached (what is shared counts as often as it is met; a slice's spare places count too). A statement '..UptoSaid' is the law's where the arguments, and the package variables that the reading takes, are together of bulk at most 1048576: NARROWER than '..Said'. Prove '..Said' where nothing that the law and all that it calls make is longer than what came in: it says more and counts as full. Else prove '..UptoSaid'. A law counts once. -/
mutual
def uptoBulk {H : Type} : DataW H → Nat
  | .lit (.string bytes) => bytes.length + 1
  | .lit _ => 1
  | .nil => 1
  | .ptr d => uptoBulk d + 1
  | .slice elems spare => uptoBulkAll elems + uptoBulkAll spare + 1
  | .agg parts => uptoBulkAll parts + 1
  | .iface _ d => uptoBulk d + 1
  | .map entries => uptoBulkEntries entries + 1
  | .held _ => 1
def uptoBulkAll {H : Type} : List (DataW H) → Nat
  | [] => 0
  | d :: r => uptoBulk d + uptoBulkAll r
def uptoBulkEntries {H : Type} : List (Lit × DataW H) → Nat
  | [] => 0
  | x :: r => uptoBulkEntry x + uptoBulkEntries r
def uptoBulkEntry {H : Type} : Lit × DataW H → Nat
  | (.string bytes, d) => bytes.length + uptoBulk d + 1
  | (_, d) => uptoBulk d + 1
 end
def uptoSmall : (H : Type) → List (DataW H) → Bool := fun _ ds => decide (uptoBulkAll ds ≤ 1048576)
def OpenSpec.upto (s : _root_.Go.ChangeSpec) : _root_.Go.OpenSpec := { _root_.Go.OpenSpec.ofChange s with cond := some uptoSmall }

/-- 'davitlaw01.CrcBursts', WHERE WHAT IT READS IS OF BULK AT MOST 1048576: true; the input reads as it did. -/
def crcBurstsUptoRow : OpenClaim := { program := "ytjnpohloodcddaa", sum := "61c5ec316c9419243893a9bead6464f332da55429d257d9e0cea9fae7bd381c8", func := "davit/davitlaw01.CrcBursts", spec := "crcBursts", unfollowed := true, recurses := true, apart := false, narrowed := true }
def CrcBurstsUptoSaid : Prop := crcBurstsUptoRow.holds Try.pinned (OpenSpec.upto crcBurstsSpec)

/-- 'davitlaw01.CrcParts', WHERE WHAT IT READS IS OF BULK AT MOST 1048576: true; the input reads as it did. -/
def crcPartsUptoRow : OpenClaim := { program := "ytjnpohloodcddaa", sum := "61c5ec316c9419243893a9bead6464f332da55429d257d9e0cea9fae7bd381c8", func := "davit/davitlaw01.CrcParts", spec := "crcParts", unfollowed := true, recurses := true, apart := false, narrowed := true }
def CrcPartsUptoSaid : Prop := crcPartsUptoRow.holds Try.pinned (OpenSpec.upto crcPartsSpec)

/-- 'davitlaw01.CrcSums', WHERE WHAT IT READS IS OF BULK AT MOST 1048576: true; the input reads as it did. -/
def crcSumsUptoRow : OpenClaim := { program := "ytjnpohloodcddaa", sum := "61c5ec316c9419243893a9bead6464f332da55429d257d9e0cea9fae7bd381c8", func := "davit/davitlaw01.CrcSums", spec := "crcSums", unfollowed := true, recurses := true, apart := false, narrowed := true }
def CrcSumsUptoSaid : Prop := crcSumsUptoRow.holds Try.pinned (OpenSpec.upto crcSumsSpec)

/-- 'davitlaw02.PackWrites', WHERE WHAT IT READS IS OF BULK AT MOST 1048576: true; the input reads as it did. -/
def packWritesUptoRow : OpenClaim := { program := "ytjnpohloodcddaa", sum := "61c5ec316c9419243893a9bead6464f332da55429d257d9e0cea9fae7bd381c8", func := "davit/davitlaw02.PackWrites", spec := "packWrites", unfollowed := true, recurses := true, apart := false, narrowed := true }
def PackWritesUptoSaid : Prop := packWritesUptoRow.holds Try.pinned (OpenSpec.upto packWritesSpec)

/-- 'davitlaw17.PeerFeeds', WHERE WHAT IT READS IS OF BULK AT MOST 1048576: true; the input reads as it did. -/
def peerFeedsUptoRow : OpenClaim := { program := "ytjnpohloodcddaa", sum := "61c5ec316c9419243893a9bead6464f332da55429d257d9e0cea9fae7bd381c8", func := "davit/davitlaw17.PeerFeeds", spec := "peerFeeds", unfollowed := true, recurses := true, apart := false, narrowed := true }
def PeerFeedsUptoSaid : Prop := peerFeedsUptoRow.holds Try.pinned (OpenSpec.upto peerFeedsSpec)

/-- 'davitlaw17.PeerParts', WHERE WHAT IT READS IS OF BULK AT MOST 1048576: true; the input reads as it did. -/
def peerPartsUptoRow : OpenClaim := { program := "ytjnpohloodcddaa", sum := "61c5ec316c9419243893a9bead6464f332da55429d257d9e0cea9fae7bd381c8", func := "davit/davitlaw17.PeerParts", spec := "peerParts", unfollowed := true, recurses := true, apart := false, narrowed := true }
def PeerPartsUptoSaid : Prop := peerPartsUptoRow.holds Try.pinned (OpenSpec.upto peerPartsSpec)

/-- 'davitlaw02.PackReads', WHERE WHAT IT READS IS OF BULK AT MOST 1048576: true; the input reads as it did. -/
def packReadsUptoRow : OpenClaim := { program := "ytjnpohloodcddaa", sum := "61c5ec316c9419243893a9bead6464f332da55429d257d9e0cea9fae7bd381c8", func := "davit/davitlaw02.PackReads", spec := "packReads", unfollowed := true, recurses := true, apart := false, narrowed := true }
def PackReadsUptoSaid : Prop := packReadsUptoRow.holds Try.pinned (OpenSpec.upto packReadsSpec)

/-- 'davitlaw02.PackBack', WHERE WHAT IT READS IS OF BULK AT MOST 1048576: true; the input reads as it did. -/
def packBackUptoRow : OpenClaim := { program := "ytjnpohloodcddaa", sum := "61c5ec316c9419243893a9bead6464f332da55429d257d9e0cea9fae7bd381c8", func := "davit/davitlaw02.PackBack", spec := "packBack", unfollowed := true, recurses := true, apart := false, narrowed := true }
def PackBackUptoSaid : Prop := packBackUptoRow.holds Try.pinned (OpenSpec.upto packBackSpec)

/-- 'davitlaw04.FragCuts', WHERE WHAT IT READS IS OF BULK AT MOST 1048576: true; the input reads as it did. -/
def fragCutsUptoRow : OpenClaim := { program := "ytjnpohloodcddaa", sum := "61c5ec316c9419243893a9bead6464f332da55429d257d9e0cea9fae7bd381c8", func := "davit/davitlaw04.FragCuts", spec := "fragCuts", unfollowed := true, recurses := true, apart := false, narrowed := true }
def FragCutsUptoSaid : Prop := fragCutsUptoRow.holds Try.pinned (OpenSpec.upto fragCutsSpec)

/-- 'davitlaw04.FragBack', WHERE WHAT IT READS IS OF BULK AT MOST 1048576: true; the input reads as it did. -/
def fragBackUptoRow : OpenClaim := { program := "ytjnpohloodcddaa", sum := "61c5ec316c9419243893a9bead6464f332da55429d257d9e0cea9fae7bd381c8", func := "davit/davitlaw04.FragBack", spec := "fragBack", unfollowed := true, recurses := true, apart := false, narrowed := true }
def FragBackUptoSaid : Prop := fragBackUptoRow.holds Try.pinned (OpenSpec.upto fragBackSpec)

/-- 'davitlaw18.LinkTakes', WHERE WHAT IT READS IS OF BULK AT MOST 1048576: true; the input reads as it did. -/
def linkTakesUptoRow : OpenClaim := { program := "ytjnpohloodcddaa", sum := "61c5ec316c9419243893a9bead6464f332da55429d257d9e0cea9fae7bd381c8", func := "davit/davitlaw18.LinkTakes", spec := "linkTakes", unfollowed := true, recurses := true, apart := false, narrowed := true }
def LinkTakesUptoSaid : Prop := linkTakesUptoRow.holds Try.pinned (OpenSpec.upto linkTakesSpec)

/-- 'davitlaw18.LinkPlays', WHERE WHAT IT READS IS OF BULK AT MOST 1048576: true; the input reads as it did. -/
def linkPlaysUptoRow : OpenClaim := { program := "ytjnpohloodcddaa", sum := "61c5ec316c9419243893a9bead6464f332da55429d257d9e0cea9fae7bd381c8", func := "davit/davitlaw18.LinkPlays", spec := "linkPlays", unfollowed := true, recurses := true, apart := false, narrowed := true }
def LinkPlaysUptoSaid : Prop := linkPlaysUptoRow.holds Try.pinned (OpenSpec.upto linkPlaysSpec)

end Rows
end Go.Proofs.Ytjnpohloodcddaa
