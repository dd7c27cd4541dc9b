/-
  No cell of these rows narrows 'for every input' (looked for: loops, veiled, ifaces, maps, wideKeys, modest, calm, conditions, laid).
  DERIVED. THE GIVEN ROWS OF THIS SEAT. 12 by the template 'for every input the law returns true; each argument reads behind the call as it read before'; 0 by the template 'total and deterministic' (their statements: YtdkigndgdkaoiaaTotals.lean).
  GIVEN WITH THE SEED: the statements are not yours to turn. If you find one false, say at which input.
  Laid BY PROGRAM, IN A SANDBOX (cutbox-rows.mjs): the forced cells as the released guide's own fill.sh prints them over the translation 7a396ad8a7ce487e… (all of the seat's roots in one cut). By AI agents, Wed Nov 11 2026. No macro, syntax, notation, axiom, sorry.
-/
import Derived.Test.YtdkigndgdkaoiaaChecked
import GoSem.Claim
import GoSem.ClaimJoined
import GoSem.ClaimMapViews
import Derived.JoinedTies
import Derived.KernelRfl
namespace Go.Proofs.Ytdkigndgdkaoiaa
/- THE CELL 'sum', in the pinned program and in every row, IS THE sha256 OF THE DUMP (.gsa) THAT YtdkigndgdkaoiaaProg.lean LOADS. Nothing in Lean hashes anything: it is a label: what it is worth is what the hold of that sum in a sandbox is worth. -/
noncomputable def Try.pinned : Pinned := { name := "ytdkigndgdkaoiaa", sum := "7a396ad8a7ce487e6c9d820fabbde6a1f6e78a5303a1b43c0f29208b7c3cbd00", checked := Try.checked }
namespace Rows
def none {H : Type} : Left H := { results := [], args := [] }

/-- 'armaturelaw08.PackNumbers': WHATEVER THE INPUT: true; the input reads as it did. -/
def packNumbersSpec : ChangeSpec := { name := "packNumbers", fn := fun _ => fun
  | [d1, d2, d3] => { results := [.lit (.bool true)], args := [d1, d2, d3] }
  | _ => none }
def packNumbersRow : OpenClaim := { program := "ytdkigndgdkaoiaa", sum := "7a396ad8a7ce487e6c9d820fabbde6a1f6e78a5303a1b43c0f29208b7c3cbd00", func := "armature/armaturelaw08.PackNumbers", spec := "packNumbers", recurses := true, plainKeys := false, apart := false }
def PackNumbersSaid : Prop := packNumbersRow.holds Try.pinned (OpenSpec.ofChange packNumbersSpec)

/-- ITS FALSE NEIGHBOUR: 'it returns false'. Refute it at one input. -/
def packNumbersWrong : ChangeSpec := { name := "packNumbers", fn := fun _ => fun
  | [d1, d2, d3] => { results := [.lit (.bool false)], args := [d1, d2, d3] }
  | _ => none }
def PackNumbersWrongFalsely : Prop := packNumbersRow.holds Try.pinned (OpenSpec.ofChange packNumbersWrong)

/-- 'armaturelaw08.PackTakes': WHATEVER THE INPUT: true; the input reads as it did. -/
def packTakesSpec : ChangeSpec := { name := "packTakes", fn := fun _ => fun
  | [d1, d2] => { results := [.lit (.bool true)], args := [d1, d2] }
  | _ => none }
def packTakesRow : OpenClaim := { program := "ytdkigndgdkaoiaa", sum := "7a396ad8a7ce487e6c9d820fabbde6a1f6e78a5303a1b43c0f29208b7c3cbd00", func := "armature/armaturelaw08.PackTakes", spec := "packTakes", plainKeys := false, apart := false }
def PackTakesSaid : Prop := packTakesRow.holds Try.pinned (OpenSpec.ofChange packTakesSpec)

/-- ITS FALSE NEIGHBOUR: 'it returns false'. Refute it at one input. -/
def packTakesWrong : ChangeSpec := { name := "packTakes", fn := fun _ => fun
  | [d1, d2] => { results := [.lit (.bool false)], args := [d1, d2] }
  | _ => none }
def PackTakesWrongFalsely : Prop := packTakesRow.holds Try.pinned (OpenSpec.ofChange packTakesWrong)

/-- 'armaturelaw08.PackKeys': WHATEVER THE INPUT: true; the input reads as it did. -/
def packKeysSpec : ChangeSpec := { name := "packKeys", fn := fun _ => fun
  | [d1, d2, d3] => { results := [.lit (.bool true)], args := [d1, d2, d3] }
  | _ => none }
def packKeysRow : OpenClaim := { program := "ytdkigndgdkaoiaa", sum := "7a396ad8a7ce487e6c9d820fabbde6a1f6e78a5303a1b43c0f29208b7c3cbd00", func := "armature/armaturelaw08.PackKeys", spec := "packKeys", recurses := true, plainKeys := false, apart := false }
def PackKeysSaid : Prop := packKeysRow.holds Try.pinned (OpenSpec.ofChange packKeysSpec)

/-- ITS FALSE NEIGHBOUR: 'it returns false'. Refute it at one input. -/
def packKeysWrong : ChangeSpec := { name := "packKeys", fn := fun _ => fun
  | [d1, d2, d3] => { results := [.lit (.bool false)], args := [d1, d2, d3] }
  | _ => none }
def PackKeysWrongFalsely : Prop := packKeysRow.holds Try.pinned (OpenSpec.ofChange packKeysWrong)

/-- 'armaturelaw04.LexAll': WHATEVER THE INPUT: true; the input reads as it did. -/
def lexAllSpec : ChangeSpec := { name := "lexAll", fn := fun _ => fun
  | [d] => { results := [.lit (.bool true)], args := [d] }
  | _ => none }
def lexAllRow : OpenClaim := { program := "ytdkigndgdkaoiaa", sum := "7a396ad8a7ce487e6c9d820fabbde6a1f6e78a5303a1b43c0f29208b7c3cbd00", func := "armature/armaturelaw04.LexAll", spec := "lexAll", inPlace := ["internal/bytealg.CountString", "internal/bytealg.IndexByteString", "internal/bytealg.IndexString"], named := ["internal/bytealg.MaxLen"], plainKeys := false, apart := false }
def LexAllSaid : Prop := lexAllRow.holds Try.pinned (OpenSpec.ofChange lexAllSpec)

/-- ITS FALSE NEIGHBOUR: 'it returns false'. Refute it at one input. -/
def lexAllWrong : ChangeSpec := { name := "lexAll", fn := fun _ => fun
  | [d] => { results := [.lit (.bool false)], args := [d] }
  | _ => none }
def LexAllWrongFalsely : Prop := lexAllRow.holds Try.pinned (OpenSpec.ofChange lexAllWrong)

/-- 'armaturelaw04.LexNames': WHATEVER THE INPUT: true; the input reads as it did. -/
def lexNamesSpec : ChangeSpec := { name := "lexNames", fn := fun _ => fun
  | [d1, d2] => { results := [.lit (.bool true)], args := [d1, d2] }
  | _ => none }
def lexNamesRow : OpenClaim := { program := "ytdkigndgdkaoiaa", sum := "7a396ad8a7ce487e6c9d820fabbde6a1f6e78a5303a1b43c0f29208b7c3cbd00", func := "armature/armaturelaw04.LexNames", spec := "lexNames", inPlace := ["internal/bytealg.CountString", "internal/bytealg.IndexByteString", "internal/bytealg.IndexString"], named := ["internal/bytealg.MaxLen"], plainKeys := false, apart := false }
def LexNamesSaid : Prop := lexNamesRow.holds Try.pinned (OpenSpec.ofChange lexNamesSpec)

/-- ITS FALSE NEIGHBOUR: 'it returns false'. Refute it at one input. -/
def lexNamesWrong : ChangeSpec := { name := "lexNames", fn := fun _ => fun
  | [d1, d2] => { results := [.lit (.bool false)], args := [d1, d2] }
  | _ => none }
def LexNamesWrongFalsely : Prop := lexNamesRow.holds Try.pinned (OpenSpec.ofChange lexNamesWrong)

/-- 'armaturelaw04.LexCovers': WHATEVER THE INPUT: true; the input reads as it did. -/
def lexCoversSpec : ChangeSpec := { name := "lexCovers", fn := fun _ => fun
  | [d] => { results := [.lit (.bool true)], args := [d] }
  | _ => none }
def lexCoversRow : OpenClaim := { program := "ytdkigndgdkaoiaa", sum := "7a396ad8a7ce487e6c9d820fabbde6a1f6e78a5303a1b43c0f29208b7c3cbd00", func := "armature/armaturelaw04.LexCovers", spec := "lexCovers", inPlace := ["internal/bytealg.CountString", "internal/bytealg.IndexByteString", "internal/bytealg.IndexString"], named := ["internal/bytealg.MaxLen"], plainKeys := false, apart := false }
def LexCoversSaid : Prop := lexCoversRow.holds Try.pinned (OpenSpec.ofChange lexCoversSpec)

/-- ITS FALSE NEIGHBOUR: 'it returns false'. Refute it at one input. -/
def lexCoversWrong : ChangeSpec := { name := "lexCovers", fn := fun _ => fun
  | [d] => { results := [.lit (.bool false)], args := [d] }
  | _ => none }
def LexCoversWrongFalsely : Prop := lexCoversRow.holds Try.pinned (OpenSpec.ofChange lexCoversWrong)

/-- 'armaturelaw04.LexAgain': WHATEVER THE INPUT: true; the input reads as it did. -/
def lexAgainSpec : ChangeSpec := { name := "lexAgain", fn := fun _ => fun
  | [d] => { results := [.lit (.bool true)], args := [d] }
  | _ => none }
def lexAgainRow : OpenClaim := { program := "ytdkigndgdkaoiaa", sum := "7a396ad8a7ce487e6c9d820fabbde6a1f6e78a5303a1b43c0f29208b7c3cbd00", func := "armature/armaturelaw04.LexAgain", spec := "lexAgain", inPlace := ["internal/bytealg.CountString", "internal/bytealg.IndexByteString", "internal/bytealg.IndexString"], named := ["internal/bytealg.MaxLen"], plainKeys := false, apart := false }
def LexAgainSaid : Prop := lexAgainRow.holds Try.pinned (OpenSpec.ofChange lexAgainSpec)

/-- ITS FALSE NEIGHBOUR: 'it returns false'. Refute it at one input. -/
def lexAgainWrong : ChangeSpec := { name := "lexAgain", fn := fun _ => fun
  | [d] => { results := [.lit (.bool false)], args := [d] }
  | _ => none }
def LexAgainWrongFalsely : Prop := lexAgainRow.holds Try.pinned (OpenSpec.ofChange lexAgainWrong)

/-- 'armaturelaw04.LexParts': WHATEVER THE INPUT: true; the input reads as it did. -/
def lexPartsSpec : ChangeSpec := { name := "lexParts", fn := fun _ => fun
  | [d1, d2] => { results := [.lit (.bool true)], args := [d1, d2] }
  | _ => none }
def lexPartsRow : OpenClaim := { program := "ytdkigndgdkaoiaa", sum := "7a396ad8a7ce487e6c9d820fabbde6a1f6e78a5303a1b43c0f29208b7c3cbd00", func := "armature/armaturelaw04.LexParts", spec := "lexParts", inPlace := ["internal/bytealg.CountString", "internal/bytealg.IndexByteString", "internal/bytealg.IndexString"], named := ["internal/bytealg.MaxLen"], plainKeys := false, apart := false }
def LexPartsSaid : Prop := lexPartsRow.holds Try.pinned (OpenSpec.ofChange lexPartsSpec)

/-- ITS FALSE NEIGHBOUR: 'it returns false'. Refute it at one input. -/
def lexPartsWrong : ChangeSpec := { name := "lexParts", fn := fun _ => fun
  | [d1, d2] => { results := [.lit (.bool false)], args := [d1, d2] }
  | _ => none }
def LexPartsWrongFalsely : Prop := lexPartsRow.holds Try.pinned (OpenSpec.ofChange lexPartsWrong)

/-- 'armaturelaw06.NetlistParses': WHATEVER THE INPUT: true; the input reads as it did. -/
def netlistParsesSpec : ChangeSpec := { name := "netlistParses", fn := fun _ => fun
  | [d] => { results := [.lit (.bool true)], args := [d] }
  | _ => none }
def netlistParsesRow : OpenClaim := { program := "ytdkigndgdkaoiaa", sum := "7a396ad8a7ce487e6c9d820fabbde6a1f6e78a5303a1b43c0f29208b7c3cbd00", func := "armature/armaturelaw06.NetlistParses", spec := "netlistParses", inPlace := ["internal/bytealg.CountString", "internal/bytealg.IndexByteString", "internal/bytealg.IndexString"], unfollowed := true, recurses := true, named := ["internal/bytealg.MaxLen"], plainKeys := false, apart := false }
def NetlistParsesSaid : Prop := netlistParsesRow.holds Try.pinned (OpenSpec.ofChange netlistParsesSpec)

/-- ITS FALSE NEIGHBOUR: 'it returns false'. Refute it at one input. -/
def netlistParsesWrong : ChangeSpec := { name := "netlistParses", fn := fun _ => fun
  | [d] => { results := [.lit (.bool false)], args := [d] }
  | _ => none }
def NetlistParsesWrongFalsely : Prop := netlistParsesRow.holds Try.pinned (OpenSpec.ofChange netlistParsesWrong)

/-- 'armaturelaw06.NetlistMakes': WHATEVER THE INPUT: true; the input reads as it did. -/
def netlistMakesSpec : ChangeSpec := { name := "netlistMakes", fn := fun _ => fun
  | [d] => { results := [.lit (.bool true)], args := [d] }
  | _ => none }
def netlistMakesRow : OpenClaim := { program := "ytdkigndgdkaoiaa", sum := "7a396ad8a7ce487e6c9d820fabbde6a1f6e78a5303a1b43c0f29208b7c3cbd00", func := "armature/armaturelaw06.NetlistMakes", spec := "netlistMakes", inPlace := ["internal/bytealg.CountString", "internal/bytealg.IndexByteString", "internal/bytealg.IndexString"], unfollowed := true, recurses := true, named := ["internal/bytealg.MaxLen"], plainKeys := false, apart := false }
def NetlistMakesSaid : Prop := netlistMakesRow.holds Try.pinned (OpenSpec.ofChange netlistMakesSpec)

/-- ITS FALSE NEIGHBOUR: 'it returns false'. Refute it at one input. -/
def netlistMakesWrong : ChangeSpec := { name := "netlistMakes", fn := fun _ => fun
  | [d] => { results := [.lit (.bool false)], args := [d] }
  | _ => none }
def NetlistMakesWrongFalsely : Prop := netlistMakesRow.holds Try.pinned (OpenSpec.ofChange netlistMakesWrong)

/-- 'armaturelaw06.NetlistCuts': WHATEVER THE INPUT: true; the input reads as it did. -/
def netlistCutsSpec : ChangeSpec := { name := "netlistCuts", fn := fun _ => fun
  | [d1, d2] => { results := [.lit (.bool true)], args := [d1, d2] }
  | _ => none }
def netlistCutsRow : OpenClaim := { program := "ytdkigndgdkaoiaa", sum := "7a396ad8a7ce487e6c9d820fabbde6a1f6e78a5303a1b43c0f29208b7c3cbd00", func := "armature/armaturelaw06.NetlistCuts", spec := "netlistCuts", inPlace := ["internal/bytealg.CountString", "internal/bytealg.IndexByteString", "internal/bytealg.IndexString"], unfollowed := true, recurses := true, named := ["internal/bytealg.MaxLen"], plainKeys := false, apart := false }
def NetlistCutsSaid : Prop := netlistCutsRow.holds Try.pinned (OpenSpec.ofChange netlistCutsSpec)

/-- ITS FALSE NEIGHBOUR: 'it returns false'. Refute it at one input. -/
def netlistCutsWrong : ChangeSpec := { name := "netlistCuts", fn := fun _ => fun
  | [d1, d2] => { results := [.lit (.bool false)], args := [d1, d2] }
  | _ => none }
def NetlistCutsWrongFalsely : Prop := netlistCutsRow.holds Try.pinned (OpenSpec.ofChange netlistCutsWrong)

/-- 'armaturelaw06.NetlistLimits': WHATEVER THE INPUT: true; the input reads as it did. -/
def netlistLimitsSpec : ChangeSpec := { name := "netlistLimits", fn := fun _ => fun
  | [d1, d2] => { results := [.lit (.bool true)], args := [d1, d2] }
  | _ => none }
def netlistLimitsRow : OpenClaim := { program := "ytdkigndgdkaoiaa", sum := "7a396ad8a7ce487e6c9d820fabbde6a1f6e78a5303a1b43c0f29208b7c3cbd00", func := "armature/armaturelaw06.NetlistLimits", spec := "netlistLimits", inPlace := ["internal/bytealg.CountString", "internal/bytealg.IndexByteString", "internal/bytealg.IndexString"], unfollowed := true, recurses := true, named := ["internal/bytealg.MaxLen"], plainKeys := false, apart := false }
def NetlistLimitsSaid : Prop := netlistLimitsRow.holds Try.pinned (OpenSpec.ofChange netlistLimitsSpec)

/-- ITS FALSE NEIGHBOUR: 'it returns false'. Refute it at one input. -/
def netlistLimitsWrong : ChangeSpec := { name := "netlistLimits", fn := fun _ => fun
  | [d1, d2] => { results := [.lit (.bool false)], args := [d1, d2] }
  | _ => none }
def NetlistLimitsWrongFalsely : Prop := netlistLimitsRow.holds Try.pinned (OpenSpec.ofChange netlistLimitsWrong)

/- THE SECOND FORM. 'bulk': how many values and letters a reading holds, each counted each time it is reached (what is shared counts as often as it is met; a slice's spare places count too). A statement '..UptoSaid' is the law's where the arguments, and the package variables that the reading takes, are together of bulk at most 1048576: NARROWER than '..Said'. Prove '..Said' where nothing that the law and all that it calls make is longer than what came in: it says more and counts as full. Else prove '..UptoSaid'. A law counts once. -/
mutual
def uptoBulk {H : Type} : DataW H → Nat
  | .lit (.string bytes) => bytes.length + 1
  | .lit _ => 1
  | .nil => 1
  | .ptr d => uptoBulk d + 1
  | .slice elems spare => uptoBulkAll elems + uptoBulkAll spare + 1
  | .agg parts => uptoBulkAll parts + 1
  | .iface _ d => uptoBulk d + 1
  | .map entries => uptoBulkEntries entries + 1
  | .held _ => 1
def uptoBulkAll {H : Type} : List (DataW H) → Nat
  | [] => 0
  | d :: r => uptoBulk d + uptoBulkAll r
def uptoBulkEntries {H : Type} : List (Lit × DataW H) → Nat
  | [] => 0
  | x :: r => uptoBulkEntry x + uptoBulkEntries r
def uptoBulkEntry {H : Type} : Lit × DataW H → Nat
  | (.string bytes, d) => bytes.length + uptoBulk d + 1
  | (_, d) => uptoBulk d + 1
 end
def uptoSmall : (H : Type) → List (DataW H) → Bool := fun _ ds => decide (uptoBulkAll ds ≤ 1048576)
def OpenSpec.upto (s : _root_.Go.ChangeSpec) : _root_.Go.OpenSpec := { _root_.Go.OpenSpec.ofChange s with cond := some uptoSmall }

/-- 'armaturelaw08.PackNumbers', WHERE WHAT IT READS IS OF BULK AT MOST 1048576: true; the input reads as it did. -/
def packNumbersUptoRow : OpenClaim := { program := "ytdkigndgdkaoiaa", sum := "7a396ad8a7ce487e6c9d820fabbde6a1f6e78a5303a1b43c0f29208b7c3cbd00", func := "armature/armaturelaw08.PackNumbers", spec := "packNumbers", recurses := true, plainKeys := false, apart := false, narrowed := true }
def PackNumbersUptoSaid : Prop := packNumbersUptoRow.holds Try.pinned (OpenSpec.upto packNumbersSpec)

/-- 'armaturelaw08.PackTakes', WHERE WHAT IT READS IS OF BULK AT MOST 1048576: true; the input reads as it did. -/
def packTakesUptoRow : OpenClaim := { program := "ytdkigndgdkaoiaa", sum := "7a396ad8a7ce487e6c9d820fabbde6a1f6e78a5303a1b43c0f29208b7c3cbd00", func := "armature/armaturelaw08.PackTakes", spec := "packTakes", plainKeys := false, apart := false, narrowed := true }
def PackTakesUptoSaid : Prop := packTakesUptoRow.holds Try.pinned (OpenSpec.upto packTakesSpec)

/-- 'armaturelaw08.PackKeys', WHERE WHAT IT READS IS OF BULK AT MOST 1048576: true; the input reads as it did. -/
def packKeysUptoRow : OpenClaim := { program := "ytdkigndgdkaoiaa", sum := "7a396ad8a7ce487e6c9d820fabbde6a1f6e78a5303a1b43c0f29208b7c3cbd00", func := "armature/armaturelaw08.PackKeys", spec := "packKeys", recurses := true, plainKeys := false, apart := false, narrowed := true }
def PackKeysUptoSaid : Prop := packKeysUptoRow.holds Try.pinned (OpenSpec.upto packKeysSpec)

/-- 'armaturelaw04.LexAll', WHERE WHAT IT READS IS OF BULK AT MOST 1048576: true; the input reads as it did. -/
def lexAllUptoRow : OpenClaim := { program := "ytdkigndgdkaoiaa", sum := "7a396ad8a7ce487e6c9d820fabbde6a1f6e78a5303a1b43c0f29208b7c3cbd00", func := "armature/armaturelaw04.LexAll", spec := "lexAll", inPlace := ["internal/bytealg.CountString", "internal/bytealg.IndexByteString", "internal/bytealg.IndexString"], named := ["internal/bytealg.MaxLen"], plainKeys := false, apart := false, narrowed := true }
def LexAllUptoSaid : Prop := lexAllUptoRow.holds Try.pinned (OpenSpec.upto lexAllSpec)

/-- 'armaturelaw04.LexNames', WHERE WHAT IT READS IS OF BULK AT MOST 1048576: true; the input reads as it did. -/
def lexNamesUptoRow : OpenClaim := { program := "ytdkigndgdkaoiaa", sum := "7a396ad8a7ce487e6c9d820fabbde6a1f6e78a5303a1b43c0f29208b7c3cbd00", func := "armature/armaturelaw04.LexNames", spec := "lexNames", inPlace := ["internal/bytealg.CountString", "internal/bytealg.IndexByteString", "internal/bytealg.IndexString"], named := ["internal/bytealg.MaxLen"], plainKeys := false, apart := false, narrowed := true }
def LexNamesUptoSaid : Prop := lexNamesUptoRow.holds Try.pinned (OpenSpec.upto lexNamesSpec)

/-- 'armaturelaw04.LexCovers', WHERE WHAT IT READS IS OF BULK AT MOST 1048576: true; the input reads as it did. -/
def lexCoversUptoRow : OpenClaim := { program := "ytdkigndgdkaoiaa", sum := "7a396ad8a7ce487e6c9d820fabbde6a1f6e78a5303a1b43c0f29208b7c3cbd00", func := "armature/armaturelaw04.LexCovers", spec := "lexCovers", inPlace := ["internal/bytealg.CountString", "internal/bytealg.IndexByteString", "internal/bytealg.IndexString"], named := ["internal/bytealg.MaxLen"], plainKeys := false, apart := false, narrowed := true }
def LexCoversUptoSaid : Prop := lexCoversUptoRow.holds Try.pinned (OpenSpec.upto lexCoversSpec)

/-- 'armaturelaw04.LexAgain', WHERE WHAT IT READS IS OF BULK AT MOST 1048576: true; the input reads as it did. -/
def lexAgainUptoRow : OpenClaim := { program := "ytdkigndgdkaoiaa", sum := "7a396ad8a7ce487e6c9d820fabbde6a1f6e78a5303a1b43c0f29208b7c3cbd00", func := "armature/armaturelaw04.LexAgain", spec := "lexAgain", inPlace := ["internal/bytealg.CountString", "internal/bytealg.IndexByteString", "internal/bytealg.IndexString"], named := ["internal/bytealg.MaxLen"], plainKeys := false, apart := false, narrowed := true }
def LexAgainUptoSaid : Prop := lexAgainUptoRow.holds Try.pinned (OpenSpec.upto lexAgainSpec)

/-- 'armaturelaw04.LexParts', WHERE WHAT IT READS IS OF BULK AT MOST 1048576: true; the input reads as it did. -/
def lexPartsUptoRow : OpenClaim := { program := "ytdkigndgdkaoiaa", sum := "7a396ad8a7ce487e6c9d820fabbde6a1f6e78a5303a1b43c0f29208b7c3cbd00", func := "armature/armaturelaw04.LexParts", spec := "lexParts", inPlace := ["internal/bytealg.CountString", "internal/bytealg.IndexByteString", "internal/bytealg.IndexString"], named := ["internal/bytealg.MaxLen"], plainKeys := false, apart := false, narrowed := true }
def LexPartsUptoSaid : Prop := lexPartsUptoRow.holds Try.pinned (OpenSpec.upto lexPartsSpec)

/-- 'armaturelaw06.NetlistParses', WHERE WHAT IT READS IS OF BULK AT MOST 1048576: true; the input reads as it did. -/
def netlistParsesUptoRow : OpenClaim := { program := "ytdkigndgdkaoiaa", sum := "7a396ad8a7ce487e6c9d820fabbde6a1f6e78a5303a1b43c0f29208b7c3cbd00", func := "armature/armaturelaw06.NetlistParses", spec := "netlistParses", inPlace := ["internal/bytealg.CountString", "internal/bytealg.IndexByteString", "internal/bytealg.IndexString"], unfollowed := true, recurses := true, named := ["internal/bytealg.MaxLen"], plainKeys := false, apart := false, narrowed := true }
def NetlistParsesUptoSaid : Prop := netlistParsesUptoRow.holds Try.pinned (OpenSpec.upto netlistParsesSpec)

/-- 'armaturelaw06.NetlistMakes', WHERE WHAT IT READS IS OF BULK AT MOST 1048576: true; the input reads as it did. -/
def netlistMakesUptoRow : OpenClaim := { program := "ytdkigndgdkaoiaa", sum := "7a396ad8a7ce487e6c9d820fabbde6a1f6e78a5303a1b43c0f29208b7c3cbd00", func := "armature/armaturelaw06.NetlistMakes", spec := "netlistMakes", inPlace := ["internal/bytealg.CountString", "internal/bytealg.IndexByteString", "internal/bytealg.IndexString"], unfollowed := true, recurses := true, named := ["internal/bytealg.MaxLen"], plainKeys := false, apart := false, narrowed := true }
def NetlistMakesUptoSaid : Prop := netlistMakesUptoRow.holds Try.pinned (OpenSpec.upto netlistMakesSpec)

/-- 'armaturelaw06.NetlistCuts', WHERE WHAT IT READS IS OF BULK AT MOST 1048576: true; the input reads as it did. -/
def netlistCutsUptoRow : OpenClaim := { program := "ytdkigndgdkaoiaa", sum := "7a396ad8a7ce487e6c9d820fabbde6a1f6e78a5303a1b43c0f29208b7c3cbd00", func := "armature/armaturelaw06.NetlistCuts", spec := "netlistCuts", inPlace := ["internal/bytealg.CountString", "internal/bytealg.IndexByteString", "internal/bytealg.IndexString"], unfollowed := true, recurses := true, named := ["internal/bytealg.MaxLen"], plainKeys := false, apart := false, narrowed := true }
def NetlistCutsUptoSaid : Prop := netlistCutsUptoRow.holds Try.pinned (OpenSpec.upto netlistCutsSpec)

/-- 'armaturelaw06.NetlistLimits', WHERE WHAT IT READS IS OF BULK AT MOST 1048576: true; the input reads as it did. -/
def netlistLimitsUptoRow : OpenClaim := { program := "ytdkigndgdkaoiaa", sum := "7a396ad8a7ce487e6c9d820fabbde6a1f6e78a5303a1b43c0f29208b7c3cbd00", func := "armature/armaturelaw06.NetlistLimits", spec := "netlistLimits", inPlace := ["internal/bytealg.CountString", "internal/bytealg.IndexByteString", "internal/bytealg.IndexString"], unfollowed := true, recurses := true, named := ["internal/bytealg.MaxLen"], plainKeys := false, apart := false, narrowed := true }
def NetlistLimitsUptoSaid : Prop := netlistLimitsUptoRow.holds Try.pinned (OpenSpec.upto netlistLimitsSpec)

end Rows
end Go.Proofs.Ytdkigndgdkaoiaa
