/-
  No cell of these rows narrows 'for every input' (looked for: loops, veiled, ifaces, maps, wideKeys, modest, calm, conditions, laid).
  DERIVED. THE GIVEN ROWS OF THIS SEAT. 12 by the template 'for every input the law returns true; each argument reads behind the call as it read before'; 0 by the template 'total and deterministic' (their statements: YtlmgklebikcbjaaTotals.lean).
  GIVEN WITH THE SEED: the statements are not yours to turn. If you find one false, say at which input.
  Laid BY PROGRAM, IN A SANDBOX (cutbox-rows.mjs): the forced cells as the released guide's own fill.sh prints them over the translation 078c86f5cb7e93a1… (all of the seat's roots in one cut). By AI agents, Wed Nov 11 2026. No macro, syntax, notation, axiom, sorry.
-/
import Derived.Test.YtlmgklebikcbjaaChecked
import GoSem.Claim
import GoSem.ClaimJoined
import GoSem.ClaimMapViews
import Derived.JoinedTies
import Derived.KernelRfl
namespace Go.Proofs.Ytlmgklebikcbjaa
/- THE CELL 'sum', in the pinned program and in every row, IS THE sha256 OF THE DUMP (.gsa) THAT YtlmgklebikcbjaaProg.lean LOADS. Nothing in Lean hashes anything: it is a label: what it is worth is what the hold of that sum in a sandbox is worth. -/
noncomputable def Try.pinned : Pinned := { name := "ytlmgklebikcbjaa", sum := "078c86f5cb7e93a1d0b4e126f256a7bbb8aa4748c78819159c45bd5c1472e8db", checked := Try.checked }
namespace Rows
def none {H : Type} : Left H := { results := [], args := [] }

/-- 'pressmarklaw11.LexKnown': WHATEVER THE INPUT: true; the input reads as it did. -/
def lexKnownSpec : ChangeSpec := { name := "lexKnown", fn := fun _ => fun
  | [] => { results := [.lit (.bool true)], args := [] }
  | _ => none }
def lexKnownRow : OpenClaim := { program := "ytlmgklebikcbjaa", sum := "078c86f5cb7e93a1d0b4e126f256a7bbb8aa4748c78819159c45bd5c1472e8db", func := "pressmark/pressmarklaw11.LexKnown", spec := "lexKnown", inPlace := ["internal/bytealg.IndexByteString"], unfollowed := true, recurses := true, apart := false }
def LexKnownSaid : Prop := lexKnownRow.holds Try.pinned (OpenSpec.ofChange lexKnownSpec)

/-- ITS FALSE NEIGHBOUR: 'it returns false'. Refute it at one input. -/
def lexKnownWrong : ChangeSpec := { name := "lexKnown", fn := fun _ => fun
  | [] => { results := [.lit (.bool false)], args := [] }
  | _ => none }
def LexKnownWrongFalsely : Prop := lexKnownRow.holds Try.pinned (OpenSpec.ofChange lexKnownWrong)

/-- 'pressmarklaw11.LexTokens': WHATEVER THE INPUT: true; the input reads as it did. -/
def lexTokensSpec : ChangeSpec := { name := "lexTokens", fn := fun _ => fun
  | [d] => { results := [.lit (.bool true)], args := [d] }
  | _ => none }
def lexTokensRow : OpenClaim := { program := "ytlmgklebikcbjaa", sum := "078c86f5cb7e93a1d0b4e126f256a7bbb8aa4748c78819159c45bd5c1472e8db", func := "pressmark/pressmarklaw11.LexTokens", spec := "lexTokens", inPlace := ["internal/bytealg.IndexByteString"], unfollowed := true, recurses := true, apart := false }
def LexTokensSaid : Prop := lexTokensRow.holds Try.pinned (OpenSpec.ofChange lexTokensSpec)

/-- ITS FALSE NEIGHBOUR: 'it returns false'. Refute it at one input. -/
def lexTokensWrong : ChangeSpec := { name := "lexTokens", fn := fun _ => fun
  | [d] => { results := [.lit (.bool false)], args := [d] }
  | _ => none }
def LexTokensWrongFalsely : Prop := lexTokensRow.holds Try.pinned (OpenSpec.ofChange lexTokensWrong)

/-- 'pressmarklaw11.LexNames': WHATEVER THE INPUT: true; the input reads as it did. -/
def lexNamesSpec : ChangeSpec := { name := "lexNames", fn := fun _ => fun
  | [d1, d2] => { results := [.lit (.bool true)], args := [d1, d2] }
  | _ => none }
def lexNamesRow : OpenClaim := { program := "ytlmgklebikcbjaa", sum := "078c86f5cb7e93a1d0b4e126f256a7bbb8aa4748c78819159c45bd5c1472e8db", func := "pressmark/pressmarklaw11.LexNames", spec := "lexNames", inPlace := ["internal/bytealg.IndexByteString"], unfollowed := true, recurses := true, apart := false }
def LexNamesSaid : Prop := lexNamesRow.holds Try.pinned (OpenSpec.ofChange lexNamesSpec)

/-- ITS FALSE NEIGHBOUR: 'it returns false'. Refute it at one input. -/
def lexNamesWrong : ChangeSpec := { name := "lexNames", fn := fun _ => fun
  | [d1, d2] => { results := [.lit (.bool false)], args := [d1, d2] }
  | _ => none }
def LexNamesWrongFalsely : Prop := lexNamesRow.holds Try.pinned (OpenSpec.ofChange lexNamesWrong)

/-- 'pressmarklaw11.LexTexts': WHATEVER THE INPUT: true; the input reads as it did. -/
def lexTextsSpec : ChangeSpec := { name := "lexTexts", fn := fun _ => fun
  | [d1, d2] => { results := [.lit (.bool true)], args := [d1, d2] }
  | _ => none }
def lexTextsRow : OpenClaim := { program := "ytlmgklebikcbjaa", sum := "078c86f5cb7e93a1d0b4e126f256a7bbb8aa4748c78819159c45bd5c1472e8db", func := "pressmark/pressmarklaw11.LexTexts", spec := "lexTexts", inPlace := ["internal/bytealg.IndexByteString"], unfollowed := true, recurses := true, apart := false }
def LexTextsSaid : Prop := lexTextsRow.holds Try.pinned (OpenSpec.ofChange lexTextsSpec)

/-- ITS FALSE NEIGHBOUR: 'it returns false'. Refute it at one input. -/
def lexTextsWrong : ChangeSpec := { name := "lexTexts", fn := fun _ => fun
  | [d1, d2] => { results := [.lit (.bool false)], args := [d1, d2] }
  | _ => none }
def LexTextsWrongFalsely : Prop := lexTextsRow.holds Try.pinned (OpenSpec.ofChange lexTextsWrong)

/-- 'pressmarklaw11.LexBlanks': WHATEVER THE INPUT: true; the input reads as it did. -/
def lexBlanksSpec : ChangeSpec := { name := "lexBlanks", fn := fun _ => fun
  | [d1, d2] => { results := [.lit (.bool true)], args := [d1, d2] }
  | _ => none }
def lexBlanksRow : OpenClaim := { program := "ytlmgklebikcbjaa", sum := "078c86f5cb7e93a1d0b4e126f256a7bbb8aa4748c78819159c45bd5c1472e8db", func := "pressmark/pressmarklaw11.LexBlanks", spec := "lexBlanks", inPlace := ["internal/bytealg.IndexByteString"], unfollowed := true, recurses := true, apart := false }
def LexBlanksSaid : Prop := lexBlanksRow.holds Try.pinned (OpenSpec.ofChange lexBlanksSpec)

/-- ITS FALSE NEIGHBOUR: 'it returns false'. Refute it at one input. -/
def lexBlanksWrong : ChangeSpec := { name := "lexBlanks", fn := fun _ => fun
  | [d1, d2] => { results := [.lit (.bool false)], args := [d1, d2] }
  | _ => none }
def LexBlanksWrongFalsely : Prop := lexBlanksRow.holds Try.pinned (OpenSpec.ofChange lexBlanksWrong)

/-- 'pressmarklaw11.LexNumbers': WHATEVER THE INPUT: true; the input reads as it did. -/
def lexNumbersSpec : ChangeSpec := { name := "lexNumbers", fn := fun _ => fun
  | [d1, d2, d3] => { results := [.lit (.bool true)], args := [d1, d2, d3] }
  | _ => none }
def lexNumbersRow : OpenClaim := { program := "ytlmgklebikcbjaa", sum := "078c86f5cb7e93a1d0b4e126f256a7bbb8aa4748c78819159c45bd5c1472e8db", func := "pressmark/pressmarklaw11.LexNumbers", spec := "lexNumbers", inPlace := ["internal/bytealg.IndexByteString"], unfollowed := true, recurses := true, apart := false }
def LexNumbersSaid : Prop := lexNumbersRow.holds Try.pinned (OpenSpec.ofChange lexNumbersSpec)

/-- ITS FALSE NEIGHBOUR: 'it returns false'. Refute it at one input. -/
def lexNumbersWrong : ChangeSpec := { name := "lexNumbers", fn := fun _ => fun
  | [d1, d2, d3] => { results := [.lit (.bool false)], args := [d1, d2, d3] }
  | _ => none }
def LexNumbersWrongFalsely : Prop := lexNumbersRow.holds Try.pinned (OpenSpec.ofChange lexNumbersWrong)

/-- 'pressmarklaw11.LexAnywhere': WHATEVER THE INPUT: true; the input reads as it did. -/
def lexAnywhereSpec : ChangeSpec := { name := "lexAnywhere", fn := fun _ => fun
  | [d1, d2, d3] => { results := [.lit (.bool true)], args := [d1, d2, d3] }
  | _ => none }
def lexAnywhereRow : OpenClaim := { program := "ytlmgklebikcbjaa", sum := "078c86f5cb7e93a1d0b4e126f256a7bbb8aa4748c78819159c45bd5c1472e8db", func := "pressmark/pressmarklaw11.LexAnywhere", spec := "lexAnywhere", inPlace := ["internal/bytealg.IndexByteString"], unfollowed := true, recurses := true, apart := false }
def LexAnywhereSaid : Prop := lexAnywhereRow.holds Try.pinned (OpenSpec.ofChange lexAnywhereSpec)

/-- ITS FALSE NEIGHBOUR: 'it returns false'. Refute it at one input. -/
def lexAnywhereWrong : ChangeSpec := { name := "lexAnywhere", fn := fun _ => fun
  | [d1, d2, d3] => { results := [.lit (.bool false)], args := [d1, d2, d3] }
  | _ => none }
def LexAnywhereWrongFalsely : Prop := lexAnywhereRow.holds Try.pinned (OpenSpec.ofChange lexAnywhereWrong)

/-- 'pressmarklaw12.ParseRefs': WHATEVER THE INPUT: true; the input reads as it did. -/
def parseRefsSpec : ChangeSpec := { name := "parseRefs", fn := fun _ => fun
  | [d1, d2] => { results := [.lit (.bool true)], args := [d1, d2] }
  | _ => none }
def parseRefsRow : OpenClaim := { program := "ytlmgklebikcbjaa", sum := "078c86f5cb7e93a1d0b4e126f256a7bbb8aa4748c78819159c45bd5c1472e8db", func := "pressmark/pressmarklaw12.ParseRefs", spec := "parseRefs", inPlace := ["internal/bytealg.IndexByteString", "internal/bytealg.abigen_runtime_cmpstring"], unfollowed := true, recurses := true, apart := false }
def ParseRefsSaid : Prop := parseRefsRow.holds Try.pinned (OpenSpec.ofChange parseRefsSpec)

/-- ITS FALSE NEIGHBOUR: 'it returns false'. Refute it at one input. -/
def parseRefsWrong : ChangeSpec := { name := "parseRefs", fn := fun _ => fun
  | [d1, d2] => { results := [.lit (.bool false)], args := [d1, d2] }
  | _ => none }
def ParseRefsWrongFalsely : Prop := parseRefsRow.holds Try.pinned (OpenSpec.ofChange parseRefsWrong)

/-- 'pressmarklaw12.ParseValues': WHATEVER THE INPUT: true; the input reads as it did. -/
def parseValuesSpec : ChangeSpec := { name := "parseValues", fn := fun _ => fun
  | [d1, d2] => { results := [.lit (.bool true)], args := [d1, d2] }
  | _ => none }
def parseValuesRow : OpenClaim := { program := "ytlmgklebikcbjaa", sum := "078c86f5cb7e93a1d0b4e126f256a7bbb8aa4748c78819159c45bd5c1472e8db", func := "pressmark/pressmarklaw12.ParseValues", spec := "parseValues", inPlace := ["internal/bytealg.IndexByteString", "internal/bytealg.abigen_runtime_cmpstring"], unfollowed := true, recurses := true, apart := false }
def ParseValuesSaid : Prop := parseValuesRow.holds Try.pinned (OpenSpec.ofChange parseValuesSpec)

/-- ITS FALSE NEIGHBOUR: 'it returns false'. Refute it at one input. -/
def parseValuesWrong : ChangeSpec := { name := "parseValues", fn := fun _ => fun
  | [d1, d2] => { results := [.lit (.bool false)], args := [d1, d2] }
  | _ => none }
def ParseValuesWrongFalsely : Prop := parseValuesRow.holds Try.pinned (OpenSpec.ofChange parseValuesWrong)

/-- 'pressmarklaw12.ParseDeep': WHATEVER THE INPUT: true; the input reads as it did. -/
def parseDeepSpec : ChangeSpec := { name := "parseDeep", fn := fun _ => fun
  | [d1, d2] => { results := [.lit (.bool true)], args := [d1, d2] }
  | _ => none }
def parseDeepRow : OpenClaim := { program := "ytlmgklebikcbjaa", sum := "078c86f5cb7e93a1d0b4e126f256a7bbb8aa4748c78819159c45bd5c1472e8db", func := "pressmark/pressmarklaw12.ParseDeep", spec := "parseDeep", inPlace := ["internal/bytealg.IndexByteString", "internal/bytealg.abigen_runtime_cmpstring"], unfollowed := true, recurses := true, apart := false }
def ParseDeepSaid : Prop := parseDeepRow.holds Try.pinned (OpenSpec.ofChange parseDeepSpec)

/-- ITS FALSE NEIGHBOUR: 'it returns false'. Refute it at one input. -/
def parseDeepWrong : ChangeSpec := { name := "parseDeep", fn := fun _ => fun
  | [d1, d2] => { results := [.lit (.bool false)], args := [d1, d2] }
  | _ => none }
def ParseDeepWrongFalsely : Prop := parseDeepRow.holds Try.pinned (OpenSpec.ofChange parseDeepWrong)

/-- 'pressmarklaw12.ParseKnown': WHATEVER THE INPUT: true; the input reads as it did. -/
def parseKnownSpec : ChangeSpec := { name := "parseKnown", fn := fun _ => fun
  | [] => { results := [.lit (.bool true)], args := [] }
  | _ => none }
def parseKnownRow : OpenClaim := { program := "ytlmgklebikcbjaa", sum := "078c86f5cb7e93a1d0b4e126f256a7bbb8aa4748c78819159c45bd5c1472e8db", func := "pressmark/pressmarklaw12.ParseKnown", spec := "parseKnown", inPlace := ["internal/bytealg.IndexByteString", "internal/bytealg.abigen_runtime_cmpstring"], unfollowed := true, recurses := true, apart := false }
def ParseKnownSaid : Prop := parseKnownRow.holds Try.pinned (OpenSpec.ofChange parseKnownSpec)

/-- ITS FALSE NEIGHBOUR: 'it returns false'. Refute it at one input. -/
def parseKnownWrong : ChangeSpec := { name := "parseKnown", fn := fun _ => fun
  | [] => { results := [.lit (.bool false)], args := [] }
  | _ => none }
def ParseKnownWrongFalsely : Prop := parseKnownRow.holds Try.pinned (OpenSpec.ofChange parseKnownWrong)

/-- 'pressmarklaw12.ParseShifts': WHATEVER THE INPUT: true; the input reads as it did. -/
def parseShiftsSpec : ChangeSpec := { name := "parseShifts", fn := fun _ => fun
  | [d1, d2, d3] => { results := [.lit (.bool true)], args := [d1, d2, d3] }
  | _ => none }
def parseShiftsRow : OpenClaim := { program := "ytlmgklebikcbjaa", sum := "078c86f5cb7e93a1d0b4e126f256a7bbb8aa4748c78819159c45bd5c1472e8db", func := "pressmark/pressmarklaw12.ParseShifts", spec := "parseShifts", inPlace := ["internal/bytealg.IndexByteString", "internal/bytealg.abigen_runtime_cmpstring"], unfollowed := true, recurses := true, apart := false }
def ParseShiftsSaid : Prop := parseShiftsRow.holds Try.pinned (OpenSpec.ofChange parseShiftsSpec)

/-- ITS FALSE NEIGHBOUR: 'it returns false'. Refute it at one input. -/
def parseShiftsWrong : ChangeSpec := { name := "parseShifts", fn := fun _ => fun
  | [d1, d2, d3] => { results := [.lit (.bool false)], args := [d1, d2, d3] }
  | _ => none }
def ParseShiftsWrongFalsely : Prop := parseShiftsRow.holds Try.pinned (OpenSpec.ofChange parseShiftsWrong)

/- THE SECOND FORM. 'bulk': how many values and letters a reading holds, each counted each time it is reached (what is shared counts as often as it is met; a slice's spare places count too). A statement '..UptoSaid' is the law's where the arguments, and the package variables that the reading takes, are together of bulk at most 1048576: NARROWER than '..Said'. Prove '..Said' where nothing that the law and all that it calls make is longer than what came in: it says more and counts as full. Else prove '..UptoSaid'. A law counts once. -/
mutual
def uptoBulk {H : Type} : DataW H → Nat
  | .lit (.string bytes) => bytes.length + 1
  | .lit _ => 1
  | .nil => 1
  | .ptr d => uptoBulk d + 1
  | .slice elems spare => uptoBulkAll elems + uptoBulkAll spare + 1
  | .agg parts => uptoBulkAll parts + 1
  | .iface _ d => uptoBulk d + 1
  | .map entries => uptoBulkEntries entries + 1
  | .held _ => 1
def uptoBulkAll {H : Type} : List (DataW H) → Nat
  | [] => 0
  | d :: r => uptoBulk d + uptoBulkAll r
def uptoBulkEntries {H : Type} : List (Lit × DataW H) → Nat
  | [] => 0
  | x :: r => uptoBulkEntry x + uptoBulkEntries r
def uptoBulkEntry {H : Type} : Lit × DataW H → Nat
  | (.string bytes, d) => bytes.length + uptoBulk d + 1
  | (_, d) => uptoBulk d + 1
 end
def uptoSmall : (H : Type) → List (DataW H) → Bool := fun _ ds => decide (uptoBulkAll ds ≤ 1048576)
def OpenSpec.upto (s : _root_.Go.ChangeSpec) : _root_.Go.OpenSpec := { _root_.Go.OpenSpec.ofChange s with cond := some uptoSmall }

/-- 'pressmarklaw11.LexKnown', WHERE WHAT IT READS IS OF BULK AT MOST 1048576: true; the input reads as it did. -/
def lexKnownUptoRow : OpenClaim := { program := "ytlmgklebikcbjaa", sum := "078c86f5cb7e93a1d0b4e126f256a7bbb8aa4748c78819159c45bd5c1472e8db", func := "pressmark/pressmarklaw11.LexKnown", spec := "lexKnown", inPlace := ["internal/bytealg.IndexByteString"], unfollowed := true, recurses := true, apart := false, narrowed := true }
def LexKnownUptoSaid : Prop := lexKnownUptoRow.holds Try.pinned (OpenSpec.upto lexKnownSpec)

/-- 'pressmarklaw11.LexTokens', WHERE WHAT IT READS IS OF BULK AT MOST 1048576: true; the input reads as it did. -/
def lexTokensUptoRow : OpenClaim := { program := "ytlmgklebikcbjaa", sum := "078c86f5cb7e93a1d0b4e126f256a7bbb8aa4748c78819159c45bd5c1472e8db", func := "pressmark/pressmarklaw11.LexTokens", spec := "lexTokens", inPlace := ["internal/bytealg.IndexByteString"], unfollowed := true, recurses := true, apart := false, narrowed := true }
def LexTokensUptoSaid : Prop := lexTokensUptoRow.holds Try.pinned (OpenSpec.upto lexTokensSpec)

/-- 'pressmarklaw11.LexNames', WHERE WHAT IT READS IS OF BULK AT MOST 1048576: true; the input reads as it did. -/
def lexNamesUptoRow : OpenClaim := { program := "ytlmgklebikcbjaa", sum := "078c86f5cb7e93a1d0b4e126f256a7bbb8aa4748c78819159c45bd5c1472e8db", func := "pressmark/pressmarklaw11.LexNames", spec := "lexNames", inPlace := ["internal/bytealg.IndexByteString"], unfollowed := true, recurses := true, apart := false, narrowed := true }
def LexNamesUptoSaid : Prop := lexNamesUptoRow.holds Try.pinned (OpenSpec.upto lexNamesSpec)

/-- 'pressmarklaw11.LexTexts', WHERE WHAT IT READS IS OF BULK AT MOST 1048576: true; the input reads as it did. -/
def lexTextsUptoRow : OpenClaim := { program := "ytlmgklebikcbjaa", sum := "078c86f5cb7e93a1d0b4e126f256a7bbb8aa4748c78819159c45bd5c1472e8db", func := "pressmark/pressmarklaw11.LexTexts", spec := "lexTexts", inPlace := ["internal/bytealg.IndexByteString"], unfollowed := true, recurses := true, apart := false, narrowed := true }
def LexTextsUptoSaid : Prop := lexTextsUptoRow.holds Try.pinned (OpenSpec.upto lexTextsSpec)

/-- 'pressmarklaw11.LexBlanks', WHERE WHAT IT READS IS OF BULK AT MOST 1048576: true; the input reads as it did. -/
def lexBlanksUptoRow : OpenClaim := { program := "ytlmgklebikcbjaa", sum := "078c86f5cb7e93a1d0b4e126f256a7bbb8aa4748c78819159c45bd5c1472e8db", func := "pressmark/pressmarklaw11.LexBlanks", spec := "lexBlanks", inPlace := ["internal/bytealg.IndexByteString"], unfollowed := true, recurses := true, apart := false, narrowed := true }
def LexBlanksUptoSaid : Prop := lexBlanksUptoRow.holds Try.pinned (OpenSpec.upto lexBlanksSpec)

/-- 'pressmarklaw11.LexNumbers', WHERE WHAT IT READS IS OF BULK AT MOST 1048576: true; the input reads as it did. -/
def lexNumbersUptoRow : OpenClaim := { program := "ytlmgklebikcbjaa", sum := "078c86f5cb7e93a1d0b4e126f256a7bbb8aa4748c78819159c45bd5c1472e8db", func := "pressmark/pressmarklaw11.LexNumbers", spec := "lexNumbers", inPlace := ["internal/bytealg.IndexByteString"], unfollowed := true, recurses := true, apart := false, narrowed := true }
def LexNumbersUptoSaid : Prop := lexNumbersUptoRow.holds Try.pinned (OpenSpec.upto lexNumbersSpec)

/-- 'pressmarklaw11.LexAnywhere', WHERE WHAT IT READS IS OF BULK AT MOST 1048576: true; the input reads as it did. -/
def lexAnywhereUptoRow : OpenClaim := { program := "ytlmgklebikcbjaa", sum := "078c86f5cb7e93a1d0b4e126f256a7bbb8aa4748c78819159c45bd5c1472e8db", func := "pressmark/pressmarklaw11.LexAnywhere", spec := "lexAnywhere", inPlace := ["internal/bytealg.IndexByteString"], unfollowed := true, recurses := true, apart := false, narrowed := true }
def LexAnywhereUptoSaid : Prop := lexAnywhereUptoRow.holds Try.pinned (OpenSpec.upto lexAnywhereSpec)

/-- 'pressmarklaw12.ParseRefs', WHERE WHAT IT READS IS OF BULK AT MOST 1048576: true; the input reads as it did. -/
def parseRefsUptoRow : OpenClaim := { program := "ytlmgklebikcbjaa", sum := "078c86f5cb7e93a1d0b4e126f256a7bbb8aa4748c78819159c45bd5c1472e8db", func := "pressmark/pressmarklaw12.ParseRefs", spec := "parseRefs", inPlace := ["internal/bytealg.IndexByteString", "internal/bytealg.abigen_runtime_cmpstring"], unfollowed := true, recurses := true, apart := false, narrowed := true }
def ParseRefsUptoSaid : Prop := parseRefsUptoRow.holds Try.pinned (OpenSpec.upto parseRefsSpec)

/-- 'pressmarklaw12.ParseValues', WHERE WHAT IT READS IS OF BULK AT MOST 1048576: true; the input reads as it did. -/
def parseValuesUptoRow : OpenClaim := { program := "ytlmgklebikcbjaa", sum := "078c86f5cb7e93a1d0b4e126f256a7bbb8aa4748c78819159c45bd5c1472e8db", func := "pressmark/pressmarklaw12.ParseValues", spec := "parseValues", inPlace := ["internal/bytealg.IndexByteString", "internal/bytealg.abigen_runtime_cmpstring"], unfollowed := true, recurses := true, apart := false, narrowed := true }
def ParseValuesUptoSaid : Prop := parseValuesUptoRow.holds Try.pinned (OpenSpec.upto parseValuesSpec)

/-- 'pressmarklaw12.ParseDeep', WHERE WHAT IT READS IS OF BULK AT MOST 1048576: true; the input reads as it did. -/
def parseDeepUptoRow : OpenClaim := { program := "ytlmgklebikcbjaa", sum := "078c86f5cb7e93a1d0b4e126f256a7bbb8aa4748c78819159c45bd5c1472e8db", func := "pressmark/pressmarklaw12.ParseDeep", spec := "parseDeep", inPlace := ["internal/bytealg.IndexByteString", "internal/bytealg.abigen_runtime_cmpstring"], unfollowed := true, recurses := true, apart := false, narrowed := true }
def ParseDeepUptoSaid : Prop := parseDeepUptoRow.holds Try.pinned (OpenSpec.upto parseDeepSpec)

/-- 'pressmarklaw12.ParseKnown', WHERE WHAT IT READS IS OF BULK AT MOST 1048576: true; the input reads as it did. -/
def parseKnownUptoRow : OpenClaim := { program := "ytlmgklebikcbjaa", sum := "078c86f5cb7e93a1d0b4e126f256a7bbb8aa4748c78819159c45bd5c1472e8db", func := "pressmark/pressmarklaw12.ParseKnown", spec := "parseKnown", inPlace := ["internal/bytealg.IndexByteString", "internal/bytealg.abigen_runtime_cmpstring"], unfollowed := true, recurses := true, apart := false, narrowed := true }
def ParseKnownUptoSaid : Prop := parseKnownUptoRow.holds Try.pinned (OpenSpec.upto parseKnownSpec)

/-- 'pressmarklaw12.ParseShifts', WHERE WHAT IT READS IS OF BULK AT MOST 1048576: true; the input reads as it did. -/
def parseShiftsUptoRow : OpenClaim := { program := "ytlmgklebikcbjaa", sum := "078c86f5cb7e93a1d0b4e126f256a7bbb8aa4748c78819159c45bd5c1472e8db", func := "pressmark/pressmarklaw12.ParseShifts", spec := "parseShifts", inPlace := ["internal/bytealg.IndexByteString", "internal/bytealg.abigen_runtime_cmpstring"], unfollowed := true, recurses := true, apart := false, narrowed := true }
def ParseShiftsUptoSaid : Prop := parseShiftsUptoRow.holds Try.pinned (OpenSpec.upto parseShiftsSpec)

end Rows
end Go.Proofs.Ytlmgklebikcbjaa
