/-
  NARROWER THAN 'FOR EVERY INPUT', by the rows' own cells (each row's printed sentence says how): ParseStrengths: laid · TokenStands: laid · ParseFront: loops, laid · TokenBack: laid · TokenCuts: laid · TokenJoins: laid · TokenLongest: laid · TokenNames: laid · ParseBack: loops, laid · ParseBlanks: laid · ParseParens: laid.
  DERIVED. THE GIVEN ROWS OF THIS SEAT. 11 by the template 'for every input the law returns true; each argument reads behind the call as it read before'; 0 by the template 'total and deterministic' (their statements: YtakbpbifgemcdaaDoorTotals.lean).
  GIVEN WITH THE SEED: the statements are not yours to turn. If you find one false, say at which input.
  Laid BY PROGRAM, IN A SANDBOX (cutbox-rows.mjs): the forced cells as the released guide's own fill.sh prints them over the translation e771e9144435a4ab… (all of the seat's roots in one cut). By AI agents, Wed Nov 11 2026. No macro, syntax, notation, axiom, sorry.
-/
import Derived.Test.YtakbpbifgemcdaaDoorChecked
import GoSem.Claim
import GoSem.ClaimJoined
import GoSem.ClaimMapViews
import Derived.JoinedTies
import Derived.KernelRfl
namespace Go.Proofs.YtakbpbifgemcdaaDoor
/- THE CELL 'sum', in the pinned program and in every row, IS THE sha256 OF THE DUMP (.gsa) THAT YtakbpbifgemcdaaDoorProg.lean LOADS. Nothing in Lean hashes anything: it is a label: what it is worth is what the hold of that sum in a sandbox is worth. -/
noncomputable def Tryd.pinned : Pinned := { name := "ytakbpbifgemcdaadoor", sum := "e771e9144435a4aba3af92dad8e57bdeb066f0d38bf0b69cec99426d7ca9506c", checked := Tryd.checked }
namespace Rows
def none {H : Type} : Left H := { results := [], args := [] }

/- WHAT THE LISTED PACKAGE-LEVEL VARIABLES READ AS WHEN THE CALL BEGINS. Each datum BY PROGRAM (the guide's laid-datum.mjs) off the statement by which the dump's own 'gosem.cut.vars' lays the variable. In a bare row this is a premise. The card (YtakbpbifgemcdaaDoorCards.lean) ties it to the program's text. -/
def laid_seedcorn_token_words {H : Type} : DataW H := .agg [.lit (.string [118, 97, 114]), .lit (.string [97, 114, 114, 97, 121]), .lit (.string [102, 117, 110, 99]), .lit (.string [119, 111, 114, 100]), .lit (.string [105, 102]), .lit (.string [101, 108, 115, 101]), .lit (.string [119, 104, 105, 108, 101]), .lit (.string [114, 101, 116, 117, 114, 110]), .lit (.string [112, 117, 116]), .lit (.string [103, 101, 116])]
def laid_seedcorn_token_signs {H : Type} : DataW H := .agg [.lit (.string [60, 60]), .lit (.string [62, 62]), .lit (.string [61, 61]), .lit (.string [38, 38]), .lit (.string [124, 124]), .lit (.string [40]), .lit (.string [41]), .lit (.string [123]), .lit (.string [125]), .lit (.string [91]), .lit (.string [93]), .lit (.string [59]), .lit (.string [44]), .lit (.string [61]), .lit (.string [43]), .lit (.string [45]), .lit (.string [42]), .lit (.string [47]), .lit (.string [37]), .lit (.string [38]), .lit (.string [124]), .lit (.string [94]), .lit (.string [60]), .lit (.string [33])]

/-- 'seedcornlaw15.ParseStrengths': WHATEVER THE INPUT: true; the input reads as it did. -/
def parseStrengthsSpec : ChangeSpec := { name := "parseStrengths", fn := fun _ => fun
  | [d1, d2] => { results := [.lit (.bool true)], args := [d1, d2] }
  | _ => none }
def parseStrengthsRow : OpenClaim := { program := "ytakbpbifgemcdaadoor", sum := "e771e9144435a4aba3af92dad8e57bdeb066f0d38bf0b69cec99426d7ca9506c", func := "seedcorn/seedcornlaw15.ParseStrengths", spec := "parseStrengths", unfollowed := true, recurses := true, named := ["seedcorn/token.words", "seedcorn/token.signs"], apart := false, laid := [("seedcorn/token.words", laid_seedcorn_token_words), ("seedcorn/token.signs", laid_seedcorn_token_signs)] }
def ParseStrengthsSaid : Prop := parseStrengthsRow.holds Tryd.pinned (OpenSpec.ofChange parseStrengthsSpec)

/-- ITS FALSE NEIGHBOUR: 'it returns false'. Refute it at one input. -/
def parseStrengthsWrong : ChangeSpec := { name := "parseStrengths", fn := fun _ => fun
  | [d1, d2] => { results := [.lit (.bool false)], args := [d1, d2] }
  | _ => none }
def ParseStrengthsWrongFalsely : Prop := parseStrengthsRow.holds Tryd.pinned (OpenSpec.ofChange parseStrengthsWrong)

/-- 'seedcornlaw13.TokenStands': WHATEVER THE INPUT: true; the input reads as it did. -/
def tokenStandsSpec : ChangeSpec := { name := "tokenStands", fn := fun _ => fun
  | [d] => { results := [.lit (.bool true)], args := [d] }
  | _ => none }
def tokenStandsRow : OpenClaim := { program := "ytakbpbifgemcdaadoor", sum := "e771e9144435a4aba3af92dad8e57bdeb066f0d38bf0b69cec99426d7ca9506c", func := "seedcorn/seedcornlaw13.TokenStands", spec := "tokenStands", unfollowed := true, recurses := true, named := ["seedcorn/token.words", "seedcorn/token.signs"], apart := false, laid := [("seedcorn/token.words", laid_seedcorn_token_words), ("seedcorn/token.signs", laid_seedcorn_token_signs)] }
def TokenStandsSaid : Prop := tokenStandsRow.holds Tryd.pinned (OpenSpec.ofChange tokenStandsSpec)

/-- ITS FALSE NEIGHBOUR: 'it returns false'. Refute it at one input. -/
def tokenStandsWrong : ChangeSpec := { name := "tokenStands", fn := fun _ => fun
  | [d] => { results := [.lit (.bool false)], args := [d] }
  | _ => none }
def TokenStandsWrongFalsely : Prop := tokenStandsRow.holds Tryd.pinned (OpenSpec.ofChange tokenStandsWrong)

/-- 'seedcornlaw15.ParseFront': WHATEVER THE INPUT: true; the input reads as it did. -/
def parseFrontSpec : ChangeSpec := { name := "parseFront", fn := fun _ => fun
  | [d1, d2] => { results := [.lit (.bool true)], args := [d1, d2] }
  | _ => none }
def parseFrontRow : OpenClaim := { program := "ytakbpbifgemcdaadoor", sum := "e771e9144435a4aba3af92dad8e57bdeb066f0d38bf0b69cec99426d7ca9506c", func := "seedcorn/seedcornlaw15.ParseFront", spec := "parseFront", unfollowed := true, recurses := true, named := ["seedcorn/token.words", "seedcorn/token.signs"], loops := true, apart := false, laid := [("seedcorn/token.words", laid_seedcorn_token_words), ("seedcorn/token.signs", laid_seedcorn_token_signs)] }
def ParseFrontSaid : Prop := parseFrontRow.holds Tryd.pinned (OpenSpec.ofChange parseFrontSpec)

/-- ITS FALSE NEIGHBOUR: 'it returns false'. Refute it at one input. -/
def parseFrontWrong : ChangeSpec := { name := "parseFront", fn := fun _ => fun
  | [d1, d2] => { results := [.lit (.bool false)], args := [d1, d2] }
  | _ => none }
def ParseFrontWrongFalsely : Prop := parseFrontRow.holds Tryd.pinned (OpenSpec.ofChange parseFrontWrong)

/-- 'seedcornlaw13.TokenBack': WHATEVER THE INPUT: true; the input reads as it did. -/
def tokenBackSpec : ChangeSpec := { name := "tokenBack", fn := fun _ => fun
  | [d1, d2] => { results := [.lit (.bool true)], args := [d1, d2] }
  | _ => none }
def tokenBackRow : OpenClaim := { program := "ytakbpbifgemcdaadoor", sum := "e771e9144435a4aba3af92dad8e57bdeb066f0d38bf0b69cec99426d7ca9506c", func := "seedcorn/seedcornlaw13.TokenBack", spec := "tokenBack", unfollowed := true, recurses := true, named := ["seedcorn/token.words", "seedcorn/token.signs"], apart := false, laid := [("seedcorn/token.words", laid_seedcorn_token_words), ("seedcorn/token.signs", laid_seedcorn_token_signs)] }
def TokenBackSaid : Prop := tokenBackRow.holds Tryd.pinned (OpenSpec.ofChange tokenBackSpec)

/-- ITS FALSE NEIGHBOUR: 'it returns false'. Refute it at one input. -/
def tokenBackWrong : ChangeSpec := { name := "tokenBack", fn := fun _ => fun
  | [d1, d2] => { results := [.lit (.bool false)], args := [d1, d2] }
  | _ => none }
def TokenBackWrongFalsely : Prop := tokenBackRow.holds Tryd.pinned (OpenSpec.ofChange tokenBackWrong)

/-- 'seedcornlaw13.TokenCuts': WHATEVER THE INPUT: true; the input reads as it did. -/
def tokenCutsSpec : ChangeSpec := { name := "tokenCuts", fn := fun _ => fun
  | [d1, d2] => { results := [.lit (.bool true)], args := [d1, d2] }
  | _ => none }
def tokenCutsRow : OpenClaim := { program := "ytakbpbifgemcdaadoor", sum := "e771e9144435a4aba3af92dad8e57bdeb066f0d38bf0b69cec99426d7ca9506c", func := "seedcorn/seedcornlaw13.TokenCuts", spec := "tokenCuts", unfollowed := true, recurses := true, named := ["seedcorn/token.words", "seedcorn/token.signs"], apart := false, laid := [("seedcorn/token.words", laid_seedcorn_token_words), ("seedcorn/token.signs", laid_seedcorn_token_signs)] }
def TokenCutsSaid : Prop := tokenCutsRow.holds Tryd.pinned (OpenSpec.ofChange tokenCutsSpec)

/-- ITS FALSE NEIGHBOUR: 'it returns false'. Refute it at one input. -/
def tokenCutsWrong : ChangeSpec := { name := "tokenCuts", fn := fun _ => fun
  | [d1, d2] => { results := [.lit (.bool false)], args := [d1, d2] }
  | _ => none }
def TokenCutsWrongFalsely : Prop := tokenCutsRow.holds Tryd.pinned (OpenSpec.ofChange tokenCutsWrong)

/-- 'seedcornlaw13.TokenJoins': WHATEVER THE INPUT: true; the input reads as it did. -/
def tokenJoinsSpec : ChangeSpec := { name := "tokenJoins", fn := fun _ => fun
  | [d1, d2] => { results := [.lit (.bool true)], args := [d1, d2] }
  | _ => none }
def tokenJoinsRow : OpenClaim := { program := "ytakbpbifgemcdaadoor", sum := "e771e9144435a4aba3af92dad8e57bdeb066f0d38bf0b69cec99426d7ca9506c", func := "seedcorn/seedcornlaw13.TokenJoins", spec := "tokenJoins", unfollowed := true, recurses := true, named := ["seedcorn/token.words", "seedcorn/token.signs"], apart := false, laid := [("seedcorn/token.words", laid_seedcorn_token_words), ("seedcorn/token.signs", laid_seedcorn_token_signs)] }
def TokenJoinsSaid : Prop := tokenJoinsRow.holds Tryd.pinned (OpenSpec.ofChange tokenJoinsSpec)

/-- ITS FALSE NEIGHBOUR: 'it returns false'. Refute it at one input. -/
def tokenJoinsWrong : ChangeSpec := { name := "tokenJoins", fn := fun _ => fun
  | [d1, d2] => { results := [.lit (.bool false)], args := [d1, d2] }
  | _ => none }
def TokenJoinsWrongFalsely : Prop := tokenJoinsRow.holds Tryd.pinned (OpenSpec.ofChange tokenJoinsWrong)

/-- 'seedcornlaw13.TokenLongest': WHATEVER THE INPUT: true; the input reads as it did. -/
def tokenLongestSpec : ChangeSpec := { name := "tokenLongest", fn := fun _ => fun
  | [d] => { results := [.lit (.bool true)], args := [d] }
  | _ => none }
def tokenLongestRow : OpenClaim := { program := "ytakbpbifgemcdaadoor", sum := "e771e9144435a4aba3af92dad8e57bdeb066f0d38bf0b69cec99426d7ca9506c", func := "seedcorn/seedcornlaw13.TokenLongest", spec := "tokenLongest", unfollowed := true, recurses := true, named := ["seedcorn/token.words", "seedcorn/token.signs"], apart := false, laid := [("seedcorn/token.words", laid_seedcorn_token_words), ("seedcorn/token.signs", laid_seedcorn_token_signs)] }
def TokenLongestSaid : Prop := tokenLongestRow.holds Tryd.pinned (OpenSpec.ofChange tokenLongestSpec)

/-- ITS FALSE NEIGHBOUR: 'it returns false'. Refute it at one input. -/
def tokenLongestWrong : ChangeSpec := { name := "tokenLongest", fn := fun _ => fun
  | [d] => { results := [.lit (.bool false)], args := [d] }
  | _ => none }
def TokenLongestWrongFalsely : Prop := tokenLongestRow.holds Tryd.pinned (OpenSpec.ofChange tokenLongestWrong)

/-- 'seedcornlaw13.TokenNames': WHATEVER THE INPUT: true; the input reads as it did. -/
def tokenNamesSpec : ChangeSpec := { name := "tokenNames", fn := fun _ => fun
  | [d] => { results := [.lit (.bool true)], args := [d] }
  | _ => none }
def tokenNamesRow : OpenClaim := { program := "ytakbpbifgemcdaadoor", sum := "e771e9144435a4aba3af92dad8e57bdeb066f0d38bf0b69cec99426d7ca9506c", func := "seedcorn/seedcornlaw13.TokenNames", spec := "tokenNames", unfollowed := true, recurses := true, named := ["seedcorn/token.words", "seedcorn/token.signs"], apart := false, laid := [("seedcorn/token.words", laid_seedcorn_token_words), ("seedcorn/token.signs", laid_seedcorn_token_signs)] }
def TokenNamesSaid : Prop := tokenNamesRow.holds Tryd.pinned (OpenSpec.ofChange tokenNamesSpec)

/-- ITS FALSE NEIGHBOUR: 'it returns false'. Refute it at one input. -/
def tokenNamesWrong : ChangeSpec := { name := "tokenNames", fn := fun _ => fun
  | [d] => { results := [.lit (.bool false)], args := [d] }
  | _ => none }
def TokenNamesWrongFalsely : Prop := tokenNamesRow.holds Tryd.pinned (OpenSpec.ofChange tokenNamesWrong)

/-- 'seedcornlaw15.ParseBack': WHATEVER THE INPUT: true; the input reads as it did. -/
def parseBackSpec : ChangeSpec := { name := "parseBack", fn := fun _ => fun
  | [d] => { results := [.lit (.bool true)], args := [d] }
  | _ => none }
def parseBackRow : OpenClaim := { program := "ytakbpbifgemcdaadoor", sum := "e771e9144435a4aba3af92dad8e57bdeb066f0d38bf0b69cec99426d7ca9506c", func := "seedcorn/seedcornlaw15.ParseBack", spec := "parseBack", unfollowed := true, recurses := true, named := ["seedcorn/token.words", "seedcorn/token.signs"], loops := true, apart := false, laid := [("seedcorn/token.words", laid_seedcorn_token_words), ("seedcorn/token.signs", laid_seedcorn_token_signs)] }
def ParseBackSaid : Prop := parseBackRow.holds Tryd.pinned (OpenSpec.ofChange parseBackSpec)

/-- ITS FALSE NEIGHBOUR: 'it returns false'. Refute it at one input. -/
def parseBackWrong : ChangeSpec := { name := "parseBack", fn := fun _ => fun
  | [d] => { results := [.lit (.bool false)], args := [d] }
  | _ => none }
def ParseBackWrongFalsely : Prop := parseBackRow.holds Tryd.pinned (OpenSpec.ofChange parseBackWrong)

/-- 'seedcornlaw15.ParseBlanks': WHATEVER THE INPUT: true; the input reads as it did. -/
def parseBlanksSpec : ChangeSpec := { name := "parseBlanks", fn := fun _ => fun
  | [d] => { results := [.lit (.bool true)], args := [d] }
  | _ => none }
def parseBlanksRow : OpenClaim := { program := "ytakbpbifgemcdaadoor", sum := "e771e9144435a4aba3af92dad8e57bdeb066f0d38bf0b69cec99426d7ca9506c", func := "seedcorn/seedcornlaw15.ParseBlanks", spec := "parseBlanks", unfollowed := true, recurses := true, named := ["seedcorn/token.words", "seedcorn/token.signs"], apart := false, laid := [("seedcorn/token.words", laid_seedcorn_token_words), ("seedcorn/token.signs", laid_seedcorn_token_signs)] }
def ParseBlanksSaid : Prop := parseBlanksRow.holds Tryd.pinned (OpenSpec.ofChange parseBlanksSpec)

/-- ITS FALSE NEIGHBOUR: 'it returns false'. Refute it at one input. -/
def parseBlanksWrong : ChangeSpec := { name := "parseBlanks", fn := fun _ => fun
  | [d] => { results := [.lit (.bool false)], args := [d] }
  | _ => none }
def ParseBlanksWrongFalsely : Prop := parseBlanksRow.holds Tryd.pinned (OpenSpec.ofChange parseBlanksWrong)

/-- 'seedcornlaw15.ParseParens': WHATEVER THE INPUT: true; the input reads as it did. -/
def parseParensSpec : ChangeSpec := { name := "parseParens", fn := fun _ => fun
  | [d1, d2] => { results := [.lit (.bool true)], args := [d1, d2] }
  | _ => none }
def parseParensRow : OpenClaim := { program := "ytakbpbifgemcdaadoor", sum := "e771e9144435a4aba3af92dad8e57bdeb066f0d38bf0b69cec99426d7ca9506c", func := "seedcorn/seedcornlaw15.ParseParens", spec := "parseParens", unfollowed := true, recurses := true, named := ["seedcorn/token.words", "seedcorn/token.signs"], apart := false, laid := [("seedcorn/token.words", laid_seedcorn_token_words), ("seedcorn/token.signs", laid_seedcorn_token_signs)] }
def ParseParensSaid : Prop := parseParensRow.holds Tryd.pinned (OpenSpec.ofChange parseParensSpec)

/-- ITS FALSE NEIGHBOUR: 'it returns false'. Refute it at one input. -/
def parseParensWrong : ChangeSpec := { name := "parseParens", fn := fun _ => fun
  | [d1, d2] => { results := [.lit (.bool false)], args := [d1, d2] }
  | _ => none }
def ParseParensWrongFalsely : Prop := parseParensRow.holds Tryd.pinned (OpenSpec.ofChange parseParensWrong)

/- THE SECOND FORM. 'bulk': how many values and letters a reading holds, each counted each time it is reached (what is shared counts as often as it is met; a slice's spare places count too). A statement '..UptoSaid' is the law's where the arguments, and the package variables that the reading takes, are together of bulk at most 1048576: NARROWER than '..Said'. Prove '..Said' where nothing that the law and all that it calls make is longer than what came in: it says more and counts as full. Else prove '..UptoSaid'. A law counts once. -/
mutual
def uptoBulk {H : Type} : DataW H → Nat
  | .lit (.string bytes) => bytes.length + 1
  | .lit _ => 1
  | .nil => 1
  | .ptr d => uptoBulk d + 1
  | .slice elems spare => uptoBulkAll elems + uptoBulkAll spare + 1
  | .agg parts => uptoBulkAll parts + 1
  | .iface _ d => uptoBulk d + 1
  | .map entries => uptoBulkEntries entries + 1
  | .held _ => 1
def uptoBulkAll {H : Type} : List (DataW H) → Nat
  | [] => 0
  | d :: r => uptoBulk d + uptoBulkAll r
def uptoBulkEntries {H : Type} : List (Lit × DataW H) → Nat
  | [] => 0
  | x :: r => uptoBulkEntry x + uptoBulkEntries r
def uptoBulkEntry {H : Type} : Lit × DataW H → Nat
  | (.string bytes, d) => bytes.length + uptoBulk d + 1
  | (_, d) => uptoBulk d + 1
 end
def uptoSmall : (H : Type) → List (DataW H) → Bool := fun _ ds => decide (uptoBulkAll ds ≤ 1048576)
def OpenSpec.upto (s : _root_.Go.ChangeSpec) : _root_.Go.OpenSpec := { _root_.Go.OpenSpec.ofChange s with cond := some uptoSmall }

/-- 'seedcornlaw15.ParseStrengths', WHERE WHAT IT READS IS OF BULK AT MOST 1048576: true; the input reads as it did. -/
def parseStrengthsUptoRow : OpenClaim := { program := "ytakbpbifgemcdaadoor", sum := "e771e9144435a4aba3af92dad8e57bdeb066f0d38bf0b69cec99426d7ca9506c", func := "seedcorn/seedcornlaw15.ParseStrengths", spec := "parseStrengths", unfollowed := true, recurses := true, named := ["seedcorn/token.words", "seedcorn/token.signs"], apart := false, laid := [("seedcorn/token.words", laid_seedcorn_token_words), ("seedcorn/token.signs", laid_seedcorn_token_signs)], narrowed := true }
def ParseStrengthsUptoSaid : Prop := parseStrengthsUptoRow.holds Tryd.pinned (OpenSpec.upto parseStrengthsSpec)

/-- 'seedcornlaw13.TokenStands', WHERE WHAT IT READS IS OF BULK AT MOST 1048576: true; the input reads as it did. -/
def tokenStandsUptoRow : OpenClaim := { program := "ytakbpbifgemcdaadoor", sum := "e771e9144435a4aba3af92dad8e57bdeb066f0d38bf0b69cec99426d7ca9506c", func := "seedcorn/seedcornlaw13.TokenStands", spec := "tokenStands", unfollowed := true, recurses := true, named := ["seedcorn/token.words", "seedcorn/token.signs"], apart := false, laid := [("seedcorn/token.words", laid_seedcorn_token_words), ("seedcorn/token.signs", laid_seedcorn_token_signs)], narrowed := true }
def TokenStandsUptoSaid : Prop := tokenStandsUptoRow.holds Tryd.pinned (OpenSpec.upto tokenStandsSpec)

/-- 'seedcornlaw15.ParseFront', WHERE WHAT IT READS IS OF BULK AT MOST 1048576: true; the input reads as it did. -/
def parseFrontUptoRow : OpenClaim := { program := "ytakbpbifgemcdaadoor", sum := "e771e9144435a4aba3af92dad8e57bdeb066f0d38bf0b69cec99426d7ca9506c", func := "seedcorn/seedcornlaw15.ParseFront", spec := "parseFront", unfollowed := true, recurses := true, named := ["seedcorn/token.words", "seedcorn/token.signs"], loops := true, apart := false, laid := [("seedcorn/token.words", laid_seedcorn_token_words), ("seedcorn/token.signs", laid_seedcorn_token_signs)], narrowed := true }
def ParseFrontUptoSaid : Prop := parseFrontUptoRow.holds Tryd.pinned (OpenSpec.upto parseFrontSpec)

/-- 'seedcornlaw13.TokenBack', WHERE WHAT IT READS IS OF BULK AT MOST 1048576: true; the input reads as it did. -/
def tokenBackUptoRow : OpenClaim := { program := "ytakbpbifgemcdaadoor", sum := "e771e9144435a4aba3af92dad8e57bdeb066f0d38bf0b69cec99426d7ca9506c", func := "seedcorn/seedcornlaw13.TokenBack", spec := "tokenBack", unfollowed := true, recurses := true, named := ["seedcorn/token.words", "seedcorn/token.signs"], apart := false, laid := [("seedcorn/token.words", laid_seedcorn_token_words), ("seedcorn/token.signs", laid_seedcorn_token_signs)], narrowed := true }
def TokenBackUptoSaid : Prop := tokenBackUptoRow.holds Tryd.pinned (OpenSpec.upto tokenBackSpec)

/-- 'seedcornlaw13.TokenCuts', WHERE WHAT IT READS IS OF BULK AT MOST 1048576: true; the input reads as it did. -/
def tokenCutsUptoRow : OpenClaim := { program := "ytakbpbifgemcdaadoor", sum := "e771e9144435a4aba3af92dad8e57bdeb066f0d38bf0b69cec99426d7ca9506c", func := "seedcorn/seedcornlaw13.TokenCuts", spec := "tokenCuts", unfollowed := true, recurses := true, named := ["seedcorn/token.words", "seedcorn/token.signs"], apart := false, laid := [("seedcorn/token.words", laid_seedcorn_token_words), ("seedcorn/token.signs", laid_seedcorn_token_signs)], narrowed := true }
def TokenCutsUptoSaid : Prop := tokenCutsUptoRow.holds Tryd.pinned (OpenSpec.upto tokenCutsSpec)

/-- 'seedcornlaw13.TokenJoins', WHERE WHAT IT READS IS OF BULK AT MOST 1048576: true; the input reads as it did. -/
def tokenJoinsUptoRow : OpenClaim := { program := "ytakbpbifgemcdaadoor", sum := "e771e9144435a4aba3af92dad8e57bdeb066f0d38bf0b69cec99426d7ca9506c", func := "seedcorn/seedcornlaw13.TokenJoins", spec := "tokenJoins", unfollowed := true, recurses := true, named := ["seedcorn/token.words", "seedcorn/token.signs"], apart := false, laid := [("seedcorn/token.words", laid_seedcorn_token_words), ("seedcorn/token.signs", laid_seedcorn_token_signs)], narrowed := true }
def TokenJoinsUptoSaid : Prop := tokenJoinsUptoRow.holds Tryd.pinned (OpenSpec.upto tokenJoinsSpec)

/-- 'seedcornlaw13.TokenLongest', WHERE WHAT IT READS IS OF BULK AT MOST 1048576: true; the input reads as it did. -/
def tokenLongestUptoRow : OpenClaim := { program := "ytakbpbifgemcdaadoor", sum := "e771e9144435a4aba3af92dad8e57bdeb066f0d38bf0b69cec99426d7ca9506c", func := "seedcorn/seedcornlaw13.TokenLongest", spec := "tokenLongest", unfollowed := true, recurses := true, named := ["seedcorn/token.words", "seedcorn/token.signs"], apart := false, laid := [("seedcorn/token.words", laid_seedcorn_token_words), ("seedcorn/token.signs", laid_seedcorn_token_signs)], narrowed := true }
def TokenLongestUptoSaid : Prop := tokenLongestUptoRow.holds Tryd.pinned (OpenSpec.upto tokenLongestSpec)

/-- 'seedcornlaw13.TokenNames', WHERE WHAT IT READS IS OF BULK AT MOST 1048576: true; the input reads as it did. -/
def tokenNamesUptoRow : OpenClaim := { program := "ytakbpbifgemcdaadoor", sum := "e771e9144435a4aba3af92dad8e57bdeb066f0d38bf0b69cec99426d7ca9506c", func := "seedcorn/seedcornlaw13.TokenNames", spec := "tokenNames", unfollowed := true, recurses := true, named := ["seedcorn/token.words", "seedcorn/token.signs"], apart := false, laid := [("seedcorn/token.words", laid_seedcorn_token_words), ("seedcorn/token.signs", laid_seedcorn_token_signs)], narrowed := true }
def TokenNamesUptoSaid : Prop := tokenNamesUptoRow.holds Tryd.pinned (OpenSpec.upto tokenNamesSpec)

/-- 'seedcornlaw15.ParseBack', WHERE WHAT IT READS IS OF BULK AT MOST 1048576: true; the input reads as it did. -/
def parseBackUptoRow : OpenClaim := { program := "ytakbpbifgemcdaadoor", sum := "e771e9144435a4aba3af92dad8e57bdeb066f0d38bf0b69cec99426d7ca9506c", func := "seedcorn/seedcornlaw15.ParseBack", spec := "parseBack", unfollowed := true, recurses := true, named := ["seedcorn/token.words", "seedcorn/token.signs"], loops := true, apart := false, laid := [("seedcorn/token.words", laid_seedcorn_token_words), ("seedcorn/token.signs", laid_seedcorn_token_signs)], narrowed := true }
def ParseBackUptoSaid : Prop := parseBackUptoRow.holds Tryd.pinned (OpenSpec.upto parseBackSpec)

/-- 'seedcornlaw15.ParseBlanks', WHERE WHAT IT READS IS OF BULK AT MOST 1048576: true; the input reads as it did. -/
def parseBlanksUptoRow : OpenClaim := { program := "ytakbpbifgemcdaadoor", sum := "e771e9144435a4aba3af92dad8e57bdeb066f0d38bf0b69cec99426d7ca9506c", func := "seedcorn/seedcornlaw15.ParseBlanks", spec := "parseBlanks", unfollowed := true, recurses := true, named := ["seedcorn/token.words", "seedcorn/token.signs"], apart := false, laid := [("seedcorn/token.words", laid_seedcorn_token_words), ("seedcorn/token.signs", laid_seedcorn_token_signs)], narrowed := true }
def ParseBlanksUptoSaid : Prop := parseBlanksUptoRow.holds Tryd.pinned (OpenSpec.upto parseBlanksSpec)

/-- 'seedcornlaw15.ParseParens', WHERE WHAT IT READS IS OF BULK AT MOST 1048576: true; the input reads as it did. -/
def parseParensUptoRow : OpenClaim := { program := "ytakbpbifgemcdaadoor", sum := "e771e9144435a4aba3af92dad8e57bdeb066f0d38bf0b69cec99426d7ca9506c", func := "seedcorn/seedcornlaw15.ParseParens", spec := "parseParens", unfollowed := true, recurses := true, named := ["seedcorn/token.words", "seedcorn/token.signs"], apart := false, laid := [("seedcorn/token.words", laid_seedcorn_token_words), ("seedcorn/token.signs", laid_seedcorn_token_signs)], narrowed := true }
def ParseParensUptoSaid : Prop := parseParensUptoRow.holds Tryd.pinned (OpenSpec.upto parseParensSpec)

end Rows
end Go.Proofs.YtakbpbifgemcdaaDoor
