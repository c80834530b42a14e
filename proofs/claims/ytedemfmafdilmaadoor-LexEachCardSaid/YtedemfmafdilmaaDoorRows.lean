/-
  NARROWER THAN 'FOR EVERY INPUT', by the rows' own cells (each row's printed sentence says how): LexTokens: laid · LexStands: laid · LexJoins: laid · LexNumbers: laid · LexEach: laid · LexNames: laid.
  DERIVED. THE GIVEN ROWS OF THIS SEAT. 6 by the template 'for every input the law returns true; each argument reads behind the call as it read before'; 0 by the template 'total and deterministic' (their statements: YtedemfmafdilmaaDoorTotals.lean).
  GIVEN WITH THE SEED: the statements are not yours to turn. If you find one false, say at which input.
  Laid BY PROGRAM, IN A SANDBOX (cutbox-rows.mjs): the forced cells as the released guide's own fill.sh prints them over the translation 6d9d87a2c66e652a… (all of the seat's roots in one cut). By AI agents, Wed Nov 11 2026. No macro, syntax, notation, axiom, sorry.
-/
import Derived.Test.YtedemfmafdilmaaDoorChecked
import GoSem.Claim
import GoSem.ClaimJoined
import GoSem.ClaimMapViews
import Derived.JoinedTies
import Derived.KernelRfl
namespace Go.Proofs.YtedemfmafdilmaaDoor
/- THE CELL 'sum', in the pinned program and in every row, IS THE sha256 OF THE DUMP (.gsa) THAT YtedemfmafdilmaaDoorProg.lean LOADS. Nothing in Lean hashes anything: it is a label: what it is worth is what the hold of that sum in a sandbox is worth. -/
noncomputable def Tryd.pinned : Pinned := { name := "ytedemfmafdilmaadoor", sum := "6d9d87a2c66e652ab3779584a6db21d02ee2ba59f515acc1c030a5e22d8db1ae", checked := Tryd.checked }
namespace Rows
def none {H : Type} : Left H := { results := [], args := [] }

/- WHAT THE LISTED PACKAGE-LEVEL VARIABLES READ AS WHEN THE CALL BEGINS. Each datum BY PROGRAM (the guide's laid-datum.mjs) off the statement by which the dump's own 'gosem.cut.vars' lays the variable. In a bare row this is a premise. The card (YtedemfmafdilmaaDoorCards.lean) ties it to the program's text. -/
def laid_turnout_lex_words {H : Type} : DataW H := .agg [.lit (.string [97, 99, 99, 101, 112, 116]), .lit (.string [97, 99, 116, 105, 111, 110]), .lit (.string [97, 100, 100]), .lit (.string [97, 103, 97, 105, 110]), .lit (.string [97, 112, 112, 108, 121]), .lit (.string [99, 97, 110]), .lit (.string [99, 111, 110, 116, 114, 111, 108]), .lit (.string [100, 101, 102, 97, 117, 108, 116]), .lit (.string [100, 114, 111, 112]), .lit (.string [101, 108, 115, 101]), .lit (.string [101, 120, 97, 99, 116]), .lit (.string [101, 120, 105, 116]), .lit (.string [102, 105, 120, 101, 100]), .lit (.string [104, 101, 97, 100, 101, 114]), .lit (.string [105, 102]), .lit (.string [107, 101, 121]), .lit (.string [109, 101, 116, 97]), .lit (.string [111, 110]), .lit (.string [112, 114, 101, 102, 105, 120]), .lit (.string [114, 97, 110, 103, 101]), .lit (.string [114, 101, 106, 101, 99, 116]), .lit (.string [114, 101, 109, 111, 118, 101]), .lit (.string [115, 105, 122, 101]), .lit (.string [115, 116, 97, 116, 101]), .lit (.string [115, 117, 109]), .lit (.string [116, 97, 98, 108, 101]), .lit (.string [116, 97, 107, 101]), .lit (.string [116, 101, 114, 110, 97, 114, 121]), .lit (.string [118, 97, 108, 105, 100])]
def laid_turnout_lex_signs {H : Type} : DataW H := .agg [.lit (.string [61, 61]), .lit (.string [33, 61]), .lit (.string [60, 61]), .lit (.string [123]), .lit (.string [125]), .lit (.string [40]), .lit (.string [41]), .lit (.string [59]), .lit (.string [58]), .lit (.string [44]), .lit (.string [46]), .lit (.string [61]), .lit (.string [60]), .lit (.string [43]), .lit (.string [45]), .lit (.string [38]), .lit (.string [124]), .lit (.string [94])]

/-- 'turnoutlaw06.LexTokens': WHATEVER THE INPUT: true; the input reads as it did. -/
def lexTokensSpec : ChangeSpec := { name := "lexTokens", fn := fun _ => fun
  | [d1, d2] => { results := [.lit (.bool true)], args := [d1, d2] }
  | _ => none }
def lexTokensRow : OpenClaim := { program := "ytedemfmafdilmaadoor", sum := "6d9d87a2c66e652ab3779584a6db21d02ee2ba59f515acc1c030a5e22d8db1ae", func := "turnout/turnoutlaw06.LexTokens", spec := "lexTokens", inPlace := ["math/bits.Add64"], unfollowed := true, recurses := true, named := ["turnout/lex.words", "turnout/lex.signs"], apart := false, laid := [("turnout/lex.words", laid_turnout_lex_words), ("turnout/lex.signs", laid_turnout_lex_signs)] }
def LexTokensSaid : Prop := lexTokensRow.holds Tryd.pinned (OpenSpec.ofChange lexTokensSpec)

/-- ITS FALSE NEIGHBOUR: 'it returns false'. Refute it at one input. -/
def lexTokensWrong : ChangeSpec := { name := "lexTokens", fn := fun _ => fun
  | [d1, d2] => { results := [.lit (.bool false)], args := [d1, d2] }
  | _ => none }
def LexTokensWrongFalsely : Prop := lexTokensRow.holds Tryd.pinned (OpenSpec.ofChange lexTokensWrong)

/-- 'turnoutlaw06.LexStands': WHATEVER THE INPUT: true; the input reads as it did. -/
def lexStandsSpec : ChangeSpec := { name := "lexStands", fn := fun _ => fun
  | [d] => { results := [.lit (.bool true)], args := [d] }
  | _ => none }
def lexStandsRow : OpenClaim := { program := "ytedemfmafdilmaadoor", sum := "6d9d87a2c66e652ab3779584a6db21d02ee2ba59f515acc1c030a5e22d8db1ae", func := "turnout/turnoutlaw06.LexStands", spec := "lexStands", inPlace := ["math/bits.Add64"], unfollowed := true, recurses := true, named := ["turnout/lex.words", "turnout/lex.signs"], apart := false, laid := [("turnout/lex.words", laid_turnout_lex_words), ("turnout/lex.signs", laid_turnout_lex_signs)] }
def LexStandsSaid : Prop := lexStandsRow.holds Tryd.pinned (OpenSpec.ofChange lexStandsSpec)

/-- ITS FALSE NEIGHBOUR: 'it returns false'. Refute it at one input. -/
def lexStandsWrong : ChangeSpec := { name := "lexStands", fn := fun _ => fun
  | [d] => { results := [.lit (.bool false)], args := [d] }
  | _ => none }
def LexStandsWrongFalsely : Prop := lexStandsRow.holds Tryd.pinned (OpenSpec.ofChange lexStandsWrong)

/-- 'turnoutlaw06.LexJoins': WHATEVER THE INPUT: true; the input reads as it did. -/
def lexJoinsSpec : ChangeSpec := { name := "lexJoins", fn := fun _ => fun
  | [d1, d2] => { results := [.lit (.bool true)], args := [d1, d2] }
  | _ => none }
def lexJoinsRow : OpenClaim := { program := "ytedemfmafdilmaadoor", sum := "6d9d87a2c66e652ab3779584a6db21d02ee2ba59f515acc1c030a5e22d8db1ae", func := "turnout/turnoutlaw06.LexJoins", spec := "lexJoins", inPlace := ["math/bits.Add64"], unfollowed := true, recurses := true, named := ["turnout/lex.words", "turnout/lex.signs"], apart := false, laid := [("turnout/lex.words", laid_turnout_lex_words), ("turnout/lex.signs", laid_turnout_lex_signs)] }
def LexJoinsSaid : Prop := lexJoinsRow.holds Tryd.pinned (OpenSpec.ofChange lexJoinsSpec)

/-- ITS FALSE NEIGHBOUR: 'it returns false'. Refute it at one input. -/
def lexJoinsWrong : ChangeSpec := { name := "lexJoins", fn := fun _ => fun
  | [d1, d2] => { results := [.lit (.bool false)], args := [d1, d2] }
  | _ => none }
def LexJoinsWrongFalsely : Prop := lexJoinsRow.holds Tryd.pinned (OpenSpec.ofChange lexJoinsWrong)

/-- 'turnoutlaw06.LexNumbers': WHATEVER THE INPUT: true; the input reads as it did. -/
def lexNumbersSpec : ChangeSpec := { name := "lexNumbers", fn := fun _ => fun
  | [d1, d2] => { results := [.lit (.bool true)], args := [d1, d2] }
  | _ => none }
def lexNumbersRow : OpenClaim := { program := "ytedemfmafdilmaadoor", sum := "6d9d87a2c66e652ab3779584a6db21d02ee2ba59f515acc1c030a5e22d8db1ae", func := "turnout/turnoutlaw06.LexNumbers", spec := "lexNumbers", inPlace := ["math/bits.Add64"], unfollowed := true, recurses := true, named := ["turnout/lex.words", "turnout/lex.signs"], apart := false, laid := [("turnout/lex.words", laid_turnout_lex_words), ("turnout/lex.signs", laid_turnout_lex_signs)] }
def LexNumbersSaid : Prop := lexNumbersRow.holds Tryd.pinned (OpenSpec.ofChange lexNumbersSpec)

/-- ITS FALSE NEIGHBOUR: 'it returns false'. Refute it at one input. -/
def lexNumbersWrong : ChangeSpec := { name := "lexNumbers", fn := fun _ => fun
  | [d1, d2] => { results := [.lit (.bool false)], args := [d1, d2] }
  | _ => none }
def LexNumbersWrongFalsely : Prop := lexNumbersRow.holds Tryd.pinned (OpenSpec.ofChange lexNumbersWrong)

/-- 'turnoutlaw06.LexEach': WHATEVER THE INPUT: true; the input reads as it did. -/
def lexEachSpec : ChangeSpec := { name := "lexEach", fn := fun _ => fun
  | [d1, d2] => { results := [.lit (.bool true)], args := [d1, d2] }
  | _ => none }
def lexEachRow : OpenClaim := { program := "ytedemfmafdilmaadoor", sum := "6d9d87a2c66e652ab3779584a6db21d02ee2ba59f515acc1c030a5e22d8db1ae", func := "turnout/turnoutlaw06.LexEach", spec := "lexEach", inPlace := ["math/bits.Add64"], unfollowed := true, recurses := true, named := ["turnout/lex.words", "turnout/lex.signs"], apart := false, laid := [("turnout/lex.words", laid_turnout_lex_words), ("turnout/lex.signs", laid_turnout_lex_signs)] }
def LexEachSaid : Prop := lexEachRow.holds Tryd.pinned (OpenSpec.ofChange lexEachSpec)

/-- ITS FALSE NEIGHBOUR: 'it returns false'. Refute it at one input. -/
def lexEachWrong : ChangeSpec := { name := "lexEach", fn := fun _ => fun
  | [d1, d2] => { results := [.lit (.bool false)], args := [d1, d2] }
  | _ => none }
def LexEachWrongFalsely : Prop := lexEachRow.holds Tryd.pinned (OpenSpec.ofChange lexEachWrong)

/-- 'turnoutlaw06.LexNames': WHATEVER THE INPUT: true; the input reads as it did. -/
def lexNamesSpec : ChangeSpec := { name := "lexNames", fn := fun _ => fun
  | [d] => { results := [.lit (.bool true)], args := [d] }
  | _ => none }
def lexNamesRow : OpenClaim := { program := "ytedemfmafdilmaadoor", sum := "6d9d87a2c66e652ab3779584a6db21d02ee2ba59f515acc1c030a5e22d8db1ae", func := "turnout/turnoutlaw06.LexNames", spec := "lexNames", inPlace := ["math/bits.Add64"], unfollowed := true, recurses := true, named := ["turnout/lex.words", "turnout/lex.signs"], apart := false, laid := [("turnout/lex.words", laid_turnout_lex_words), ("turnout/lex.signs", laid_turnout_lex_signs)] }
def LexNamesSaid : Prop := lexNamesRow.holds Tryd.pinned (OpenSpec.ofChange lexNamesSpec)

/-- ITS FALSE NEIGHBOUR: 'it returns false'. Refute it at one input. -/
def lexNamesWrong : ChangeSpec := { name := "lexNames", fn := fun _ => fun
  | [d] => { results := [.lit (.bool false)], args := [d] }
  | _ => none }
def LexNamesWrongFalsely : Prop := lexNamesRow.holds Tryd.pinned (OpenSpec.ofChange lexNamesWrong)

/- THE SECOND FORM. 'bulk': how many values and letters a reading holds, each counted each time it is reached (what is shared counts as often as it is met; a slice's spare places count too). A statement '..UptoSaid' is the law's where the arguments, and the package variables that the reading takes, are together of bulk at most 1048576: NARROWER than '..Said'. Prove '..Said' where nothing that the law and all that it calls make is longer than what came in: it says more and counts as full. Else prove '..UptoSaid'. A law counts once. -/
mutual
def uptoBulk {H : Type} : DataW H → Nat
  | .lit (.string bytes) => bytes.length + 1
  | .lit _ => 1
  | .nil => 1
  | .ptr d => uptoBulk d + 1
  | .slice elems spare => uptoBulkAll elems + uptoBulkAll spare + 1
  | .agg parts => uptoBulkAll parts + 1
  | .iface _ d => uptoBulk d + 1
  | .map entries => uptoBulkEntries entries + 1
  | .held _ => 1
def uptoBulkAll {H : Type} : List (DataW H) → Nat
  | [] => 0
  | d :: r => uptoBulk d + uptoBulkAll r
def uptoBulkEntries {H : Type} : List (Lit × DataW H) → Nat
  | [] => 0
  | x :: r => uptoBulkEntry x + uptoBulkEntries r
def uptoBulkEntry {H : Type} : Lit × DataW H → Nat
  | (.string bytes, d) => bytes.length + uptoBulk d + 1
  | (_, d) => uptoBulk d + 1
 end
def uptoSmall : (H : Type) → List (DataW H) → Bool := fun _ ds => decide (uptoBulkAll ds ≤ 1048576)
def OpenSpec.upto (s : _root_.Go.ChangeSpec) : _root_.Go.OpenSpec := { _root_.Go.OpenSpec.ofChange s with cond := some uptoSmall }

/-- 'turnoutlaw06.LexTokens', WHERE WHAT IT READS IS OF BULK AT MOST 1048576: true; the input reads as it did. -/
def lexTokensUptoRow : OpenClaim := { program := "ytedemfmafdilmaadoor", sum := "6d9d87a2c66e652ab3779584a6db21d02ee2ba59f515acc1c030a5e22d8db1ae", func := "turnout/turnoutlaw06.LexTokens", spec := "lexTokens", inPlace := ["math/bits.Add64"], unfollowed := true, recurses := true, named := ["turnout/lex.words", "turnout/lex.signs"], apart := false, laid := [("turnout/lex.words", laid_turnout_lex_words), ("turnout/lex.signs", laid_turnout_lex_signs)], narrowed := true }
def LexTokensUptoSaid : Prop := lexTokensUptoRow.holds Tryd.pinned (OpenSpec.upto lexTokensSpec)

/-- 'turnoutlaw06.LexStands', WHERE WHAT IT READS IS OF BULK AT MOST 1048576: true; the input reads as it did. -/
def lexStandsUptoRow : OpenClaim := { program := "ytedemfmafdilmaadoor", sum := "6d9d87a2c66e652ab3779584a6db21d02ee2ba59f515acc1c030a5e22d8db1ae", func := "turnout/turnoutlaw06.LexStands", spec := "lexStands", inPlace := ["math/bits.Add64"], unfollowed := true, recurses := true, named := ["turnout/lex.words", "turnout/lex.signs"], apart := false, laid := [("turnout/lex.words", laid_turnout_lex_words), ("turnout/lex.signs", laid_turnout_lex_signs)], narrowed := true }
def LexStandsUptoSaid : Prop := lexStandsUptoRow.holds Tryd.pinned (OpenSpec.upto lexStandsSpec)

/-- 'turnoutlaw06.LexJoins', WHERE WHAT IT READS IS OF BULK AT MOST 1048576: true; the input reads as it did. -/
def lexJoinsUptoRow : OpenClaim := { program := "ytedemfmafdilmaadoor", sum := "6d9d87a2c66e652ab3779584a6db21d02ee2ba59f515acc1c030a5e22d8db1ae", func := "turnout/turnoutlaw06.LexJoins", spec := "lexJoins", inPlace := ["math/bits.Add64"], unfollowed := true, recurses := true, named := ["turnout/lex.words", "turnout/lex.signs"], apart := false, laid := [("turnout/lex.words", laid_turnout_lex_words), ("turnout/lex.signs", laid_turnout_lex_signs)], narrowed := true }
def LexJoinsUptoSaid : Prop := lexJoinsUptoRow.holds Tryd.pinned (OpenSpec.upto lexJoinsSpec)

/-- 'turnoutlaw06.LexNumbers', WHERE WHAT IT READS IS OF BULK AT MOST 1048576: true; the input reads as it did. -/
def lexNumbersUptoRow : OpenClaim := { program := "ytedemfmafdilmaadoor", sum := "6d9d87a2c66e652ab3779584a6db21d02ee2ba59f515acc1c030a5e22d8db1ae", func := "turnout/turnoutlaw06.LexNumbers", spec := "lexNumbers", inPlace := ["math/bits.Add64"], unfollowed := true, recurses := true, named := ["turnout/lex.words", "turnout/lex.signs"], apart := false, laid := [("turnout/lex.words", laid_turnout_lex_words), ("turnout/lex.signs", laid_turnout_lex_signs)], narrowed := true }
def LexNumbersUptoSaid : Prop := lexNumbersUptoRow.holds Tryd.pinned (OpenSpec.upto lexNumbersSpec)

/-- 'turnoutlaw06.LexEach', WHERE WHAT IT READS IS OF BULK AT MOST 1048576: true; the input reads as it did. -/
def lexEachUptoRow : OpenClaim := { program := "ytedemfmafdilmaadoor", sum := "6d9d87a2c66e652ab3779584a6db21d02ee2ba59f515acc1c030a5e22d8db1ae", func := "turnout/turnoutlaw06.LexEach", spec := "lexEach", inPlace := ["math/bits.Add64"], unfollowed := true, recurses := true, named := ["turnout/lex.words", "turnout/lex.signs"], apart := false, laid := [("turnout/lex.words", laid_turnout_lex_words), ("turnout/lex.signs", laid_turnout_lex_signs)], narrowed := true }
def LexEachUptoSaid : Prop := lexEachUptoRow.holds Tryd.pinned (OpenSpec.upto lexEachSpec)

/-- 'turnoutlaw06.LexNames', WHERE WHAT IT READS IS OF BULK AT MOST 1048576: true; the input reads as it did. -/
def lexNamesUptoRow : OpenClaim := { program := "ytedemfmafdilmaadoor", sum := "6d9d87a2c66e652ab3779584a6db21d02ee2ba59f515acc1c030a5e22d8db1ae", func := "turnout/turnoutlaw06.LexNames", spec := "lexNames", inPlace := ["math/bits.Add64"], unfollowed := true, recurses := true, named := ["turnout/lex.words", "turnout/lex.signs"], apart := false, laid := [("turnout/lex.words", laid_turnout_lex_words), ("turnout/lex.signs", laid_turnout_lex_signs)], narrowed := true }
def LexNamesUptoSaid : Prop := lexNamesUptoRow.holds Tryd.pinned (OpenSpec.upto lexNamesSpec)

end Rows
end Go.Proofs.YtedemfmafdilmaaDoor
