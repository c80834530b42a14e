/-
  No cell of these rows narrows 'for every input' (looked for: loops, veiled, ifaces, maps, wideKeys, modest, calm, conditions, laid).
  DERIVED. THE GIVEN ROWS OF THIS SEAT. 3 by the template 'for every input the law returns true; each argument reads behind the call as it read before'; 0 by the template 'total and deterministic' (their statements: YtbiehhddmcgfaaaTotals.lean).
  GIVEN WITH THE SEED: the statements are not yours to turn. If you find one false, say at which input.
  Laid BY PROGRAM, IN A SANDBOX (cutbox-rows.mjs): the forced cells as the released guide's own fill.sh prints them over the translation 0634f7fc30835567… (all of the seat's roots in one cut). By AI agents, Wed Nov 11 2026. No macro, syntax, notation, axiom, sorry.
-/
import Derived.Test.YtbiehhddmcgfaaaChecked
import GoSem.Claim
import GoSem.ClaimJoined
import GoSem.ClaimMapViews
import Derived.JoinedTies
import Derived.KernelRfl
namespace Go.Proofs.Ytbiehhddmcgfaaa
/- THE CELL 'sum', in the pinned program and in every row, IS THE sha256 OF THE DUMP (.gsa) THAT YtbiehhddmcgfaaaProg.lean LOADS. Nothing in Lean hashes anything: it is a label: what it is worth is what the hold of that sum in a sandbox is worth. -/
noncomputable def Try.pinned : Pinned := { name := "ytbiehhddmcgfaaa", sum := "0634f7fc308355672b14c8ab57c0a4d0171bd48ef254ae143ec12cd6d70a1bdc", checked := Try.checked }
namespace Rows
def none {H : Type} : Left H := { results := [], args := [] }

/-- 'turnoutlaw12.ExactAny': WHATEVER THE INPUT: true; the input reads as it did. -/
def exactAnySpec : ChangeSpec := { name := "exactAny", fn := fun _ => fun
  | [d1, d2] => { results := [.lit (.bool true)], args := [d1, d2] }
  | _ => none }
def exactAnyRow : OpenClaim := { program := "ytbiehhddmcgfaaa", sum := "0634f7fc308355672b14c8ab57c0a4d0171bd48ef254ae143ec12cd6d70a1bdc", func := "turnout/turnoutlaw12.ExactAny", spec := "exactAny", inPlace := ["internal/bytealg.abigen_runtime_cmpstring"], unfollowed := true, recurses := true, apart := false }
def ExactAnySaid : Prop := exactAnyRow.holds Try.pinned (OpenSpec.ofChange exactAnySpec)

/-- ITS FALSE NEIGHBOUR: 'it returns false'. Refute it at one input. -/
def exactAnyWrong : ChangeSpec := { name := "exactAny", fn := fun _ => fun
  | [d1, d2] => { results := [.lit (.bool false)], args := [d1, d2] }
  | _ => none }
def ExactAnyWrongFalsely : Prop := exactAnyRow.holds Try.pinned (OpenSpec.ofChange exactAnyWrong)

/-- 'turnoutlaw12.ExactPlays': WHATEVER THE INPUT: true; the input reads as it did. -/
def exactPlaysSpec : ChangeSpec := { name := "exactPlays", fn := fun _ => fun
  | [d1, d2, d3] => { results := [.lit (.bool true)], args := [d1, d2, d3] }
  | _ => none }
def exactPlaysRow : OpenClaim := { program := "ytbiehhddmcgfaaa", sum := "0634f7fc308355672b14c8ab57c0a4d0171bd48ef254ae143ec12cd6d70a1bdc", func := "turnout/turnoutlaw12.ExactPlays", spec := "exactPlays", inPlace := ["internal/bytealg.abigen_runtime_cmpstring"], unfollowed := true, recurses := true, apart := false }
def ExactPlaysSaid : Prop := exactPlaysRow.holds Try.pinned (OpenSpec.ofChange exactPlaysSpec)

/-- ITS FALSE NEIGHBOUR: 'it returns false'. Refute it at one input. -/
def exactPlaysWrong : ChangeSpec := { name := "exactPlays", fn := fun _ => fun
  | [d1, d2, d3] => { results := [.lit (.bool false)], args := [d1, d2, d3] }
  | _ => none }
def ExactPlaysWrongFalsely : Prop := exactPlaysRow.holds Try.pinned (OpenSpec.ofChange exactPlaysWrong)

/-- 'turnoutlaw12.ExactNil': WHATEVER THE INPUT: true; the input reads as it did. -/
def exactNilSpec : ChangeSpec := { name := "exactNil", fn := fun _ => fun
  | [d1, d2] => { results := [.lit (.bool true)], args := [d1, d2] }
  | _ => none }
def exactNilRow : OpenClaim := { program := "ytbiehhddmcgfaaa", sum := "0634f7fc308355672b14c8ab57c0a4d0171bd48ef254ae143ec12cd6d70a1bdc", func := "turnout/turnoutlaw12.ExactNil", spec := "exactNil", inPlace := ["internal/bytealg.abigen_runtime_cmpstring"], unfollowed := true, recurses := true, apart := false }
def ExactNilSaid : Prop := exactNilRow.holds Try.pinned (OpenSpec.ofChange exactNilSpec)

/-- ITS FALSE NEIGHBOUR: 'it returns false'. Refute it at one input. -/
def exactNilWrong : ChangeSpec := { name := "exactNil", fn := fun _ => fun
  | [d1, d2] => { results := [.lit (.bool false)], args := [d1, d2] }
  | _ => none }
def ExactNilWrongFalsely : Prop := exactNilRow.holds Try.pinned (OpenSpec.ofChange exactNilWrong)

/- THE SECOND FORM. 'bulk': how many values and letters a reading holds, each counted each time it is reached (what is shared counts as often as it is met; a slice's spare places count too). A statement '..UptoSaid' is the law's where the arguments, and the package variables that the reading takes, are together of bulk at most 1048576: NARROWER than '..Said'. Prove '..Said' where nothing that the law and all that it calls make is longer than what came in: it says more and counts as full. Else prove '..UptoSaid'. A law counts once. -/
mutual
def uptoBulk {H : Type} : DataW H → Nat
  | .lit (.string bytes) => bytes.length + 1
  | .lit _ => 1
  | .nil => 1
  | .ptr d => uptoBulk d + 1
  | .slice elems spare => uptoBulkAll elems + uptoBulkAll spare + 1
  | .agg parts => uptoBulkAll parts + 1
  | .iface _ d => uptoBulk d + 1
  | .map entries => uptoBulkEntries entries + 1
  | .held _ => 1
def uptoBulkAll {H : Type} : List (DataW H) → Nat
  | [] => 0
  | d :: r => uptoBulk d + uptoBulkAll r
def uptoBulkEntries {H : Type} : List (Lit × DataW H) → Nat
  | [] => 0
  | x :: r => uptoBulkEntry x + uptoBulkEntries r
def uptoBulkEntry {H : Type} : Lit × DataW H → Nat
  | (.string bytes, d) => bytes.length + uptoBulk d + 1
  | (_, d) => uptoBulk d + 1
 end
def uptoSmall : (H : Type) → List (DataW H) → Bool := fun _ ds => decide (uptoBulkAll ds ≤ 1048576)
def OpenSpec.upto (s : _root_.Go.ChangeSpec) : _root_.Go.OpenSpec := { _root_.Go.OpenSpec.ofChange s with cond := some uptoSmall }

/-- 'turnoutlaw12.ExactAny', WHERE WHAT IT READS IS OF BULK AT MOST 1048576: true; the input reads as it did. -/
def exactAnyUptoRow : OpenClaim := { program := "ytbiehhddmcgfaaa", sum := "0634f7fc308355672b14c8ab57c0a4d0171bd48ef254ae143ec12cd6d70a1bdc", func := "turnout/turnoutlaw12.ExactAny", spec := "exactAny", inPlace := ["internal/bytealg.abigen_runtime_cmpstring"], unfollowed := true, recurses := true, apart := false, narrowed := true }
def ExactAnyUptoSaid : Prop := exactAnyUptoRow.holds Try.pinned (OpenSpec.upto exactAnySpec)

/-- 'turnoutlaw12.ExactPlays', WHERE WHAT IT READS IS OF BULK AT MOST 1048576: true; the input reads as it did. -/
def exactPlaysUptoRow : OpenClaim := { program := "ytbiehhddmcgfaaa", sum := "0634f7fc308355672b14c8ab57c0a4d0171bd48ef254ae143ec12cd6d70a1bdc", func := "turnout/turnoutlaw12.ExactPlays", spec := "exactPlays", inPlace := ["internal/bytealg.abigen_runtime_cmpstring"], unfollowed := true, recurses := true, apart := false, narrowed := true }
def ExactPlaysUptoSaid : Prop := exactPlaysUptoRow.holds Try.pinned (OpenSpec.upto exactPlaysSpec)

/-- 'turnoutlaw12.ExactNil', WHERE WHAT IT READS IS OF BULK AT MOST 1048576: true; the input reads as it did. -/
def exactNilUptoRow : OpenClaim := { program := "ytbiehhddmcgfaaa", sum := "0634f7fc308355672b14c8ab57c0a4d0171bd48ef254ae143ec12cd6d70a1bdc", func := "turnout/turnoutlaw12.ExactNil", spec := "exactNil", inPlace := ["internal/bytealg.abigen_runtime_cmpstring"], unfollowed := true, recurses := true, apart := false, narrowed := true }
def ExactNilUptoSaid : Prop := exactNilUptoRow.holds Try.pinned (OpenSpec.upto exactNilSpec)

end Rows
end Go.Proofs.Ytbiehhddmcgfaaa
