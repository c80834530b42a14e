/-
  No cell of these rows narrows 'for every input' (looked for: loops, veiled, ifaces, maps, wideKeys, modest, calm, conditions, laid).
  DERIVED. THE GIVEN ROWS OF THIS SEAT. 6 by the template 'for every input the law returns true; each argument reads behind the call as it read before'; 0 by the template 'total and deterministic' (their statements: YticgkaanaimllaaTotals.lean).
  GIVEN WITH THE SEED: the statements are not yours to turn. If you find one false, say at which input.
  Laid BY PROGRAM, IN A SANDBOX (cutbox-rows.mjs): the forced cells as the released guide's own fill.sh prints them over the translation f378a2d397aa4c3d… (all of the seat's roots in one cut). By AI agents, Wed Nov 11 2026. No macro, syntax, notation, axiom, sorry.
-/
import Derived.Test.YticgkaanaimllaaChecked
import GoSem.Claim
import GoSem.ClaimJoined
import GoSem.ClaimMapViews
import Derived.JoinedTies
import Derived.KernelRfl
namespace Go.Proofs.Yticgkaanaimllaa
/- THE CELL 'sum', in the pinned program and in every row, IS THE sha256 OF THE DUMP (.gsa) THAT YticgkaanaimllaaProg.lean LOADS. Nothing in Lean hashes anything: it is a label: what it is worth is what the hold of that sum in a sandbox is worth. -/
noncomputable def Try.pinned : Pinned := { name := "yticgkaanaimllaa", sum := "f378a2d397aa4c3d9d588b666c4113e0439ec0fd3be5ea0b530b4ce4c2d3ed71", checked := Try.checked }
namespace Rows
def none {H : Type} : Left H := { results := [], args := [] }

/-- 'turnoutlaw13.TrieLongest': WHATEVER THE INPUT: true; the input reads as it did. -/
def trieLongestSpec : ChangeSpec := { name := "trieLongest", fn := fun _ => fun
  | [d1, d2, d3] => { results := [.lit (.bool true)], args := [d1, d2, d3] }
  | _ => none }
def trieLongestRow : OpenClaim := { program := "yticgkaanaimllaa", sum := "f378a2d397aa4c3d9d588b666c4113e0439ec0fd3be5ea0b530b4ce4c2d3ed71", func := "turnout/turnoutlaw13.TrieLongest", spec := "trieLongest", unfollowed := true, recurses := true, apart := false }
def TrieLongestSaid : Prop := trieLongestRow.holds Try.pinned (OpenSpec.ofChange trieLongestSpec)

/-- ITS FALSE NEIGHBOUR: 'it returns false'. Refute it at one input. -/
def trieLongestWrong : ChangeSpec := { name := "trieLongest", fn := fun _ => fun
  | [d1, d2, d3] => { results := [.lit (.bool false)], args := [d1, d2, d3] }
  | _ => none }
def TrieLongestWrongFalsely : Prop := trieLongestRow.holds Try.pinned (OpenSpec.ofChange trieLongestWrong)

/-- 'turnoutlaw13.TrieUnder': WHATEVER THE INPUT: true; the input reads as it did. -/
def trieUnderSpec : ChangeSpec := { name := "trieUnder", fn := fun _ => fun
  | [d1, d2, d3] => { results := [.lit (.bool true)], args := [d1, d2, d3] }
  | _ => none }
def trieUnderRow : OpenClaim := { program := "yticgkaanaimllaa", sum := "f378a2d397aa4c3d9d588b666c4113e0439ec0fd3be5ea0b530b4ce4c2d3ed71", func := "turnout/turnoutlaw13.TrieUnder", spec := "trieUnder", unfollowed := true, recurses := true, apart := false }
def TrieUnderSaid : Prop := trieUnderRow.holds Try.pinned (OpenSpec.ofChange trieUnderSpec)

/-- ITS FALSE NEIGHBOUR: 'it returns false'. Refute it at one input. -/
def trieUnderWrong : ChangeSpec := { name := "trieUnder", fn := fun _ => fun
  | [d1, d2, d3] => { results := [.lit (.bool false)], args := [d1, d2, d3] }
  | _ => none }
def TrieUnderWrongFalsely : Prop := trieUnderRow.holds Try.pinned (OpenSpec.ofChange trieUnderWrong)

/-- 'turnoutlaw13.TrieOrders': WHATEVER THE INPUT: true; the input reads as it did. -/
def trieOrdersSpec : ChangeSpec := { name := "trieOrders", fn := fun _ => fun
  | [d1, d2, d3] => { results := [.lit (.bool true)], args := [d1, d2, d3] }
  | _ => none }
def trieOrdersRow : OpenClaim := { program := "yticgkaanaimllaa", sum := "f378a2d397aa4c3d9d588b666c4113e0439ec0fd3be5ea0b530b4ce4c2d3ed71", func := "turnout/turnoutlaw13.TrieOrders", spec := "trieOrders", unfollowed := true, recurses := true, apart := false }
def TrieOrdersSaid : Prop := trieOrdersRow.holds Try.pinned (OpenSpec.ofChange trieOrdersSpec)

/-- ITS FALSE NEIGHBOUR: 'it returns false'. Refute it at one input. -/
def trieOrdersWrong : ChangeSpec := { name := "trieOrders", fn := fun _ => fun
  | [d1, d2, d3] => { results := [.lit (.bool false)], args := [d1, d2, d3] }
  | _ => none }
def TrieOrdersWrongFalsely : Prop := trieOrdersRow.holds Try.pinned (OpenSpec.ofChange trieOrdersWrong)

/-- 'turnoutlaw13.TrieWalks': WHATEVER THE INPUT: true; the input reads as it did. -/
def trieWalksSpec : ChangeSpec := { name := "trieWalks", fn := fun _ => fun
  | [d1, d2, d3] => { results := [.lit (.bool true)], args := [d1, d2, d3] }
  | _ => none }
def trieWalksRow : OpenClaim := { program := "yticgkaanaimllaa", sum := "f378a2d397aa4c3d9d588b666c4113e0439ec0fd3be5ea0b530b4ce4c2d3ed71", func := "turnout/turnoutlaw13.TrieWalks", spec := "trieWalks", unfollowed := true, recurses := true, apart := false }
def TrieWalksSaid : Prop := trieWalksRow.holds Try.pinned (OpenSpec.ofChange trieWalksSpec)

/-- ITS FALSE NEIGHBOUR: 'it returns false'. Refute it at one input. -/
def trieWalksWrong : ChangeSpec := { name := "trieWalks", fn := fun _ => fun
  | [d1, d2, d3] => { results := [.lit (.bool false)], args := [d1, d2, d3] }
  | _ => none }
def TrieWalksWrongFalsely : Prop := trieWalksRow.holds Try.pinned (OpenSpec.ofChange trieWalksWrong)

/-- 'turnoutlaw13.TriePlays': WHATEVER THE INPUT: true; the input reads as it did. -/
def triePlaysSpec : ChangeSpec := { name := "triePlays", fn := fun _ => fun
  | [d1, d2, d3] => { results := [.lit (.bool true)], args := [d1, d2, d3] }
  | _ => none }
def triePlaysRow : OpenClaim := { program := "yticgkaanaimllaa", sum := "f378a2d397aa4c3d9d588b666c4113e0439ec0fd3be5ea0b530b4ce4c2d3ed71", func := "turnout/turnoutlaw13.TriePlays", spec := "triePlays", unfollowed := true, recurses := true, apart := false }
def TriePlaysSaid : Prop := triePlaysRow.holds Try.pinned (OpenSpec.ofChange triePlaysSpec)

/-- ITS FALSE NEIGHBOUR: 'it returns false'. Refute it at one input. -/
def triePlaysWrong : ChangeSpec := { name := "triePlays", fn := fun _ => fun
  | [d1, d2, d3] => { results := [.lit (.bool false)], args := [d1, d2, d3] }
  | _ => none }
def TriePlaysWrongFalsely : Prop := triePlaysRow.holds Try.pinned (OpenSpec.ofChange triePlaysWrong)

/-- 'turnoutlaw13.TrieNil': WHATEVER THE INPUT: true; the input reads as it did. -/
def trieNilSpec : ChangeSpec := { name := "trieNil", fn := fun _ => fun
  | [d1, d2, d3] => { results := [.lit (.bool true)], args := [d1, d2, d3] }
  | _ => none }
def trieNilRow : OpenClaim := { program := "yticgkaanaimllaa", sum := "f378a2d397aa4c3d9d588b666c4113e0439ec0fd3be5ea0b530b4ce4c2d3ed71", func := "turnout/turnoutlaw13.TrieNil", spec := "trieNil", unfollowed := true, recurses := true, apart := false }
def TrieNilSaid : Prop := trieNilRow.holds Try.pinned (OpenSpec.ofChange trieNilSpec)

/-- ITS FALSE NEIGHBOUR: 'it returns false'. Refute it at one input. -/
def trieNilWrong : ChangeSpec := { name := "trieNil", fn := fun _ => fun
  | [d1, d2, d3] => { results := [.lit (.bool false)], args := [d1, d2, d3] }
  | _ => none }
def TrieNilWrongFalsely : Prop := trieNilRow.holds Try.pinned (OpenSpec.ofChange trieNilWrong)

/- THE SECOND FORM. 'bulk': how many values and letters a reading holds, each counted each time it is reached (what is shared counts as often as it is met; a slice's spare places count too). A statement '..UptoSaid' is the law's where the arguments, and the package variables that the reading takes, are together of bulk at most 1048576: NARROWER than '..Said'. Prove '..Said' where nothing that the law and all that it calls make is longer than what came in: it says more and counts as full. Else prove '..UptoSaid'. A law counts once. -/
mutual
def uptoBulk {H : Type} : DataW H → Nat
  | .lit (.string bytes) => bytes.length + 1
  | .lit _ => 1
  | .nil => 1
  | .ptr d => uptoBulk d + 1
  | .slice elems spare => uptoBulkAll elems + uptoBulkAll spare + 1
  | .agg parts => uptoBulkAll parts + 1
  | .iface _ d => uptoBulk d + 1
  | .map entries => uptoBulkEntries entries + 1
  | .held _ => 1
def uptoBulkAll {H : Type} : List (DataW H) → Nat
  | [] => 0
  | d :: r => uptoBulk d + uptoBulkAll r
def uptoBulkEntries {H : Type} : List (Lit × DataW H) → Nat
  | [] => 0
  | x :: r => uptoBulkEntry x + uptoBulkEntries r
def uptoBulkEntry {H : Type} : Lit × DataW H → Nat
  | (.string bytes, d) => bytes.length + uptoBulk d + 1
  | (_, d) => uptoBulk d + 1
 end
def uptoSmall : (H : Type) → List (DataW H) → Bool := fun _ ds => decide (uptoBulkAll ds ≤ 1048576)
def OpenSpec.upto (s : _root_.Go.ChangeSpec) : _root_.Go.OpenSpec := { _root_.Go.OpenSpec.ofChange s with cond := some uptoSmall }

/-- 'turnoutlaw13.TrieLongest', WHERE WHAT IT READS IS OF BULK AT MOST 1048576: true; the input reads as it did. -/
def trieLongestUptoRow : OpenClaim := { program := "yticgkaanaimllaa", sum := "f378a2d397aa4c3d9d588b666c4113e0439ec0fd3be5ea0b530b4ce4c2d3ed71", func := "turnout/turnoutlaw13.TrieLongest", spec := "trieLongest", unfollowed := true, recurses := true, apart := false, narrowed := true }
def TrieLongestUptoSaid : Prop := trieLongestUptoRow.holds Try.pinned (OpenSpec.upto trieLongestSpec)

/-- 'turnoutlaw13.TrieUnder', WHERE WHAT IT READS IS OF BULK AT MOST 1048576: true; the input reads as it did. -/
def trieUnderUptoRow : OpenClaim := { program := "yticgkaanaimllaa", sum := "f378a2d397aa4c3d9d588b666c4113e0439ec0fd3be5ea0b530b4ce4c2d3ed71", func := "turnout/turnoutlaw13.TrieUnder", spec := "trieUnder", unfollowed := true, recurses := true, apart := false, narrowed := true }
def TrieUnderUptoSaid : Prop := trieUnderUptoRow.holds Try.pinned (OpenSpec.upto trieUnderSpec)

/-- 'turnoutlaw13.TrieOrders', WHERE WHAT IT READS IS OF BULK AT MOST 1048576: true; the input reads as it did. -/
def trieOrdersUptoRow : OpenClaim := { program := "yticgkaanaimllaa", sum := "f378a2d397aa4c3d9d588b666c4113e0439ec0fd3be5ea0b530b4ce4c2d3ed71", func := "turnout/turnoutlaw13.TrieOrders", spec := "trieOrders", unfollowed := true, recurses := true, apart := false, narrowed := true }
def TrieOrdersUptoSaid : Prop := trieOrdersUptoRow.holds Try.pinned (OpenSpec.upto trieOrdersSpec)

/-- 'turnoutlaw13.TrieWalks', WHERE WHAT IT READS IS OF BULK AT MOST 1048576: true; the input reads as it did. -/
def trieWalksUptoRow : OpenClaim := { program := "yticgkaanaimllaa", sum := "f378a2d397aa4c3d9d588b666c4113e0439ec0fd3be5ea0b530b4ce4c2d3ed71", func := "turnout/turnoutlaw13.TrieWalks", spec := "trieWalks", unfollowed := true, recurses := true, apart := false, narrowed := true }
def TrieWalksUptoSaid : Prop := trieWalksUptoRow.holds Try.pinned (OpenSpec.upto trieWalksSpec)

/-- 'turnoutlaw13.TriePlays', WHERE WHAT IT READS IS OF BULK AT MOST 1048576: true; the input reads as it did. -/
def triePlaysUptoRow : OpenClaim := { program := "yticgkaanaimllaa", sum := "f378a2d397aa4c3d9d588b666c4113e0439ec0fd3be5ea0b530b4ce4c2d3ed71", func := "turnout/turnoutlaw13.TriePlays", spec := "triePlays", unfollowed := true, recurses := true, apart := false, narrowed := true }
def TriePlaysUptoSaid : Prop := triePlaysUptoRow.holds Try.pinned (OpenSpec.upto triePlaysSpec)

/-- 'turnoutlaw13.TrieNil', WHERE WHAT IT READS IS OF BULK AT MOST 1048576: true; the input reads as it did. -/
def trieNilUptoRow : OpenClaim := { program := "yticgkaanaimllaa", sum := "f378a2d397aa4c3d9d588b666c4113e0439ec0fd3be5ea0b530b4ce4c2d3ed71", func := "turnout/turnoutlaw13.TrieNil", spec := "trieNil", unfollowed := true, recurses := true, apart := false, narrowed := true }
def TrieNilUptoSaid : Prop := trieNilUptoRow.holds Try.pinned (OpenSpec.upto trieNilSpec)

end Rows
end Go.Proofs.Yticgkaanaimllaa
