/-
  NARROWER THAN 'FOR EVERY INPUT', by the rows' own cells (each row's printed sentence says how): SchemaControls: loops · SchemaWays: loops · SchemaEnds: loops.
  DERIVED. THE GIVEN ROWS OF THIS SEAT. 5 by the template 'for every input the law returns true; each argument reads behind the call as it read before'; 0 by the template 'total and deterministic' (their statements: YtpllhhaeclnngaaTotals.lean).
  GIVEN WITH THE SEED: the statements are not yours to turn. If you find one false, say at which input.
  Laid BY PROGRAM, IN A SANDBOX (cutbox-rows.mjs): the forced cells as the released guide's own fill.sh prints them over the translation d7aa7704cad1622b… (all of the seat's roots in one cut). By AI agents, Wed Nov 11 2026. No macro, syntax, notation, axiom, sorry.
-/
import Derived.Test.YtpllhhaeclnngaaChecked
import GoSem.Claim
import GoSem.ClaimJoined
import GoSem.ClaimMapViews
import Derived.JoinedTies
import Derived.KernelRfl
namespace Go.Proofs.Ytpllhhaeclnngaa
/- THE CELL 'sum', in the pinned program and in every row, IS THE sha256 OF THE DUMP (.gsa) THAT YtpllhhaeclnngaaProg.lean LOADS. Nothing in Lean hashes anything: it is a label: what it is worth is what the hold of that sum in a sandbox is worth. -/
noncomputable def Try.pinned : Pinned := { name := "ytpllhhaeclnngaa", sum := "d7aa7704cad1622b2dc97715e53999a6c53d7a89cfb274a4c20a8a4da16be3ef", checked := Try.checked }
namespace Rows
def none {H : Type} : Left H := { results := [], args := [] }

/-- 'turnoutlaw07.SchemaNumbers': WHATEVER THE INPUT: true; the input reads as it did. -/
def schemaNumbersSpec : ChangeSpec := { name := "schemaNumbers", fn := fun _ => fun
  | [] => { results := [.lit (.bool true)], args := [] }
  | _ => none }
def schemaNumbersRow : OpenClaim := { program := "ytpllhhaeclnngaa", sum := "d7aa7704cad1622b2dc97715e53999a6c53d7a89cfb274a4c20a8a4da16be3ef", func := "turnout/turnoutlaw07.SchemaNumbers", spec := "schemaNumbers", unfollowed := true, recurses := true, plainKeys := false, apart := false }
def SchemaNumbersSaid : Prop := schemaNumbersRow.holds Try.pinned (OpenSpec.ofChange schemaNumbersSpec)

/-- ITS FALSE NEIGHBOUR: 'it returns false'. Refute it at one input. -/
def schemaNumbersWrong : ChangeSpec := { name := "schemaNumbers", fn := fun _ => fun
  | [] => { results := [.lit (.bool false)], args := [] }
  | _ => none }
def SchemaNumbersWrongFalsely : Prop := schemaNumbersRow.holds Try.pinned (OpenSpec.ofChange schemaNumbersWrong)

/-- 'turnoutlaw07.SchemaNames': WHATEVER THE INPUT: true; the input reads as it did. -/
def schemaNamesSpec : ChangeSpec := { name := "schemaNames", fn := fun _ => fun
  | [d] => { results := [.lit (.bool true)], args := [d] }
  | _ => none }
def schemaNamesRow : OpenClaim := { program := "ytpllhhaeclnngaa", sum := "d7aa7704cad1622b2dc97715e53999a6c53d7a89cfb274a4c20a8a4da16be3ef", func := "turnout/turnoutlaw07.SchemaNames", spec := "schemaNames", unfollowed := true, recurses := true, plainKeys := false, apart := false }
def SchemaNamesSaid : Prop := schemaNamesRow.holds Try.pinned (OpenSpec.ofChange schemaNamesSpec)

/-- ITS FALSE NEIGHBOUR: 'it returns false'. Refute it at one input. -/
def schemaNamesWrong : ChangeSpec := { name := "schemaNames", fn := fun _ => fun
  | [d] => { results := [.lit (.bool false)], args := [d] }
  | _ => none }
def SchemaNamesWrongFalsely : Prop := schemaNamesRow.holds Try.pinned (OpenSpec.ofChange schemaNamesWrong)

/-- 'turnoutlaw07.SchemaControls': WHATEVER THE INPUT: true; the input reads as it did. -/
def schemaControlsSpec : ChangeSpec := { name := "schemaControls", fn := fun _ => fun
  | [d] => { results := [.lit (.bool true)], args := [d] }
  | _ => none }
def schemaControlsRow : OpenClaim := { program := "ytpllhhaeclnngaa", sum := "d7aa7704cad1622b2dc97715e53999a6c53d7a89cfb274a4c20a8a4da16be3ef", func := "turnout/turnoutlaw07.SchemaControls", spec := "schemaControls", unfollowed := true, recurses := true, loops := true, plainKeys := false, apart := false }
def SchemaControlsSaid : Prop := schemaControlsRow.holds Try.pinned (OpenSpec.ofChange schemaControlsSpec)

/-- ITS FALSE NEIGHBOUR: 'it returns false'. Refute it at one input. -/
def schemaControlsWrong : ChangeSpec := { name := "schemaControls", fn := fun _ => fun
  | [d] => { results := [.lit (.bool false)], args := [d] }
  | _ => none }
def SchemaControlsWrongFalsely : Prop := schemaControlsRow.holds Try.pinned (OpenSpec.ofChange schemaControlsWrong)

/-- 'turnoutlaw07.SchemaWays': WHATEVER THE INPUT: true; the input reads as it did. -/
def schemaWaysSpec : ChangeSpec := { name := "schemaWays", fn := fun _ => fun
  | [d1, d2] => { results := [.lit (.bool true)], args := [d1, d2] }
  | _ => none }
def schemaWaysRow : OpenClaim := { program := "ytpllhhaeclnngaa", sum := "d7aa7704cad1622b2dc97715e53999a6c53d7a89cfb274a4c20a8a4da16be3ef", func := "turnout/turnoutlaw07.SchemaWays", spec := "schemaWays", unfollowed := true, recurses := true, loops := true, plainKeys := false, apart := false }
def SchemaWaysSaid : Prop := schemaWaysRow.holds Try.pinned (OpenSpec.ofChange schemaWaysSpec)

/-- ITS FALSE NEIGHBOUR: 'it returns false'. Refute it at one input. -/
def schemaWaysWrong : ChangeSpec := { name := "schemaWays", fn := fun _ => fun
  | [d1, d2] => { results := [.lit (.bool false)], args := [d1, d2] }
  | _ => none }
def SchemaWaysWrongFalsely : Prop := schemaWaysRow.holds Try.pinned (OpenSpec.ofChange schemaWaysWrong)

/-- 'turnoutlaw07.SchemaEnds': WHATEVER THE INPUT: true; the input reads as it did. -/
def schemaEndsSpec : ChangeSpec := { name := "schemaEnds", fn := fun _ => fun
  | [d1, d2] => { results := [.lit (.bool true)], args := [d1, d2] }
  | _ => none }
def schemaEndsRow : OpenClaim := { program := "ytpllhhaeclnngaa", sum := "d7aa7704cad1622b2dc97715e53999a6c53d7a89cfb274a4c20a8a4da16be3ef", func := "turnout/turnoutlaw07.SchemaEnds", spec := "schemaEnds", unfollowed := true, recurses := true, loops := true, plainKeys := false, apart := false }
def SchemaEndsSaid : Prop := schemaEndsRow.holds Try.pinned (OpenSpec.ofChange schemaEndsSpec)

/-- ITS FALSE NEIGHBOUR: 'it returns false'. Refute it at one input. -/
def schemaEndsWrong : ChangeSpec := { name := "schemaEnds", fn := fun _ => fun
  | [d1, d2] => { results := [.lit (.bool false)], args := [d1, d2] }
  | _ => none }
def SchemaEndsWrongFalsely : Prop := schemaEndsRow.holds Try.pinned (OpenSpec.ofChange schemaEndsWrong)

/- THE SECOND FORM. 'bulk': how many values and letters a reading holds, each counted each time it is reached (what is shared counts as often as it is met; a slice's spare places count too). A statement '..UptoSaid' is the law's where the arguments, and the package variables that the reading takes, are together of bulk at most 1048576: NARROWER than '..Said'. Prove '..Said' where nothing that the law and all that it calls make is longer than what came in: it says more and counts as full. Else prove '..UptoSaid'. A law counts once. -/
mutual
def uptoBulk {H : Type} : DataW H → Nat
  | .lit (.string bytes) => bytes.length + 1
  | .lit _ => 1
  | .nil => 1
  | .ptr d => uptoBulk d + 1
  | .slice elems spare => uptoBulkAll elems + uptoBulkAll spare + 1
  | .agg parts => uptoBulkAll parts + 1
  | .iface _ d => uptoBulk d + 1
  | .map entries => uptoBulkEntries entries + 1
  | .held _ => 1
def uptoBulkAll {H : Type} : List (DataW H) → Nat
  | [] => 0
  | d :: r => uptoBulk d + uptoBulkAll r
def uptoBulkEntries {H : Type} : List (Lit × DataW H) → Nat
  | [] => 0
  | x :: r => uptoBulkEntry x + uptoBulkEntries r
def uptoBulkEntry {H : Type} : Lit × DataW H → Nat
  | (.string bytes, d) => bytes.length + uptoBulk d + 1
  | (_, d) => uptoBulk d + 1
 end
def uptoSmall : (H : Type) → List (DataW H) → Bool := fun _ ds => decide (uptoBulkAll ds ≤ 1048576)
def OpenSpec.upto (s : _root_.Go.ChangeSpec) : _root_.Go.OpenSpec := { _root_.Go.OpenSpec.ofChange s with cond := some uptoSmall }

/-- 'turnoutlaw07.SchemaNumbers', WHERE WHAT IT READS IS OF BULK AT MOST 1048576: true; the input reads as it did. -/
def schemaNumbersUptoRow : OpenClaim := { program := "ytpllhhaeclnngaa", sum := "d7aa7704cad1622b2dc97715e53999a6c53d7a89cfb274a4c20a8a4da16be3ef", func := "turnout/turnoutlaw07.SchemaNumbers", spec := "schemaNumbers", unfollowed := true, recurses := true, plainKeys := false, apart := false, narrowed := true }
def SchemaNumbersUptoSaid : Prop := schemaNumbersUptoRow.holds Try.pinned (OpenSpec.upto schemaNumbersSpec)

/-- 'turnoutlaw07.SchemaNames', WHERE WHAT IT READS IS OF BULK AT MOST 1048576: true; the input reads as it did. -/
def schemaNamesUptoRow : OpenClaim := { program := "ytpllhhaeclnngaa", sum := "d7aa7704cad1622b2dc97715e53999a6c53d7a89cfb274a4c20a8a4da16be3ef", func := "turnout/turnoutlaw07.SchemaNames", spec := "schemaNames", unfollowed := true, recurses := true, plainKeys := false, apart := false, narrowed := true }
def SchemaNamesUptoSaid : Prop := schemaNamesUptoRow.holds Try.pinned (OpenSpec.upto schemaNamesSpec)

/-- 'turnoutlaw07.SchemaControls', WHERE WHAT IT READS IS OF BULK AT MOST 1048576: true; the input reads as it did. -/
def schemaControlsUptoRow : OpenClaim := { program := "ytpllhhaeclnngaa", sum := "d7aa7704cad1622b2dc97715e53999a6c53d7a89cfb274a4c20a8a4da16be3ef", func := "turnout/turnoutlaw07.SchemaControls", spec := "schemaControls", unfollowed := true, recurses := true, loops := true, plainKeys := false, apart := false, narrowed := true }
def SchemaControlsUptoSaid : Prop := schemaControlsUptoRow.holds Try.pinned (OpenSpec.upto schemaControlsSpec)

/-- 'turnoutlaw07.SchemaWays', WHERE WHAT IT READS IS OF BULK AT MOST 1048576: true; the input reads as it did. -/
def schemaWaysUptoRow : OpenClaim := { program := "ytpllhhaeclnngaa", sum := "d7aa7704cad1622b2dc97715e53999a6c53d7a89cfb274a4c20a8a4da16be3ef", func := "turnout/turnoutlaw07.SchemaWays", spec := "schemaWays", unfollowed := true, recurses := true, loops := true, plainKeys := false, apart := false, narrowed := true }
def SchemaWaysUptoSaid : Prop := schemaWaysUptoRow.holds Try.pinned (OpenSpec.upto schemaWaysSpec)

/-- 'turnoutlaw07.SchemaEnds', WHERE WHAT IT READS IS OF BULK AT MOST 1048576: true; the input reads as it did. -/
def schemaEndsUptoRow : OpenClaim := { program := "ytpllhhaeclnngaa", sum := "d7aa7704cad1622b2dc97715e53999a6c53d7a89cfb274a4c20a8a4da16be3ef", func := "turnout/turnoutlaw07.SchemaEnds", spec := "schemaEnds", unfollowed := true, recurses := true, loops := true, plainKeys := false, apart := false, narrowed := true }
def SchemaEndsUptoSaid : Prop := schemaEndsUptoRow.holds Try.pinned (OpenSpec.upto schemaEndsSpec)

end Rows
end Go.Proofs.Ytpllhhaeclnngaa
