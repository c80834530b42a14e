/-
  NARROWER THAN 'FOR EVERY INPUT', by the rows' own cells (each row's printed sentence says how): SchemaChecks: loops · SchemaCopies: loops · SchemaTurned: loops · SchemaFinds: loops · SchemaMemory: loops · SchemaGrows: loops.
  DERIVED. THE GIVEN ROWS OF THIS SEAT. 6 by the template 'for every input the law returns true; each argument reads behind the call as it read before'; 0 by the template 'total and deterministic' (their statements: YtpllhhaeclnngaaGreatTotals.lean).
  GIVEN WITH THE SEED: the statements are not yours to turn. If you find one false, say at which input.
  Laid BY PROGRAM, IN A SANDBOX (cutbox-rows.mjs): the forced cells as the released guide's own fill.sh prints them over the translation e556ffc29a6392e2… (all of the seat's roots in one cut). By AI agents, Wed Nov 11 2026. No macro, syntax, notation, axiom, sorry.
-/
import Derived.Test.YtpllhhaeclnngaaGreatChecked
import GoSem.Claim
import GoSem.ClaimJoined
import GoSem.ClaimMapViews
import Derived.JoinedTies
import Derived.KernelRfl
namespace Go.Proofs.YtpllhhaeclnngaaGreat
/- THE CELL 'sum', in the pinned program and in every row, IS THE sha256 OF THE DUMP (.gsa) THAT YtpllhhaeclnngaaGreatProg.lean LOADS. Nothing in Lean hashes anything: it is a label: what it is worth is what the hold of that sum in a sandbox is worth. -/
noncomputable def Tryz.pinned : Pinned := { name := "ytpllhhaeclnngaagreat", sum := "e556ffc29a6392e26236bdc82682e5e5dc4cb5be023e1be6936ab413033685c1", checked := Tryz.checked }
namespace Rows
def none {H : Type} : Left H := { results := [], args := [] }

/-- 'turnoutlaw07.SchemaChecks': WHATEVER THE INPUT: true; the input reads as it did. -/
def schemaChecksSpec : ChangeSpec := { name := "schemaChecks", fn := fun _ => fun
  | [d] => { results := [.lit (.bool true)], args := [d] }
  | _ => none }
def schemaChecksRow : OpenClaim := { program := "ytpllhhaeclnngaagreat", sum := "e556ffc29a6392e26236bdc82682e5e5dc4cb5be023e1be6936ab413033685c1", func := "turnout/turnoutlaw07.SchemaChecks", spec := "schemaChecks", unfollowed := true, recurses := true, loops := true, plainKeys := false, apart := false }
def SchemaChecksSaid : Prop := schemaChecksRow.holds Tryz.pinned (OpenSpec.ofChange schemaChecksSpec)

/-- ITS FALSE NEIGHBOUR: 'it returns false'. Refute it at one input. -/
def schemaChecksWrong : ChangeSpec := { name := "schemaChecks", fn := fun _ => fun
  | [d] => { results := [.lit (.bool false)], args := [d] }
  | _ => none }
def SchemaChecksWrongFalsely : Prop := schemaChecksRow.holds Tryz.pinned (OpenSpec.ofChange schemaChecksWrong)

/-- 'turnoutlaw07.SchemaCopies': WHATEVER THE INPUT: true; the input reads as it did. -/
def schemaCopiesSpec : ChangeSpec := { name := "schemaCopies", fn := fun _ => fun
  | [d1, d2] => { results := [.lit (.bool true)], args := [d1, d2] }
  | _ => none }
def schemaCopiesRow : OpenClaim := { program := "ytpllhhaeclnngaagreat", sum := "e556ffc29a6392e26236bdc82682e5e5dc4cb5be023e1be6936ab413033685c1", func := "turnout/turnoutlaw07.SchemaCopies", spec := "schemaCopies", unfollowed := true, recurses := true, loops := true, plainKeys := false, apart := false }
def SchemaCopiesSaid : Prop := schemaCopiesRow.holds Tryz.pinned (OpenSpec.ofChange schemaCopiesSpec)

/-- ITS FALSE NEIGHBOUR: 'it returns false'. Refute it at one input. -/
def schemaCopiesWrong : ChangeSpec := { name := "schemaCopies", fn := fun _ => fun
  | [d1, d2] => { results := [.lit (.bool false)], args := [d1, d2] }
  | _ => none }
def SchemaCopiesWrongFalsely : Prop := schemaCopiesRow.holds Tryz.pinned (OpenSpec.ofChange schemaCopiesWrong)

/-- 'turnoutlaw07.SchemaTurned': WHATEVER THE INPUT: true; the input reads as it did. -/
def schemaTurnedSpec : ChangeSpec := { name := "schemaTurned", fn := fun _ => fun
  | [d] => { results := [.lit (.bool true)], args := [d] }
  | _ => none }
def schemaTurnedRow : OpenClaim := { program := "ytpllhhaeclnngaagreat", sum := "e556ffc29a6392e26236bdc82682e5e5dc4cb5be023e1be6936ab413033685c1", func := "turnout/turnoutlaw07.SchemaTurned", spec := "schemaTurned", unfollowed := true, recurses := true, loops := true, plainKeys := false, apart := false }
def SchemaTurnedSaid : Prop := schemaTurnedRow.holds Tryz.pinned (OpenSpec.ofChange schemaTurnedSpec)

/-- ITS FALSE NEIGHBOUR: 'it returns false'. Refute it at one input. -/
def schemaTurnedWrong : ChangeSpec := { name := "schemaTurned", fn := fun _ => fun
  | [d] => { results := [.lit (.bool false)], args := [d] }
  | _ => none }
def SchemaTurnedWrongFalsely : Prop := schemaTurnedRow.holds Tryz.pinned (OpenSpec.ofChange schemaTurnedWrong)

/-- 'turnoutlaw07.SchemaFinds': WHATEVER THE INPUT: true; the input reads as it did. -/
def schemaFindsSpec : ChangeSpec := { name := "schemaFinds", fn := fun _ => fun
  | [d1, d2] => { results := [.lit (.bool true)], args := [d1, d2] }
  | _ => none }
def schemaFindsRow : OpenClaim := { program := "ytpllhhaeclnngaagreat", sum := "e556ffc29a6392e26236bdc82682e5e5dc4cb5be023e1be6936ab413033685c1", func := "turnout/turnoutlaw07.SchemaFinds", spec := "schemaFinds", unfollowed := true, recurses := true, loops := true, plainKeys := false, apart := false }
def SchemaFindsSaid : Prop := schemaFindsRow.holds Tryz.pinned (OpenSpec.ofChange schemaFindsSpec)

/-- ITS FALSE NEIGHBOUR: 'it returns false'. Refute it at one input. -/
def schemaFindsWrong : ChangeSpec := { name := "schemaFinds", fn := fun _ => fun
  | [d1, d2] => { results := [.lit (.bool false)], args := [d1, d2] }
  | _ => none }
def SchemaFindsWrongFalsely : Prop := schemaFindsRow.holds Tryz.pinned (OpenSpec.ofChange schemaFindsWrong)

/-- 'turnoutlaw07.SchemaMemory': WHATEVER THE INPUT: true; the input reads as it did. -/
def schemaMemorySpec : ChangeSpec := { name := "schemaMemory", fn := fun _ => fun
  | [d1, d2] => { results := [.lit (.bool true)], args := [d1, d2] }
  | _ => none }
def schemaMemoryRow : OpenClaim := { program := "ytpllhhaeclnngaagreat", sum := "e556ffc29a6392e26236bdc82682e5e5dc4cb5be023e1be6936ab413033685c1", func := "turnout/turnoutlaw07.SchemaMemory", spec := "schemaMemory", unfollowed := true, recurses := true, loops := true, plainKeys := false, apart := false }
def SchemaMemorySaid : Prop := schemaMemoryRow.holds Tryz.pinned (OpenSpec.ofChange schemaMemorySpec)

/-- ITS FALSE NEIGHBOUR: 'it returns false'. Refute it at one input. -/
def schemaMemoryWrong : ChangeSpec := { name := "schemaMemory", fn := fun _ => fun
  | [d1, d2] => { results := [.lit (.bool false)], args := [d1, d2] }
  | _ => none }
def SchemaMemoryWrongFalsely : Prop := schemaMemoryRow.holds Tryz.pinned (OpenSpec.ofChange schemaMemoryWrong)

/-- 'turnoutlaw07.SchemaGrows': WHATEVER THE INPUT: true; the input reads as it did. -/
def schemaGrowsSpec : ChangeSpec := { name := "schemaGrows", fn := fun _ => fun
  | [d1, d2, d3] => { results := [.lit (.bool true)], args := [d1, d2, d3] }
  | _ => none }
def schemaGrowsRow : OpenClaim := { program := "ytpllhhaeclnngaagreat", sum := "e556ffc29a6392e26236bdc82682e5e5dc4cb5be023e1be6936ab413033685c1", func := "turnout/turnoutlaw07.SchemaGrows", spec := "schemaGrows", unfollowed := true, recurses := true, loops := true, plainKeys := false, apart := false }
def SchemaGrowsSaid : Prop := schemaGrowsRow.holds Tryz.pinned (OpenSpec.ofChange schemaGrowsSpec)

/-- ITS FALSE NEIGHBOUR: 'it returns false'. Refute it at one input. -/
def schemaGrowsWrong : ChangeSpec := { name := "schemaGrows", fn := fun _ => fun
  | [d1, d2, d3] => { results := [.lit (.bool false)], args := [d1, d2, d3] }
  | _ => none }
def SchemaGrowsWrongFalsely : Prop := schemaGrowsRow.holds Tryz.pinned (OpenSpec.ofChange schemaGrowsWrong)

/- THE SECOND FORM. 'bulk': how many values and letters a reading holds, each counted each time it is reached (what is shared counts as often as it is met; a slice's spare places count too). A statement '..UptoSaid' is the law's where the arguments, and the package variables that the reading takes, are together of bulk at most 1048576: NARROWER than '..Said'. Prove '..Said' where nothing that the law and all that it calls make is longer than what came in: it says more and counts as full. Else prove '..UptoSaid'. A law counts once. -/
mutual
def uptoBulk {H : Type} : DataW H → Nat
  | .lit (.string bytes) => bytes.length + 1
  | .lit _ => 1
  | .nil => 1
  | .ptr d => uptoBulk d + 1
  | .slice elems spare => uptoBulkAll elems + uptoBulkAll spare + 1
  | .agg parts => uptoBulkAll parts + 1
  | .iface _ d => uptoBulk d + 1
  | .map entries => uptoBulkEntries entries + 1
  | .held _ => 1
def uptoBulkAll {H : Type} : List (DataW H) → Nat
  | [] => 0
  | d :: r => uptoBulk d + uptoBulkAll r
def uptoBulkEntries {H : Type} : List (Lit × DataW H) → Nat
  | [] => 0
  | x :: r => uptoBulkEntry x + uptoBulkEntries r
def uptoBulkEntry {H : Type} : Lit × DataW H → Nat
  | (.string bytes, d) => bytes.length + uptoBulk d + 1
  | (_, d) => uptoBulk d + 1
 end
def uptoSmall : (H : Type) → List (DataW H) → Bool := fun _ ds => decide (uptoBulkAll ds ≤ 1048576)
def OpenSpec.upto (s : _root_.Go.ChangeSpec) : _root_.Go.OpenSpec := { _root_.Go.OpenSpec.ofChange s with cond := some uptoSmall }

/-- 'turnoutlaw07.SchemaChecks', WHERE WHAT IT READS IS OF BULK AT MOST 1048576: true; the input reads as it did. -/
def schemaChecksUptoRow : OpenClaim := { program := "ytpllhhaeclnngaagreat", sum := "e556ffc29a6392e26236bdc82682e5e5dc4cb5be023e1be6936ab413033685c1", func := "turnout/turnoutlaw07.SchemaChecks", spec := "schemaChecks", unfollowed := true, recurses := true, loops := true, plainKeys := false, apart := false, narrowed := true }
def SchemaChecksUptoSaid : Prop := schemaChecksUptoRow.holds Tryz.pinned (OpenSpec.upto schemaChecksSpec)

/-- 'turnoutlaw07.SchemaCopies', WHERE WHAT IT READS IS OF BULK AT MOST 1048576: true; the input reads as it did. -/
def schemaCopiesUptoRow : OpenClaim := { program := "ytpllhhaeclnngaagreat", sum := "e556ffc29a6392e26236bdc82682e5e5dc4cb5be023e1be6936ab413033685c1", func := "turnout/turnoutlaw07.SchemaCopies", spec := "schemaCopies", unfollowed := true, recurses := true, loops := true, plainKeys := false, apart := false, narrowed := true }
def SchemaCopiesUptoSaid : Prop := schemaCopiesUptoRow.holds Tryz.pinned (OpenSpec.upto schemaCopiesSpec)

/-- 'turnoutlaw07.SchemaTurned', WHERE WHAT IT READS IS OF BULK AT MOST 1048576: true; the input reads as it did. -/
def schemaTurnedUptoRow : OpenClaim := { program := "ytpllhhaeclnngaagreat", sum := "e556ffc29a6392e26236bdc82682e5e5dc4cb5be023e1be6936ab413033685c1", func := "turnout/turnoutlaw07.SchemaTurned", spec := "schemaTurned", unfollowed := true, recurses := true, loops := true, plainKeys := false, apart := false, narrowed := true }
def SchemaTurnedUptoSaid : Prop := schemaTurnedUptoRow.holds Tryz.pinned (OpenSpec.upto schemaTurnedSpec)

/-- 'turnoutlaw07.SchemaFinds', WHERE WHAT IT READS IS OF BULK AT MOST 1048576: true; the input reads as it did. -/
def schemaFindsUptoRow : OpenClaim := { program := "ytpllhhaeclnngaagreat", sum := "e556ffc29a6392e26236bdc82682e5e5dc4cb5be023e1be6936ab413033685c1", func := "turnout/turnoutlaw07.SchemaFinds", spec := "schemaFinds", unfollowed := true, recurses := true, loops := true, plainKeys := false, apart := false, narrowed := true }
def SchemaFindsUptoSaid : Prop := schemaFindsUptoRow.holds Tryz.pinned (OpenSpec.upto schemaFindsSpec)

/-- 'turnoutlaw07.SchemaMemory', WHERE WHAT IT READS IS OF BULK AT MOST 1048576: true; the input reads as it did. -/
def schemaMemoryUptoRow : OpenClaim := { program := "ytpllhhaeclnngaagreat", sum := "e556ffc29a6392e26236bdc82682e5e5dc4cb5be023e1be6936ab413033685c1", func := "turnout/turnoutlaw07.SchemaMemory", spec := "schemaMemory", unfollowed := true, recurses := true, loops := true, plainKeys := false, apart := false, narrowed := true }
def SchemaMemoryUptoSaid : Prop := schemaMemoryUptoRow.holds Tryz.pinned (OpenSpec.upto schemaMemorySpec)

/-- 'turnoutlaw07.SchemaGrows', WHERE WHAT IT READS IS OF BULK AT MOST 1048576: true; the input reads as it did. -/
def schemaGrowsUptoRow : OpenClaim := { program := "ytpllhhaeclnngaagreat", sum := "e556ffc29a6392e26236bdc82682e5e5dc4cb5be023e1be6936ab413033685c1", func := "turnout/turnoutlaw07.SchemaGrows", spec := "schemaGrows", unfollowed := true, recurses := true, loops := true, plainKeys := false, apart := false, narrowed := true }
def SchemaGrowsUptoSaid : Prop := schemaGrowsUptoRow.holds Tryz.pinned (OpenSpec.upto schemaGrowsSpec)

end Rows
end Go.Proofs.YtpllhhaeclnngaaGreat
