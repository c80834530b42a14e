/- SchemaEnds: whatever cases fit, the parser of a sound schema ends behind 32 states, and each of them takes a header that there is: whatever the schema and the choices, the law answers true. Conditions: none. -/
import Derived.Test.YtpllhhaeclnngaaEnd3
import Derived.ChangeArms
import Derived.ChangeStays
import Derived.ChangeOld
import Derived.ChangeShapes
import Derived.WideShapes
import Derived.DataReads
import Derived.RowKit
import Derived.ProofKit
import Derived.SizedLaws
import Derived.Test.YtpllhhaeclnngaaRows
import Derived.OpenShut
import Derived.JoinedOf
import Derived.MakeChecks
import Derived.Stop.Joined
namespace Go.Proofs.Ytpllhhaeclnngaa.Ev
set_option maxRecDepth 100000
set_option linter.unusedSimpArgs false
set_option linter.unusedVariables false
section
variable {R : FRes → Heap → Prop} {H : Heap}
/-- IsName, known by what it answers. -/
def isNmL (args : List Value) (_ : Heap) : Option Value :=
 match args with
 | [.string s] => some (.bool (isNm s.data.toList))
 | _ => none
def Tab2 : Table := fun f => if f = 9 then some (.lib isNmL) else Tab f
theorem rel_nil {ρ : Nat → Place} {w : World} : Rel T.G ρ [] w :=
 ⟨fun b o h => (by simp at h), fun b c o u h => (by simp at h), fun g hg => (by have : T.G = 0 := (by unfold T; kernel_rfl); omega), (by have : T.G = 0 := (by unfold T; kernel_rfl); omega)⟩
theorem table_ok2 : TableOK T.P T.G Tab2 := by
 intro f af h
 unfold Tab2 at h
 by_cases hf : f = 9
 ·rw [if_pos hf] at h
  cases h
  subst hf
  intro args H v hv
  unfold isNmL at hv
  split at hv
  case h_2 => cases hv
  rename_i s
  cases hv
  refine ⟨rfl, fun args' w => ?_, fun ρ w args' hr ha => ?_⟩
  ·obtain ⟨_, _, hc, _⟩ := prepFn_inv t9
   exact hc.enter _ _
  ·have hw : WD T 9 [.string s] [] (fun r _ => r = .ret (.bool (isNm s.data.toList))) := by
    have hs : Value.string s = .string (bs s.data.toList) := by simp [bs]
    rw [hs]
    exact isName_s rfl
   refine wd_true t9 hw rel_nil (args' := args') ⟨ha.1, fun i x y hx hy => (ha.2 i x y hx hy).narrow (.closed ?_)⟩ (by simp)
   have : x ∈ ([.string s] : List Value) := List.mem_of_getElem? hx
   simp at this
   subst this
   rfl
 ·rw [if_neg hf] at h
  exact table_ok f af h
/-! The run is evaluated in two parts: as one, the kernel's check of it takes nearly all the memory that a build may take. What lies between them was printed by a program. -/
abbrev s8 (l : List UInt8) : Value := .string (bs l)
abbrev i8 (n : Int) : Value := .int .i64 n
abbrev u8 (n : Int) : Value := .int .u64 n
abbrev p8 (b o : Nat) : Option Addr := some ⟨b, o, none⟩
abbrev l8 (b o l c : Nat) : Value := .slice (p8 b o) l c
abbrev n8 : Value := .slice none 0 0
def e8 : Env := pad 118 [.bool false, .pointer (p8 15 0), i8 0, s8 [], i8 76, s8 [116,97,98,108,101,32,114,111,117,116,101], undef, undef, undef, undef, undef, undef, .agg #[l8 3 0 1 1,l8 4 0 1 1,l8 6 0 1 1,l8 9 0 1 1,l8 13 0 1 1,l8 14 0 1 1], .tuple #[i8 0,s8 []], .agg #[l8 3 0 1 1,l8 4 0 1 1,l8 6 0 1 1,l8 9 0 1 1,l8 13 0 1 1,l8 14 0 1 1], .tuple #[i8 0,s8 []], i8 0, s8 [], .tuple #[i8 76,s8 [116,97,98,108,101,32,114,111,117,116,101]], .agg #[l8 136 0 1 1,l8 137 0 1 1,l8 139 0 1 1,l8 142 0 1 1,l8 146 0 1 1,l8 149 0 1 1], .tuple #[i8 76,s8 [116,97,98,108,101,32,114,111,117,116,101]], i8 76, s8 [116,97,98,108,101,32,114,111,117,116,101]]
def h8 : Heap := [.row [l8 3 0 1 1,l8 4 0 1 1,l8 6 0 1 1,l8 9 0 1 1,l8 13 0 1 1,l8 14 0 1 1] 0 true, .row [l8 3 0 1 1,l8 4 0 1 1,l8 6 0 1 1,l8 9 0 1 1,l8 13 0 1 1,l8 14 0 1 1] 0 true, .row [s8 [116,116,108],i8 8,s8 [115,114,99],i8 32] 2 true, .row [s8 [105,112],l8 2 0 2 2] 2 true, .row [s8 [112,111,114,116],i8 9] 2 true, .row [u8 0,u8 0,u8 0,u8 255,s8 [114,101,106,101,99,116]] 5 true,
 .row [s8 [98,101,103,105,110],s8 [105,112],s8 [105,112],s8 [116,116,108],l8 5 0 1 1,s8 [97,99,99,101,112,116]] 6 true, .row [s8 [112],i8 9] 2 true, .row [i8 1,s8 [109,101,116,97],s8 [112,111,114,116],i8 0,s8 [],s8 [112],u8 0,u8 0,s8 [],s8 [],u8 0,u8 0] 12 true, .row [s8 [111,117,116],l8 7 0 1 1,l8 8 0 1 1] 3 true, .row [s8 [105,112],s8 [115,114,99],i8 2] 3 true, .row [s8 [111,117,116]] 1 true,
 .row [u8 0,u8 511] 2 true, .row [s8 [114,111,117,116,101],l8 10 0 1 1,l8 11 0 1 1,i8 4,s8 [111,117,116],l8 12 0 1 1,.bool false] 7 true, .row [i8 1,s8 [114,111,117,116,101],i8 0,s8 [],s8 [],u8 0,u8 0,s8 [],s8 [],u8 0,u8 0,n8,n8] 13 true, .row [l8 3 0 1 1,l8 4 0 1 1,l8 6 0 1 1,l8 9 0 1 1,l8 13 0 1 1,l8 14 0 1 1] 0 true, .row [l8 3 0 1 1,l8 4 0 1 1,l8 6 0 1 1,l8 9 0 1 1,l8 13 0 1 1,l8 14 0 1 1] 0 true,
 .row [i8 0] 0 true, .row [s8 []] 0 true, .row [l8 3 0 1 1,l8 4 0 1 1,l8 6 0 1 1,l8 9 0 1 1,l8 13 0 1 1,l8 14 0 1 1,s8 [99,111,110,116,114,111,108]] 0 true, .map [((s8 [105,112]),(i8 1))], .row [s8 [105,112],l8 2 0 2 2] 0 true, .map [((s8 [116,116,108]),(i8 1)),((s8 [115,114,99]),(i8 1))], .row [s8 [116,116,108],i8 8] 0 true, .row [s8 [115,114,99],i8 32] 0 true, .row [s8 [116,116,108],i8 8] 0 true,
 .row [s8 [115,114,99],i8 32] 0 true, .map [((s8 [112,111,114,116]),(i8 1))], .row [s8 [112,111,114,116],i8 9] 0 true, .map [((s8 [97,99,99,101,112,116]),(i8 1)),((s8 [114,101,106,101,99,116]),(i8 1)),((s8 [98,101,103,105,110]),(i8 1))], .row [s8 [98,101,103,105,110],s8 [105,112],s8 [105,112],s8 [116,116,108],l8 5 0 1 1,s8 [97,99,99,101,112,116]] 0 true, .map [((s8 [98,101,103,105,110]),(i8 1))],
 .row [s8 [98,101,103,105,110],s8 [105,112],s8 [105,112],s8 [116,116,108],l8 5 0 1 1,s8 [97,99,99,101,112,116]] 0 true, .row [l8 3 0 1 1,l8 4 0 1 1,l8 6 0 1 1,l8 9 0 1 1,l8 13 0 1 1,l8 14 0 1 1] 0 true, .row [s8 [105,112]] 0 true, .row [s8 [105,112],l8 2 0 2 2] 0 true, .row [l8 3 0 1 1,l8 4 0 1 1,l8 6 0 1 1,l8 9 0 1 1,l8 13 0 1 1,l8 14 0 1 1] 0 true, .row [s8 [105,112],s8 [116,116,108]] 0 true,
 .row [s8 [116,116,108],i8 8] 0 true, .row [l8 3 0 1 1,l8 4 0 1 1,l8 6 0 1 1,l8 9 0 1 1,l8 13 0 1 1,l8 14 0 1 1] 0 true, .row [s8 [105,112]] 0 true, .row [s8 [105,112],l8 2 0 2 2] 0 true, .row [s8 [116,116,108]] 0 true, .row [s8 [116,116,108],i8 8] 0 true, .row [s8 [116,116,108],i8 8] 0 true, .map [((.agg #[u8 0,u8 0,u8 0,u8 255]),(i8 1))],
 .row [u8 0,u8 0,u8 0,u8 255,s8 [114,101,106,101,99,116]] 0 true, .row [u8 0,u8 255] 0 true, .row [u8 0,u8 0,u8 0,u8 255] 0 true, .map [((s8 [98,101,103,105,110]),(i8 1))], .row [s8 [98,101,103,105,110],s8 [105,112],s8 [105,112],s8 [116,116,108],l8 5 0 1 1,s8 [97,99,99,101,112,116]] 0 true,
 .row [s8 [98,101,103,105,110],s8 [105,112],s8 [105,112],s8 [116,116,108],l8 5 0 1 1,s8 [97,99,99,101,112,116]] 0 true, .row [.bool false] 1 true, .row [i8 0] 1 true, .row [s8 [98,101,103,105,110],s8 [105,112],s8 [105,112],s8 [116,116,108],l8 5 0 1 1,s8 [97,99,99,101,112,116]] 0 true, .dead, .row [u8 0,u8 0,u8 0,u8 255,s8 [114,101,106,101,99,116]] 0 true, .row [s8 [114,101,106,101,99,116]] 1 true,
 .row [s8 [97,99,99,101,112,116],s8 [114,101,106,101,99,116]] 1 true, .map [((s8 [111,117,116]),(i8 1))], .row [s8 [111,117,116],l8 7 0 1 1,l8 8 0 1 1] 0 true, .map [((s8 [112]),(i8 1))], .row [s8 [112],i8 9] 0 true, .row [i8 1,s8 [109,101,116,97],s8 [112,111,114,116],i8 0,s8 [],s8 [112],u8 0,u8 0,s8 [],s8 [],u8 0,u8 0] 0 true,
 .row [i8 1,s8 [109,101,116,97],s8 [112,111,114,116],i8 0,s8 [],s8 [112],u8 0,u8 0,s8 [],s8 [],u8 0,u8 0] 0 true, .row [s8 [],s8 [],u8 0,u8 0] 0 true, .row [s8 [],s8 [112],u8 0,u8 0] 0 true, .row [s8 [],s8 [],u8 0,u8 0] 0 true, .row [l8 3 0 1 1,l8 4 0 1 1,l8 6 0 1 1,l8 9 0 1 1,l8 13 0 1 1,l8 14 0 1 1] 0 true, .row [s8 [109,101,116,97],s8 [112,111,114,116]] 0 true,
 .row [s8 [112,111,114,116],i8 9] 0 true, .row [s8 [112,111,114,116]] 0 true, .row [s8 [112,111,114,116],i8 9] 0 true, .row [s8 [112,111,114,116],i8 9] 0 true, .row [s8 [],s8 [112],u8 0,u8 0] 0 true, .row [l8 3 0 1 1,l8 4 0 1 1,l8 6 0 1 1,l8 9 0 1 1,l8 13 0 1 1,l8 14 0 1 1] 0 true, .row [s8 [],s8 [112]] 0 true, .row [s8 [],i8 0] 0 true, .row [s8 [112],i8 9] 0 true, .row [s8 [112]] 0 true,
 .row [s8 [112],i8 9] 0 true, .row [s8 [],s8 [],u8 0,u8 0] 0 true, .row [u8 0,u8 0] 0 true, .map [((s8 [114,111,117,116,101]),(i8 1))], .row [s8 [114,111,117,116,101],l8 10 0 1 1,l8 11 0 1 1,i8 4,s8 [111,117,116],l8 12 0 1 1,.bool false] 0 true, .row [s8 [105,112],s8 [115,114,99],i8 2] 0 true, .row [l8 3 0 1 1,l8 4 0 1 1,l8 6 0 1 1,l8 9 0 1 1,l8 13 0 1 1,l8 14 0 1 1] 0 true,
 .row [s8 [105,112],s8 [115,114,99]] 0 true, .row [s8 [115,114,99],i8 32] 0 true, .row [l8 3 0 1 1,l8 4 0 1 1,l8 6 0 1 1,l8 9 0 1 1,l8 13 0 1 1,l8 14 0 1 1] 0 true, .row [s8 [105,112]] 0 true, .row [s8 [105,112],l8 2 0 2 2] 0 true, .row [s8 [115,114,99]] 0 true, .row [s8 [116,116,108],i8 8] 0 true, .row [s8 [115,114,99],i8 32] 0 true, .row [s8 [115,114,99],i8 32] 0 true,
 .row [s8 [114,111,117,116,101],l8 10 0 1 1,l8 11 0 1 1,i8 4,s8 [111,117,116],l8 12 0 1 1,.bool false] 0 true, .row [i8 3] 0 true, .row [s8 [105,112],s8 [115,114,99],i8 2] 0 true, .row [i8 4] 0 true, .row [s8 [105,112],s8 [115,114,99],i8 2] 0 true, .row [i8 2] 0 true, .row [s8 [105,112],s8 [115,114,99],i8 2] 0 true, .map [((s8 [111,117,116]),(i8 1))],
 .row [l8 3 0 1 1,l8 4 0 1 1,l8 6 0 1 1,l8 9 0 1 1,l8 13 0 1 1,l8 14 0 1 1] 0 true, .row [s8 [111,117,116]] 0 true, .row [s8 [111,117,116],l8 7 0 1 1,l8 8 0 1 1] 0 true, .row [l8 3 0 1 1,l8 4 0 1 1,l8 6 0 1 1,l8 9 0 1 1,l8 13 0 1 1,l8 14 0 1 1] 0 true, .row [s8 [111,117,116],l8 12 0 1 1] 0 true, .row [l8 3 0 1 1,l8 4 0 1 1,l8 6 0 1 1,l8 9 0 1 1,l8 13 0 1 1,l8 14 0 1 1] 0 true,
 .row [s8 [114,111,117,116,101]] 0 true, .row [s8 [114,111,117,116,101],l8 10 0 1 1,l8 11 0 1 1,i8 4,s8 [111,117,116],l8 12 0 1 1,.bool false] 0 true, .row [l8 3 0 1 1,l8 4 0 1 1,l8 6 0 1 1,l8 9 0 1 1,l8 13 0 1 1,l8 14 0 1 1] 0 true, .row [s8 [111,117,116]] 0 true, .row [s8 [111,117,116],l8 7 0 1 1,l8 8 0 1 1] 0 true, .row [s8 [112],i8 9] 0 true, .row [u8 0,u8 511] 0 true,
 .row [l8 3 0 1 1,l8 4 0 1 1,l8 6 0 1 1,l8 9 0 1 1,l8 13 0 1 1,l8 14 0 1 1] 0 true, .row [i8 1] 0 true, .row [.bool false] 0 true, .row [i8 1,s8 [114,111,117,116,101],i8 0,s8 [],s8 [],u8 0,u8 0,s8 [],s8 [],u8 0,u8 0,n8,n8] 0 true, .row [i8 1,s8 [114,111,117,116,101],i8 0,s8 [],s8 [],u8 0,u8 0,s8 [],s8 [],u8 0,u8 0,n8,n8] 0 true, .map [((s8 [114,111,117,116,101]),(i8 1))],
 .row [.map (some 122)] 0 true, .row [i8 1,s8 [114,111,117,116,101],i8 0,s8 [],s8 [],u8 0,u8 0,s8 [],s8 [],u8 0,u8 0,n8,n8] 0 true, .row [i8 1,s8 [114,111,117,116,101],i8 0,s8 [],s8 [],u8 0,u8 0,s8 [],s8 [],u8 0,u8 0,n8,n8] 0 true, .row [i8 1,s8 [114,111,117,116,101],i8 0,s8 [],s8 [],u8 0,u8 0,s8 [],s8 [],u8 0,u8 0,n8,n8] 0 true, .row [i8 0,s8 [],s8 [],u8 0,u8 0,s8 [],s8 [],u8 0,u8 0] 0 true,
 .row [i8 0,s8 [],s8 [],u8 0,u8 0,s8 [],s8 [],u8 0,u8 0] 0 true, .row [l8 3 0 1 1,l8 4 0 1 1,l8 6 0 1 1,l8 9 0 1 1,l8 13 0 1 1,l8 14 0 1 1] 0 true, .row [s8 [114,111,117,116,101]] 0 true, .row [s8 [114,111,117,116,101],l8 10 0 1 1,l8 11 0 1 1,i8 4,s8 [111,117,116],l8 12 0 1 1,.bool false] 0 true, .row [i8 0,s8 []] 0 true,
 .row [l8 136 0 1 1,l8 137 0 1 1,l8 139 0 1 1,l8 142 0 1 1,l8 146 0 1 1,l8 149 0 1 1] 0 true, .row [l8 136 0 1 1,l8 137 0 1 1,l8 139 0 1 1,l8 142 0 1 1,l8 146 0 1 1,l8 149 0 1 1] 0 true, .row [s8 [116,116,108],i8 8,s8 [115,114,99],i8 32] 2 true, .row [s8 [105,112],l8 135 0 2 2] 2 true, .row [s8 [112,111,114,116],i8 9] 2 true, .row [u8 0,u8 0,u8 0,u8 255,s8 [114,101,106,101,99,116]] 5 true,
 .row [s8 [98,101,103,105,110],s8 [105,112],s8 [105,112],s8 [116,116,108],l8 138 0 1 1,s8 [97,99,99,101,112,116]] 6 true, .row [s8 [112],i8 9] 2 true, .row [i8 1,s8 [109,101,116,97],s8 [112,111,114,116],i8 0,s8 [],s8 [112],u8 0,u8 0,s8 [],s8 [],u8 0,u8 0] 12 true, .row [s8 [111,117,116],l8 140 0 1 1,l8 141 0 1 1] 3 true, .row [s8 [105,112],s8 [115,114,99],i8 2] 3 true, .row [s8 [111,117,116]] 1 true,
 .dead, .row [s8 [114,111,117,116,101],l8 143 0 1 1,l8 144 0 1 1,i8 4,s8 [111,117,116],l8 148 0 2 2,.bool false] 7 true, .row [u8 0,u8 0] 2 true, .row [u8 0,u8 511,u8 0,u8 0] 2 true, .row [i8 1,s8 [114,111,117,116,101],i8 0,s8 [],s8 [],u8 0,u8 0,s8 [],s8 [],u8 0,u8 0,n8,n8] 13 true, .row [l8 136 0 1 1,l8 137 0 1 1,l8 139 0 1 1,l8 142 0 1 1,l8 146 0 1 1,l8 149 0 1 1] 0 true, .row [i8 76] 0 true,
 .row [s8 [116,97,98,108,101,32,114,111,117,116,101]] 0 true, .row [l8 136 0 1 1,l8 137 0 1 1,l8 139 0 1 1,l8 142 0 1 1,l8 146 0 1 1,l8 149 0 1 1,s8 [116,97,98,108,101,32,114,111,117,116,101]] 0 true, .map [((s8 [105,112]),(i8 1))], .row [s8 [105,112],l8 135 0 2 2] 0 true, .map [((s8 [116,116,108]),(i8 1)),((s8 [115,114,99]),(i8 1))], .row [s8 [116,116,108],i8 8] 0 true,
 .row [s8 [115,114,99],i8 32] 0 true, .row [s8 [116,116,108],i8 8] 0 true, .row [s8 [115,114,99],i8 32] 0 true, .map [((s8 [112,111,114,116]),(i8 1))], .row [s8 [112,111,114,116],i8 9] 0 true, .map [((s8 [97,99,99,101,112,116]),(i8 1)),((s8 [114,101,106,101,99,116]),(i8 1)),((s8 [98,101,103,105,110]),(i8 1))],
 .row [s8 [98,101,103,105,110],s8 [105,112],s8 [105,112],s8 [116,116,108],l8 138 0 1 1,s8 [97,99,99,101,112,116]] 0 true, .map [((s8 [98,101,103,105,110]),(i8 1))], .row [s8 [98,101,103,105,110],s8 [105,112],s8 [105,112],s8 [116,116,108],l8 138 0 1 1,s8 [97,99,99,101,112,116]] 0 true, .row [l8 136 0 1 1,l8 137 0 1 1,l8 139 0 1 1,l8 142 0 1 1,l8 146 0 1 1,l8 149 0 1 1] 0 true,
 .row [s8 [105,112]] 0 true, .row [s8 [105,112],l8 135 0 2 2] 0 true, .row [l8 136 0 1 1,l8 137 0 1 1,l8 139 0 1 1,l8 142 0 1 1,l8 146 0 1 1,l8 149 0 1 1] 0 true, .row [s8 [105,112],s8 [116,116,108]] 0 true, .row [s8 [116,116,108],i8 8] 0 true, .row [l8 136 0 1 1,l8 137 0 1 1,l8 139 0 1 1,l8 142 0 1 1,l8 146 0 1 1,l8 149 0 1 1] 0 true, .row [s8 [105,112]] 0 true,
 .row [s8 [105,112],l8 135 0 2 2] 0 true, .row [s8 [116,116,108]] 0 true, .row [s8 [116,116,108],i8 8] 0 true, .row [s8 [116,116,108],i8 8] 0 true, .map [((.agg #[u8 0,u8 0,u8 0,u8 255]),(i8 1))], .row [u8 0,u8 0,u8 0,u8 255,s8 [114,101,106,101,99,116]] 0 true, .row [u8 0,u8 255] 0 true, .row [u8 0,u8 0,u8 0,u8 255] 0 true, .map [((s8 [98,101,103,105,110]),(i8 1))],
 .row [s8 [98,101,103,105,110],s8 [105,112],s8 [105,112],s8 [116,116,108],l8 138 0 1 1,s8 [97,99,99,101,112,116]] 0 true, .row [s8 [98,101,103,105,110],s8 [105,112],s8 [105,112],s8 [116,116,108],l8 138 0 1 1,s8 [97,99,99,101,112,116]] 0 true, .row [.bool false] 1 true, .row [i8 0] 1 true,
 .row [s8 [98,101,103,105,110],s8 [105,112],s8 [105,112],s8 [116,116,108],l8 138 0 1 1,s8 [97,99,99,101,112,116]] 0 true, .dead, .row [u8 0,u8 0,u8 0,u8 255,s8 [114,101,106,101,99,116]] 0 true, .row [s8 [114,101,106,101,99,116]] 1 true, .row [s8 [97,99,99,101,112,116],s8 [114,101,106,101,99,116]] 1 true, .map [((s8 [111,117,116]),(i8 1))], .row [s8 [111,117,116],l8 140 0 1 1,l8 141 0 1 1] 0 true,
 .map [((s8 [112]),(i8 1))], .row [s8 [112],i8 9] 0 true, .row [i8 1,s8 [109,101,116,97],s8 [112,111,114,116],i8 0,s8 [],s8 [112],u8 0,u8 0,s8 [],s8 [],u8 0,u8 0] 0 true, .row [i8 1,s8 [109,101,116,97],s8 [112,111,114,116],i8 0,s8 [],s8 [112],u8 0,u8 0,s8 [],s8 [],u8 0,u8 0] 0 true, .row [s8 [],s8 [],u8 0,u8 0] 0 true, .row [s8 [],s8 [112],u8 0,u8 0] 0 true, .row [s8 [],s8 [],u8 0,u8 0] 0 true,
 .row [l8 136 0 1 1,l8 137 0 1 1,l8 139 0 1 1,l8 142 0 1 1,l8 146 0 1 1,l8 149 0 1 1] 0 true, .row [s8 [109,101,116,97],s8 [112,111,114,116]] 0 true, .row [s8 [112,111,114,116],i8 9] 0 true, .row [s8 [112,111,114,116]] 0 true, .row [s8 [112,111,114,116],i8 9] 0 true, .row [s8 [112,111,114,116],i8 9] 0 true, .row [s8 [],s8 [112],u8 0,u8 0] 0 true,
 .row [l8 136 0 1 1,l8 137 0 1 1,l8 139 0 1 1,l8 142 0 1 1,l8 146 0 1 1,l8 149 0 1 1] 0 true, .row [s8 [],s8 [112]] 0 true, .row [s8 [],i8 0] 0 true, .row [s8 [112],i8 9] 0 true, .row [s8 [112]] 0 true, .row [s8 [112],i8 9] 0 true, .row [s8 [],s8 [],u8 0,u8 0] 0 true, .row [u8 0,u8 0] 0 true, .map [((s8 [114,111,117,116,101]),(i8 1))],
 .row [s8 [114,111,117,116,101],l8 143 0 1 1,l8 144 0 1 1,i8 4,s8 [111,117,116],l8 148 0 2 2,.bool false] 0 true, .row [s8 [105,112],s8 [115,114,99],i8 2] 0 true, .row [l8 136 0 1 1,l8 137 0 1 1,l8 139 0 1 1,l8 142 0 1 1,l8 146 0 1 1,l8 149 0 1 1] 0 true, .row [s8 [105,112],s8 [115,114,99]] 0 true, .row [s8 [115,114,99],i8 32] 0 true,
 .row [l8 136 0 1 1,l8 137 0 1 1,l8 139 0 1 1,l8 142 0 1 1,l8 146 0 1 1,l8 149 0 1 1] 0 true, .row [s8 [105,112]] 0 true, .row [s8 [105,112],l8 135 0 2 2] 0 true, .row [s8 [115,114,99]] 0 true, .row [s8 [116,116,108],i8 8] 0 true, .row [s8 [115,114,99],i8 32] 0 true, .row [s8 [115,114,99],i8 32] 0 true,
 .row [s8 [114,111,117,116,101],l8 143 0 1 1,l8 144 0 1 1,i8 4,s8 [111,117,116],l8 148 0 2 2,.bool false] 0 true, .row [i8 3] 0 true, .row [s8 [105,112],s8 [115,114,99],i8 2] 0 true, .row [i8 4] 0 true, .row [s8 [105,112],s8 [115,114,99],i8 2] 0 true, .row [i8 2] 0 true, .row [s8 [105,112],s8 [115,114,99],i8 2] 0 true, .map [((s8 [111,117,116]),(i8 1))],
 .row [l8 136 0 1 1,l8 137 0 1 1,l8 139 0 1 1,l8 142 0 1 1,l8 146 0 1 1,l8 149 0 1 1] 0 true, .row [s8 [111,117,116]] 0 true, .row [s8 [111,117,116],l8 140 0 1 1,l8 141 0 1 1] 0 true, .row [l8 136 0 1 1,l8 137 0 1 1,l8 139 0 1 1,l8 142 0 1 1,l8 146 0 1 1,l8 149 0 1 1] 0 true, .row [s8 [111,117,116],l8 148 0 2 2] 0 true,
 .row [l8 136 0 1 1,l8 137 0 1 1,l8 139 0 1 1,l8 142 0 1 1,l8 146 0 1 1,l8 149 0 1 1] 0 true, .row [s8 [114,111,117,116,101]] 0 true, .row [s8 [114,111,117,116,101],l8 143 0 1 1,l8 144 0 1 1,i8 4,s8 [111,117,116],l8 148 0 2 2,.bool false] 0 true, .row [l8 136 0 1 1,l8 137 0 1 1,l8 139 0 1 1,l8 142 0 1 1,l8 146 0 1 1,l8 149 0 1 1] 0 true, .row [s8 [111,117,116]] 0 true,
 .row [s8 [111,117,116],l8 140 0 1 1,l8 141 0 1 1] 0 true, .row [i8 76,s8 [116,97,98,108,101,32,114,111,117,116,101]] 0 true]
def cutC : Nat → ACode → ACode
 | n + 1, .seq a b => .seq a (cutC n b)
 | 0, _ => .skip
 | _, c => c
def dropC : Nat → ACode → ACode
 | n + 1, .seq _ b => dropC n b
 | 0, c => c
 | _, _ => .skip
theorem cut_drop (cf : CallFn) (k : Nat) : ∀ (n : Nat) (c : ACode) (e e' : Env) (H H' : Heap), evalCode cf k (cutC n c) e H = some (.norm, e', H') →
  evalCode cf k c e H = evalCode cf k (dropC n c) e' H'
 | 0, c, e, e', H, H', h => by
  simp only [cutC, evalCode, Option.some.injEq, Prod.mk.injEq, true_and] at h
  rw [dropC, h.1, h.2]
 | n + 1, .seq a b, e, e', H, H', h => by
  simp only [cutC, evalCode] at h
  simp only [evalCode, dropC]
  cases ha : evalCode cf k a e H with
  | none => rw [ha] at h; simp at h
  | some x =>
   obtain ⟨x, e1, H1⟩ := x
   rw [ha] at h
   cases x <;> simp at h
   simp only
   exact cut_drop cf k n b e1 e' H1 H' h
 | n + 1, .skip, e, e', H, H', h | n + 1, .ops _, e, e', H, H', h | n + 1, .cond _ _ _, e, e', H, H', h | n + 1, .block _ _, e, e', H, H', h
 | n + 1, .loop _, e, e', H, H', h | n + 1, .exit _, e, e', H, H', h | n + 1, .ret, e, e', H, H', h | n + 1, .range _ _ _ _, e, e', H, H', h => by
  simp only [cutC] at h
  rw [h, dropC, evalCode] <;> simp
def body8 : ACode := match g8 with | .code _ b _ => b | _ => .skip
def res8 : List AResult := match g8 with | .code _ _ r => r | _ => []
theorem mid_ev : evalCode (evalFn Tab2 99) 99 (cutC 4 body8) (pad 118 []) [] = some (.norm, e8, h8) := by kernel_rfl
theorem last_ev : isTrue (finish res8 (evalCode (evalFn Tab2 99) 99 (dropC 4 body8) e8 h8)) = true := by kernel_rfl
theorem evalFn_code {T : Table} {f n k : Nat} {body : ACode} {res : List AResult} {args : List Value} {H : Heap} (h : T f = some (.code n body res)) (hl : args.length ≤ n) :
  evalFn T (k + 1) f args H = finish res (evalCode (evalFn T k) k body (pad n args) H) := by
 simp only [evalFn, h, hl, if_true]
theorem tab8 : Tab2 8 = some (.code 118 body8 res8) := by kernel_rfl
theorem fn8_ev : evalFn Tab2 100 8 [] [] = finish res8 (evalCode (evalFn Tab2 99) 99 body8 (pad 118 []) []) :=
 evalFn_code (k := 99) tab8 (Nat.zero_le _)
theorem shown_ev : isTrue (evalFn Tab2 100 8 [] []) = true := by
 rw [fn8_ev, cut_drop _ _ 4 _ _ _ _ _ mid_ev]
 exact last_ev
theorem shown_s (h : R (.ret (.bool true)) H) : WD T 8 [] H R := by
 obtain ⟨H1, he⟩ := of_isTrue shown_ev
 exact WD.frameD (H0 := H0) ⟨H, rfl⟩ globs (fun o ho => by simp [H0] at ho) (by simp) .bool (WD.ev follows table_ok2 he rfl) h
end
section
open Go.RowKit Go.ChangeShapes Go.WideShapes
/-- What data stands in some cells. -/
inductive Rep (P : Program) (H : Heap) {X : Type} : TypeId → DataW X → List Value → Prop where
 | bool {t : TypeId} (b : Bool) (hu : P.underlying t = some .bool) : Rep P H t (.lit (.bool b)) [.bool b]
 | int {t : TypeId} (k : IntKind) (n : Int) (hu : P.underlying t = some (.int k)) (hw : (Lit.int k n).wf = true) : Rep P H t (.lit (.int k n)) [.int k n]
 | str {t : TypeId} (l : List UInt8) (hu : P.underlying t = some .string) (hl : l.length ≤ maxLen) : Rep P H t (.lit (.string l)) [.string (bs l)]
 | struct {t : TypeId} {fs : Array Field} {ds : List (DataW X)} {ass : List (List Value)} (hu : P.underlying t = some (.struct fs)) (h1 : ds.length = fs.size) (h2 : ass.length = fs.size)
   (h : ∀ (i : Nat) (f : Field) (d : DataW X) (cz : List Value), fs[i]? = some f → ds[i]? = some d → ass[i]? = some cz → Rep P H f.type d cz)
   (hl : ∀ (i : Nat) (f : Field) (cz : List Value), fs[i]? = some f → ass[i]? = some cz → cz.length = P.cellsOf f.type) : Rep P H t (.agg ds) ass.flatten
 | nilS {t e : TypeId} (hu : P.underlying t = some (.slice e)) : Rep P H t .nil [.slice none 0 0]
 | empty {t e : TypeId} {sp : List (DataW X)} (hu : P.underlying t = some (.slice e)) : Rep P H t (.slice [] sp) [.slice (some ⟨0, 0, some 0⟩) 0 0]
 | slice {t e : TypeId} {b : Nat} {ds sp : List (DataW X)} {ass : List (List Value)} (hu : P.underlying t = some (.slice e)) (hne : ds ≠ []) (hb : hget H b = .row ass.flatten 0 false) (h2 : ass.length = ds.length)
   (h : ∀ (i : Nat) (d : DataW X) (cz : List Value), ds[i]? = some d → ass[i]? = some cz → Rep P H e d cz)
   (hl : ∀ (i : Nat) (cz : List Value), ass[i]? = some cz → cz.length = P.cellsOf e) : Rep P H t (.slice ds sp) [.slice (some ⟨b, 0, none⟩) ds.length ds.length]
theorem Rep.mono {P : Program} {H g : Heap} {X : Type} {t : TypeId} {d : DataW X} {cz : List Value} (h : Rep P H t d cz) : Rep P (H ++ g) t d cz := by
 induction h with
 | bool b hu => exact .bool b hu
 | int k n hu hw => exact .int k n hu hw
 | str l hu hl => exact .str l hu hl
 | struct hu h1 h2 h hl ih => exact .struct hu h1 h2 ih hl
 | nilS hu => exact .nilS hu
 | empty hu => exact .empty hu
 | slice hu hne hb h2 h hl ih => exact .slice hu hne (by rw [hget_old (hget_lt hb rfl)]; exact hb) h2 ih hl
/-- A set of types of plain data: numbers, texts, structs and lists of them. -/
def plainSet (P : Program) (L : List TypeId) : Bool := L.all fun t => decide (t < P.types.size) && match P.underlying t with
 | some .bool | some (.int _) | some .string => true
 | some (.struct fs) => fs.toList.all fun f => L.contains f.type
 | some (.slice e) => L.contains e && decide (0 < P.cellsOf e)
 | _ => false
def chunks : List Nat → List Value → List (List Value)
 | [], _ => []
 | n :: ns, cs => cs.take n :: chunks ns (cs.drop n)
theorem chunks_flat : ∀ (ns : List Nat) (cs : List Value), cs.length = ns.sum → (chunks ns cs).flatten = cs
 | [], cs, h => by simp at h; simp [chunks, h]
 | n :: ns, cs, h => by
  rw [chunks, List.flatten_cons, chunks_flat ns _ (by simp at h ⊢; omega), List.take_append_drop]
theorem chunks_len : ∀ (ns : List Nat) (cs : List Value), (chunks ns cs).length = ns.length
 | [], _ => rfl
 | n :: ns, cs => by rw [chunks, List.length_cons, List.length_cons, chunks_len ns]
theorem chunks_get : ∀ (ns : List Nat) (cs : List Value) (j n : Nat), ns[j]? = some n → (chunks ns cs)[j]? = some ((cs.drop (ns.take j).sum).take n)
 | [], _, j, n, h => by simp at h
 | m :: ns, cs, 0, n, h => by simp at h; simp [chunks, h]
 | m :: ns, cs, j + 1, n, h => by
  have h' : ns[j]? = some n := by simpa using h
  have := chunks_get ns (cs.drop m) j n h'
  simp only [chunks, List.getElem?_cons_succ, List.take_succ_cons, List.sum_cons]
  rw [this, List.drop_drop]
theorem VL.flat {n : Nat} {ρ : Nat → Place} : ∀ (xss yss : List (List Value)), xss.length = yss.length → (∀ (i : Nat) (xs ys : List Value), xss[i]? = some xs → yss[i]? = some ys → VL n ρ xs ys) → VL n ρ xss.flatten yss.flatten
 | [], [], _, _ => VL.nil
 | [], _ :: _, h, _ => by simp at h
 | _ :: _, [], h, _ => by simp at h
 | xs :: xss, ys :: yss, h, hh => by
  rw [List.flatten_cons, List.flatten_cons]
  exact (hh 0 xs ys rfl rfl).append (VL.flat xss yss (by simpa using h) fun i a b ha hb => hh (i + 1) a b (by simpa using ha) (by simpa using hb))
section
variable {X : Type} {enc : TypeId × Value → X} {P : Program} {G : Nat} {W : World} {base : Nat} {sp : Nat → Bool} {held : Bool} {L : List TypeId}
/-- Some cells can be told in a heap of the evaluator's. -/
def Opens (P : Program) (G : Nat) (W : World) (t : TypeId) (cs : List Value) (d : DataW X) : Prop :=
 ∀ (H : Heap) (ρ : Nat → Place), (∀ o ∈ H, o.wrt = false) → Rel G ρ H W → ∃ (g : Heap) (ρ' : Nat → Place) (cz : List Value), Rel G ρ' (H ++ g) W ∧ (∀ b, b < H.length → ρ' b = ρ b) ∧ (∀ o ∈ g, ∃ c, o = .row c 0 false) ∧ VL (H ++ g).length ρ' cz cs ∧ Rep P (H ++ g) t d cz
theorem ro_app {H g : Heap} (h : ∀ o ∈ H, o.wrt = false) (hg : ∀ o ∈ g, ∃ c, o = .row c 0 false) : ∀ o ∈ H ++ g, o.wrt = false := fun o ho => by
 rcases List.mem_append.1 ho with ho | ho
 ·exact h o ho
 ·obtain ⟨c, rfl⟩ := hg o ho; rfl
theorem opens_list : ∀ (l : List (TypeId × List Value × DataW X)), (∀ q ∈ l, Opens P G W q.1 q.2.1 q.2.2) → ∀ (H : Heap) (ρ : Nat → Place), (∀ o ∈ H, o.wrt = false) → Rel G ρ H W →
  ∃ (g : Heap) (ρ' : Nat → Place) (ass : List (List Value)), Rel G ρ' (H ++ g) W ∧ (∀ b, b < H.length → ρ' b = ρ b) ∧ (∀ o ∈ g, ∃ c, o = .row c 0 false) ∧ ass.length = l.length ∧
   ∀ (i : Nat) (q : TypeId × List Value × DataW X) (cz : List Value), l[i]? = some q → ass[i]? = some cz → VL (H ++ g).length ρ' cz q.2.1 ∧ Rep P (H ++ g) q.1 q.2.2 cz
 | [], _, H, ρ, _, hr => ⟨[], ρ, [], by simpa using hr, fun _ _ => rfl, fun o ho => (by cases ho), rfl, fun i q cz h => by simp at h⟩
 | q :: l, h, H, ρ, hro, hr => by
  obtain ⟨g, ρ1, cz, hr1, hs1, hg1, hv1, hp1⟩ := h q (by simp) H ρ hro hr
  obtain ⟨g2, ρ2, ass, hr2, hs2, hg2, hl2, hh⟩ := opens_list l (fun q hq => h q (by simp [hq])) (H ++ g) ρ1 (ro_app hro hg1) hr1
  rw [List.append_assoc] at hr2 hh
  refine ⟨g ++ g2, ρ2, cz :: ass, hr2, fun b hb => (hs2 b (by simp; omega)).trans (hs1 b hb), fun o ho => ?_, by simp [hl2], fun i q' cz' hq has => ?_⟩
  ·rcases List.mem_append.1 ho with ho | ho
   ·exact hg1 o ho
   ·exact hg2 o ho
  ·cases i with
   | zero =>
    simp at hq has
    subst hq; subst has
    refine ⟨hv1.mono (by simp) hs2, ?_⟩
    rw [← List.append_assoc]
    exact hp1.mono
   | succ i => exact hh i q' cz' (by simpa using hq) (by simpa using has)
theorem mem_plain (hP : plainSet P L = true) {t : TypeId} (ht : L.contains t = true) : (decide (t < P.types.size) && (match P.underlying t with
  | some .bool | some (.int _) | some .string => true
  | some (.struct fs) => fs.toList.all fun f => L.contains f.type
  | some (.slice e) => L.contains e && decide (0 < P.cellsOf e)
  | _ => false)) = true := by
 unfold plainSet at hP
 exact List.all_eq_true.1 hP t (List.contains_iff_mem.1 ht)
theorem flat_get {c : Nat} (hc : 0 < c) : ∀ (css : List (List Value)) (k j : Nat) (cs : List Value), (∀ (i : Nat) (cz : List Value), css[i]? = some cz → cz.length = c) → css[k]? = some cs → j < c → css.flatten[k * c + j]? = cs[j]?
 | [], k, j, cs, _, h, _ => by simp at h
 | a :: css, 0, j, cs, hl, h, hj => by
  have h1 := hl 0 a rfl
  simp at h
  subst h
  rw [List.flatten_cons, Nat.zero_mul, Nat.zero_add, List.getElem?_append_left (by omega)]
 | a :: css, k + 1, j, cs, hl, h, hj => by
  have h1 := hl 0 a rfl
  have := flat_get hc css k j cs (fun i cz hi => hl (i + 1) cz (by simpa using hi)) (by simpa using h) hj
  rw [List.flatten_cons, List.getElem?_append_right (by rw [h1, Nat.add_mul]; omega), h1, show (k + 1) * c + j - c = k * c + j by rw [Nat.add_mul]; omega]
  exact this
theorem flat_len {c : Nat} : ∀ (css : List (List Value)), (∀ (i : Nat) (cz : List Value), css[i]? = some cz → cz.length = c) → css.flatten.length = css.length * c
 | [], _ => by simp
 | a :: css, hl => by
  rw [List.flatten_cons, List.length_append, hl 0 a rfl, flat_len css (fun i cz hi => hl (i + 1) cz (by simpa using hi)), List.length_cons, Nat.add_mul]
  omega
/-- A row that nothing writes, new in the evaluator's heap. -/
theorem rel_row {H : Heap} {ρ : Nat → Place} (hro : ∀ o ∈ H, o.wrt = false) (hr : Rel G ρ H W) {a : Addr} {cs : List Value} {cells : Array Value} {t : TypeId} {fr : Nat × Nat} {ext0 : Nat} (hh : W.heap[a.block]? = some (.cells cells t fr))
  (hc : ∀ (i : Nat) (v : Value), cs[i]? = some v → ∃ v', cells[a.off + i]? = some v' ∧ VR H.length ρ v v') : Rel G (ext ρ H.length ⟨a.block, a.off, ext0⟩) (H ++ [.row cs 0 false]) W := by
 have cases_ : ∀ b u, (H ++ [AObj.row cs 0 false])[b]? = some u → (b < H.length ∧ H[b]? = some u) ∨ (b = H.length ∧ u = .row cs 0 false) := fun b u h => by
  by_cases hb : b < H.length
  ·rw [List.getElem?_append_left hb] at h; exact .inl ⟨hb, h⟩
  ·rw [List.getElem?_append_right (by omega)] at h
   obtain ⟨h1, h2⟩ := List.getElem?_eq_some_iff.1 h
   simp at h1
   have : b = H.length := by omega
   subst this
   simp at h2
   exact .inr ⟨rfl, h2.symm⟩
 have hlen : (H ++ [AObj.row cs 0 false]).length = H.length + 1 := by simp
 refine ⟨fun b u hu => ?_, fun b c u v hu hv hne hw hl => ?_, fun g hg => ?_, by rw [hlen]; have := hr.many; omega⟩
 ·rcases cases_ b u hu with ⟨hb, hu⟩ | ⟨rfl, rfl⟩
  ·exact (hr.obj b u hu).mono (by omega) (ext_lt hb) (fun c hc => ext_lt hc) (fun _ => rfl)
  ·rw [OR, ext_same]
   refine ⟨cells, t, fr, hh, fun i v hi => ?_, fun h => by cases h⟩
   obtain ⟨v', h1, h2⟩ := hc i v hi
   exact ⟨v', h1, h2.mono (by omega) fun b hb => ext_lt hb⟩
 ·rcases cases_ b u hu with ⟨hb, hu2⟩ | ⟨rfl, rfl⟩
  ·rw [hro u (List.mem_of_getElem? hu2)] at hw
   cases hw
  ·cases hw
 ·rw [ext_lt (Nat.lt_of_lt_of_le hg hr.many)]; exact hr.glob g hg
theorem opens_trod (hl : laidOutB P = true) (hm : mapsRowed P = true) (hP : plainSet P L = true) : ∀ (n : Nat) (t : TypeId) (cs : List Value) (x : DataW X × List MemPlace), L.contains t = true →
  DataW.trod enc P W base (fun _ => true) held n t cs = some x → Opens P G W t cs x.1 := by
 intro n
 induction n with
 | zero => intro t cs x _ h; simp [DataW.trod] at h
 | succ n ih =>
  intro t cs x ht h
  have hk := mem_plain hP ht
  simp only [Bool.and_eq_true, decide_eq_true_eq] at hk
  obtain ⟨htp, hk⟩ := hk
  have K := kids_rows hl hm
  intro H ρ hro hr
  split at hk
  ·rename_i hu
   obtain ⟨b, rfl, rfl⟩ := DataW.trod_bool hu h
   exact ⟨[], ρ, [.bool b], by simpa using hr, fun _ _ => rfl, fun o ho => (by cases ho), VL.cons (.bool b) VL.nil, .bool b hu⟩
  ·rename_i k hu
   obtain ⟨m, rfl, rfl, hw⟩ := DataW.trod_int hu h
   exact ⟨[], ρ, [.int k m], by simpa using hr, fun _ _ => rfl, fun o ho => (by cases ho), VL.cons (.int k m) VL.nil, .int k m hu hw⟩
  ·rename_i hu
   obtain ⟨s, rfl, rfl, hs⟩ := DataW.trod_string hu h
   exact ⟨[], ρ, [.string s], by simpa using hr, fun _ _ => rfl, fun o ho => (by cases ho), VL.cons (.string s) VL.nil, .str s.data.toList hu (by simpa using hs)⟩
  ·rename_i fs hu
   obtain ⟨xs, m, hm1, rfl, hlen, hxl, hf⟩ := DataW.trod_struct hu h
   cases hm1
   obtain ⟨_, hsum, hoff⟩ := K.struct htp hu
   -- the fields, one by one
   have hget : ∀ (i : Nat) (f : Field) (y : DataW X × List MemPlace), fs[i]? = some f → xs[i]? = some y → DataW.trod enc P W base (fun _ => true) held n f.type ((cs.drop f.offset).take (P.cellsOf f.type)) = some y := fun i f y hfi hy => by
    rw [hf i f hfi, hy]
   let l : List (TypeId × List Value × DataW X) := (List.range fs.size).map fun i => ((fs[i]?.map (·.type)).getD 0, ((chunks (fs.toList.map fun f => P.cellsOf f.type) cs)[i]?).getD [], (xs[i]?.map (·.1)).getD .nil)
   have hl1 : ∀ i, i < fs.size → ∃ f y, fs[i]? = some f ∧ xs[i]? = some y ∧ l[i]? = some (f.type, (cs.drop f.offset).take (P.cellsOf f.type), y.1) := fun i hi => by
    have e1 : fs[i]? = some fs[i] := Array.getElem?_eq_getElem hi
    have e2 : xs[i]? = some (xs[i]'(by omega)) := List.getElem?_eq_getElem (by omega)
    refine ⟨_, _, e1, e2, ?_⟩
    have e3 : fs.toList[i]? = some fs[i] := by rw [Array.getElem?_toList]; exact e1
    have e4 := chunks_get (fs.toList.map fun f => P.cellsOf f.type) cs i (P.cellsOf fs[i].type) (by simp [hi])
    have e5 := hoff i _ e3
    rw [List.map_take] at e5
    rw [← e5] at e4
    simp only [l, List.getElem?_map, List.getElem?_range hi, Option.map_some, e1, e2, e4, Option.getD_some]
   have hlL : l.length = fs.size := by simp [l]
   obtain ⟨g, ρ', ass, hr', hs', hg', hal, hh⟩ := opens_list l (fun q hq => by
    obtain ⟨i, hi⟩ := List.getElem?_of_mem hq
    have hi2 : i < fs.size := by rw [← hlL]; exact (List.getElem?_eq_some_iff.1 hi).1
    obtain ⟨f, y, h1, h2, h3⟩ := hl1 i hi2
    rw [hi] at h3
    cases h3
    refine ih f.type _ y ?_ (hget i f y h1 h2)
    have hmem : f ∈ fs.toList := by
     have : fs.toList[i]? = some f := by simpa using h1
     exact List.mem_of_getElem? this
    exact List.all_eq_true.1 hk f hmem) H ρ hro hr
   refine ⟨g, ρ', ass.flatten, hr', hs', hg', ?_, ?_⟩
   ·have hflat := chunks_flat (fs.toList.map fun f => P.cellsOf f.type) cs (by rw [hlen, hsum])
    rw [← hflat]
    refine VL.flat _ _ (by rw [hal, hlL, chunks_len]; simp) fun i a b ha hb => ?_
    have hi : i < fs.size := by rw [← hlL, ← hal]; exact (List.getElem?_eq_some_iff.1 ha).1
    obtain ⟨f, y, h1, h2, h3⟩ := hl1 i hi
    have e4 := chunks_get (fs.toList.map fun f => P.cellsOf f.type) cs i (P.cellsOf f.type) (by
     have : fs.toList[i]? = some f := by simpa using h1
     simp [this])
    have e5 := hoff i f (by simpa using h1)
    rw [List.map_take] at e5
    rw [← e5] at e4
    rw [hb] at e4
    cases e4
    exact (hh i _ a h3 ha).1
   ·refine .struct hu (by simpa using hxl) (by rw [hal, hlL]) (fun i f d cz hfi hd ha => ?_) (fun i f cz hfi ha => ?_)
    ·have hi : i < fs.size := (Array.getElem?_eq_some_iff.1 hfi).1
     obtain ⟨f', y, h1, h2, h3⟩ := hl1 i hi
     rw [hfi] at h1
     cases h1
     rw [List.getElem?_map, h2] at hd
     cases hd
     exact (hh i _ cz h3 ha).2
    ·have hi : i < fs.size := (Array.getElem?_eq_some_iff.1 hfi).1
     obtain ⟨f', y, h1, h2, h3⟩ := hl1 i hi
     rw [hfi] at h1
     cases h1
     have := (hh i _ cz h3 ha).1.1
     rw [this]
     have e5 := hoff i f (by simpa using hfi)
     have hle : f.offset + P.cellsOf f.type ≤ cs.length := by
      rw [hlen, hsum, e5]
      have : fs.toList[i]? = some f := by simpa using hfi
      obtain ⟨h7, h8⟩ := List.getElem?_eq_some_iff.1 this
      have e6 : fs.toList = fs.toList.take i ++ f :: fs.toList.drop (i + 1) := by
       rw [← h8, ← List.drop_eq_getElem_cons h7, List.take_append_drop]
      conv => rhs; rw [e6]
      rw [List.map_append, List.sum_append, List.map_cons, List.sum_cons]
      omega
     rw [List.length_take, List.length_drop]
     omega
  ·rename_i e hu
   simp only [Bool.and_eq_true, decide_eq_true_eq] at hk
   rcases DataW.trod_slice hu h with ⟨rfl, rfl⟩ | ⟨a, len, cap, elems, rest, m, hm1, rfl, rfl, hbase, hlc, hcm, hel, hge, _, _⟩
   ·exact ⟨[], ρ, [.slice none 0 0], by simpa using hr, fun _ _ => rfl, fun o ho => (by cases ho), VL.cons .slNil VL.nil, .nilS hu⟩
   cases hm1
   by_cases h0 : elems = []
   ·subst h0
    obtain rfl : len = 0 := by simpa using hel.symm
    exact ⟨[], ρ, [.slice (some ⟨0, 0, some 0⟩) 0 0], by simpa using hr, fun _ _ => rfl, fun o ho => (by cases ho), VL.cons (.slE 0 0 0 a cap) VL.nil, .empty hu⟩
   have hlen0 : 0 < len := by rw [← hel]; exact List.length_pos_iff.2 h0
   have hcell : ∀ i, i < len → ∃ csi y, W.cells? base (a.add (i * P.cellsOf e)) (P.cellsOf e) = some csi ∧ elems[i]? = some y ∧ DataW.trod enc P W base (fun _ => true) held n e csi = some y := fun i hi => by
    have h1 := hge i hi
    have h2 : elems[i]? = some (elems[i]'(by omega)) := List.getElem?_eq_getElem (by omega)
    rw [h2] at h1
    obtain ⟨csi, h3, h4⟩ := Option.bind_eq_some_iff.1 h1
    exact ⟨csi, _, h3, h2, h4⟩
   let css : List (List Value) := (List.range len).map fun i => (W.cells? base (a.add (i * P.cellsOf e)) (P.cellsOf e)).getD []
   have hcss : ∀ i, i < len → ∃ csi y, css[i]? = some csi ∧ W.cells? base (a.add (i * P.cellsOf e)) (P.cellsOf e) = some csi ∧ elems[i]? = some y ∧ DataW.trod enc P W base (fun _ => true) held n e csi = some y := fun i hi => by
    obtain ⟨csi, y, h1, h2, h3⟩ := hcell i hi
    exact ⟨csi, y, by simp [css, hi, h1], h1, h2, h3⟩
   have hcssL : css.length = len := by simp [css]
   let l : List (TypeId × List Value × DataW X) := (List.range len).map fun i => (e, (css[i]?).getD [], (elems[i]?.map (·.1)).getD .nil)
   have hl1 : ∀ i, i < len → ∃ csi y, css[i]? = some csi ∧ W.cells? base (a.add (i * P.cellsOf e)) (P.cellsOf e) = some csi ∧ elems[i]? = some y ∧ DataW.trod enc P W base (fun _ => true) held n e csi = some y ∧ l[i]? = some (e, csi, y.1) := fun i hi => by
    obtain ⟨csi, y, h1, h2, h3, h4⟩ := hcss i hi
    exact ⟨csi, y, h1, h2, h3, h4, by simp [l, hi, h1, h3]⟩
   have hlL : l.length = len := by simp [l]
   obtain ⟨g, ρ', ass, hr', hs', hg', hal, hh⟩ := opens_list l (fun q hq => by
    obtain ⟨i, hi⟩ := List.getElem?_of_mem hq
    have hi2 : i < len := by rw [← hlL]; exact (List.getElem?_eq_some_iff.1 hi).1
    obtain ⟨csi, y, h1, h2, h3, h4, h5⟩ := hl1 i hi2
    rw [hi] at h5
    cases h5
    exact ih e _ y hk.1 h4) H ρ hro hr
   have hasl : ∀ (i : Nat) (cz : List Value), ass[i]? = some cz → cz.length = P.cellsOf e := fun i cz ha => by
    have hi : i < len := by rw [← hlL, ← hal]; exact (List.getElem?_eq_some_iff.1 ha).1
    obtain ⟨csi, y, h1, h2, h3, h4, h5⟩ := hl1 i hi
    rw [(hh i _ cz h5 ha).1.1]
    exact (World.cells?_some h2).2.1
   -- the block itself
   obtain ⟨cs0, y0, g1, g2, _⟩ := hcell 0 hlen0
   obtain ⟨_, gl, gc⟩ := World.cells?_some g1
   have gc0 := gc 0 hk.2
   rw [Nat.zero_mul] at gc0
   have hadd : ∀ (k j : Nat), ((a.add k).add j) = if k + j = 0 then a else ⟨a.block, a.off + (k + j), none⟩ := fun k j => by
    unfold Addr.add
    by_cases hk0 : k = 0
    ·subst hk0
     by_cases hj0 : j = 0
     ·subst hj0; rfl
     ·simp [hj0]
    ·by_cases hj0 : j = 0
     ·subst hj0; simp [hk0]
     ·simp only [if_neg hk0, if_neg hj0, if_neg (show ¬ k + j = 0 by omega), Nat.add_assoc]
   have hblk : ∃ cells ty fr, W.heap[a.block]? = some (.cells cells ty fr) ∧ a.spot = none := by
    have h7 : W.cell? a = cs0[0]? := by simpa [hadd] using gc0
    have h8 : cs0[0]? = some (cs0[0]'(by omega)) := List.getElem?_eq_getElem (by omega)
    rw [h8] at h7
    unfold World.cell? at h7
    split at h7
    ·rename_i c ty fr hc
     split at h7
     ·cases h7
     ·rename_i hsp
      exact ⟨c, ty, fr, hc, by simpa using hsp⟩
    ·cases h7
   obtain ⟨cells, ty, fr, hh0, hsp⟩ := hblk
   have hcellat : ∀ (i : Nat) (v : Value), ass.flatten[i]? = some v → ∃ v', cells[a.off + i]? = some v' ∧ VR (H ++ g).length ρ' v v' := fun i v hv => by
    have hi : i < ass.flatten.length := (List.getElem?_eq_some_iff.1 hv).1
    rw [flat_len ass hasl, hal, hlL] at hi
    have hq : i / P.cellsOf e < len := (Nat.div_lt_iff_lt_mul hk.2).2 hi
    have hm2 : i % P.cellsOf e < P.cellsOf e := Nat.mod_lt _ hk.2
    have hid : i / P.cellsOf e * P.cellsOf e + i % P.cellsOf e = i := Nat.div_add_mod' i (P.cellsOf e)
    obtain ⟨csi, y, h1, h2, h3, h4, h5⟩ := hl1 _ hq
    have ha : ass[i / P.cellsOf e]? = some (ass[i / P.cellsOf e]'(by rw [hal, hlL]; exact hq)) := List.getElem?_eq_getElem _
    obtain ⟨hv1, _⟩ := hh _ _ _ h5 ha
    have hfg := flat_get hk.2 ass _ _ _ hasl ha hm2
    rw [hid, hv] at hfg
    obtain ⟨v', hv', hvr⟩ := hv1.get hfg.symm
    refine ⟨v', ?_, hvr⟩
    have h9 := (World.cells?_some h2).2.2 _ hm2
    rw [hadd, hid, hv'] at h9
    by_cases hi0 : i = 0
    ·subst hi0
     simp only [if_true] at h9
     unfold World.cell? at h9
     rw [hh0, hsp] at h9
     simpa using h9
    ·rw [if_neg hi0] at h9
     unfold World.cell? at h9
     simpa [hh0] using h9
   have hr2 := rel_row (a := a) (cs := ass.flatten) (ext0 := cap - len) (ro_app hro hg') hr' hh0 hcellat
   refine ⟨g ++ [.row ass.flatten 0 false], ext ρ' (H ++ g).length ⟨a.block, a.off, cap - len⟩, [.slice (some ⟨(H ++ g).length, 0, none⟩) len len], by rw [← List.append_assoc]; exact hr2, fun b hb => ?_, fun o ho => ?_, ?_, ?_⟩
   ·rw [ext_lt (by rw [List.length_append]; omega)]; exact hs' b hb
   ·rcases List.mem_append.1 ho with ho | ho
    ·exact hg' o ho
    ·rw [List.mem_singleton.1 ho]; exact ⟨_, rfl⟩
   ·have := VR.sl (n := (H ++ (g ++ [AObj.row ass.flatten 0 false])).length) (ρ := ext ρ' (H ++ g).length ⟨a.block, a.off, cap - len⟩) (H ++ g).length 0 len len cap (by simp only [List.length_append, List.length_cons, List.length_nil]; omega) (Nat.le_refl _) hlc (by rw [ext_same]; show cap ≤ len + (cap - len); omega)
    rw [ext_same, Nat.add_zero] at this
    have ha2 : (⟨a.block, a.off, none⟩ : Addr) = a := by rw [← hsp]
    rw [ha2] at this
    exact VL.cons this VL.nil
   ·have := Rep.slice (P := P) (H := H ++ (g ++ [AObj.row ass.flatten 0 false])) (t := t) (e := e) (b := (H ++ g).length) (ds := elems.map (·.1)) (sp := rest.map (·.1)) (ass := ass) hu (by simpa using h0) (by rw [← List.append_assoc]; exact hget_last _ _) (by rw [hal, hlL, List.length_map, hel])
     (fun i d cz hd ha => by
      have hi : i < len := by rw [← hlL, ← hal]; exact (List.getElem?_eq_some_iff.1 ha).1
      obtain ⟨csi, y, h1, h2, h3, h4, h5⟩ := hl1 i hi
      rw [List.getElem?_map, h3] at hd
      cases hd
      have := (hh i _ cz h5 ha).2
      rw [← List.append_assoc]
      exact this.mono) hasl
    rw [List.length_map, hel] at this
    exact this
  ·cases hk
/-! ### The call's end -/
def slicesPos (P : Program) : Bool := (List.range P.types.size).all fun t => match P.underlying t with
 | some (.slice e) => decide (0 < P.cellsOf e)
 | _ => true
theorem args_stay {W' : World} (hl : laidOutB P = true) (hm : mapsRowed P = true) (hp : slicesPos P = true) (bel : Below W.heap.size W W') :
  ∀ {ts : List TypeId} {vs : List Value} {ds : List (DataW X)} {ps : List MemPlace}, (∀ t ∈ ts, t < P.types.size) → DataW.TrodAll enc P W 0 (fun _ => true) true ts vs ds ps →
   DataW.TrodAll enc P W' 0 (fun b => decide (b < W.heap.size)) true ts vs ds ps
 | [], vs, ds, ps, _, h => by
  obtain ⟨rfl, rfl, rfl⟩ := trodAll_nil h
  rfl
 | t :: ts, vs, ds, ps, ht, h => by
  obtain ⟨v, vs1, d, ds1, p, q, rfl, rfl, rfl, ⟨fuel, h1⟩, h2⟩ := trodAll_cons h
  have hlt := DataW.trod_lt fuel t v.cells.toList _ h1
  refine ⟨p, q, ⟨fuel, DataW.trod_stays (kids_rows hl hm) (fun {t e} htt hu => ?_) (fun h => by cases h) (ht t (by simp)) h1 (fun x hx => bel.same (hlt x hx)) (fun x hx => by simpa using hlt x hx)⟩, args_stay hl hm hp bel (fun u hu => ht u (by simp [hu])) h2, rfl⟩
  have := List.all_eq_true.1 hp t (List.mem_range.2 htt)
  simpa [hu] using this
/-! ### The call's arguments -/
/-- An argument tells some data. -/
def ArgRep (P : Program) (H : Heap) (t : TypeId) (d : DataW X) (a : Value) : Prop := ∃ cz, Rep P H t d cz ∧ (((∃ fs, P.underlying t = some (.struct fs)) ∧ a = .agg cz.toArray) ∨ cz = [a])
theorem ArgRep.mono {H g : Heap} {t : TypeId} {d : DataW X} {a : Value} (h : ArgRep P H t d a) : ArgRep P (H ++ g) t d a := by
 obtain ⟨cz, h1, h2⟩ := h
 exact ⟨cz, h1.mono, h2⟩
theorem vr_single {n : Nat} {ρ : Nat → Place} {a : Value} {v : Value} (h : VL n ρ [a] v.cells.toList) (hv : ∀ cs, v ≠ .agg cs) : VR n ρ a v := by
 have : v.cells.toList = [v] := by
  cases v <;> first | rfl | exact absurd rfl (hv _)
 rw [this] at h
 exact h.head
theorem open_args (hl : laidOutB P = true) (hm : mapsRowed P = true) (hP : plainSet P L = true) {r : Reach} {b0 : Nat} : ∀ {ts : List TypeId} {vs : List Value} {ds : List (DataW X)} {ps : List MemPlace},
  (∀ t ∈ ts, L.contains t = true) → DataW.TrodAll enc P W base (fun _ => true) held ts vs ds ps → (∀ (j : Nat) t v, ts[j]? = some t → vs[j]? = some v → Value.okWide P W r b0 t v) →
  ∀ (H : Heap) (ρ : Nat → Place), (∀ o ∈ H, o.wrt = false) → Rel G ρ H W → ∃ (g : Heap) (ρ' : Nat → Place) (avs : List Value), Rel G ρ' (H ++ g) W ∧ (∀ b, b < H.length → ρ' b = ρ b) ∧ (∀ o ∈ g, ∃ c, o = .row c 0 false) ∧
   VL (H ++ g).length ρ' avs vs ∧ avs.length = ts.length ∧ ∀ (j : Nat) t d a, ts[j]? = some t → ds[j]? = some d → avs[j]? = some a → ArgRep P (H ++ g) t d a
 | [], vs, ds, ps, _, h, _, H, ρ, hro, hr => by
  obtain ⟨rfl, rfl, rfl⟩ := trodAll_nil h
  exact ⟨[], ρ, [], by simpa using hr, fun _ _ => rfl, fun o ho => (by cases ho), VL.nil, rfl, fun j t d a h => by simp at h⟩
 | t :: ts, vs, ds, ps, hts, h, hok, H, ρ, hro, hr => by
  obtain ⟨v, vs1, d, ds1, p, q, rfl, rfl, rfl, ⟨fuel, h1⟩, h2⟩ := trodAll_cons h
  have htc := hts t (by simp)
  obtain ⟨g, ρ1, cz, hr1, hs1, hg1, hv1, hp1⟩ := opens_trod (G := G) hl hm hP fuel t _ _ htc h1 H ρ hro hr
  obtain ⟨g2, ρ2, avs, hr2, hs2, hg2, hv2, hl2, hh⟩ := open_args hl hm hP (fun u hu => hts u (by simp [hu])) h2 (fun j t v hj hv => hok (j + 1) t v (by simpa using hj) (by simpa using hv)) (H ++ g) ρ1 (ro_app hro hg1) hr1
  rw [List.append_assoc] at hr2 hh hv2
  have hval := hok 0 t v rfl rfl
  have hk := mem_plain hP htc
  simp only [Bool.and_eq_true, decide_eq_true_eq] at hk
  obtain ⟨_, hk⟩ := hk
  have single : (∀ cs, v ≠ .agg cs) → (∃ a, cz = [a]) → ∃ a, VR (H ++ g).length ρ1 a v ∧ ArgRep P (H ++ g) t d a := fun hna ⟨a, ha⟩ => by
   subst ha
   exact ⟨a, vr_single hv1 hna, [a], hp1, .inr rfl⟩
  have one : (∀ cs, v ≠ .agg cs) → ∃ a, cz = [a] := fun hna => by
   have : v.cells.toList = [v] := by
    cases v <;> first | rfl | exact absurd rfl (hna _)
   have h3 := hv1.1
   rw [this] at h3
   match cz, h3 with
   | [a], _ => exact ⟨a, rfl⟩
  have hex : ∃ a, VR (H ++ g).length ρ1 a v ∧ ArgRep P (H ++ g) t d a := by
   split at hk
   ·rename_i hu
    obtain ⟨b, rfl⟩ := okWide_bool hu hval
    exact single (fun _ h => by cases h) (one fun _ h => by cases h)
   ·rename_i k hu
    obtain ⟨b, rfl⟩ := okWide_int hu hval
    exact single (fun _ h => by cases h) (one fun _ h => by cases h)
   ·rename_i hu
    obtain ⟨b, rfl⟩ := okWide_string hu hval
    exact single (fun _ h => by cases h) (one fun _ h => by cases h)
   ·rename_i fs hu
    obtain ⟨cs, rfl, _⟩ := okWide_struct hu hval
    refine ⟨.agg cz.toArray, ?_, cz, hp1, .inl ⟨⟨fs, hu⟩, rfl⟩⟩
    have := hv1.agg
    simpa [Value.cells] using this
   ·rename_i e hu
    obtain ⟨a, l, c, rfl⟩ := okWide_slice hu hval
    exact single (fun _ h => by cases h) (one fun _ h => by cases h)
   ·cases hk
  obtain ⟨a, ha1, ha2⟩ := hex
  refine ⟨g ++ g2, ρ2, a :: avs, hr2, fun b hb => (hs2 b (by simp; omega)).trans (hs1 b hb), fun o ho => ?_, VL.cons (ha1.mono (by simp) hs2) hv2, by simp [hl2], fun j t' d' a' hj hd ha => ?_⟩
  ·rcases List.mem_append.1 ho with ho | ho
   ·exact hg1 o ho
   ·exact hg2 o ho
  ·cases j with
   | zero =>
    simp at hj hd ha
    subst hj; subst hd; subst ha
    rw [← List.append_assoc]
    exact ha2.mono
   | succ j => exact hh j t' d' a' (by simpa using hj) (by simpa using hd) (by simpa using ha)
/-! ### What an argument is -/
theorem Rep.inv_int {H : Heap} {t : TypeId} {k : IntKind} {d : DataW X} {cz : List Value} (hu : P.underlying t = some (.int k)) (h : Rep P H t d cz) : ∃ n, d = .lit (.int k n) ∧ cz = [.int k n] ∧ (Lit.int k n).wf = true := by
 cases h with
 | int k' n hu' hw => rw [hu] at hu'; cases hu'; exact ⟨n, rfl, rfl, hw⟩
 | bool b hu' => rw [hu] at hu'; cases hu'
 | str l hu' hl => rw [hu] at hu'; cases hu'
 | struct hu' => rw [hu] at hu'; cases hu'
 | nilS hu' => rw [hu] at hu'; cases hu'
 | empty hu' => rw [hu] at hu'; cases hu'
 | slice hu' => rw [hu] at hu'; cases hu'
theorem Rep.inv_bool {H : Heap} {t : TypeId} {d : DataW X} {cz : List Value} (hu : P.underlying t = some .bool) (h : Rep P H t d cz) : ∃ b, d = .lit (.bool b) ∧ cz = [.bool b] := by
 cases h with
 | int k' n hu' hw => rw [hu] at hu'; cases hu'
 | bool b hu' => exact ⟨b, rfl, rfl⟩
 | str l hu' hl => rw [hu] at hu'; cases hu'
 | struct hu' => rw [hu] at hu'; cases hu'
 | nilS hu' => rw [hu] at hu'; cases hu'
 | empty hu' => rw [hu] at hu'; cases hu'
 | slice hu' => rw [hu] at hu'; cases hu'
theorem Rep.inv_str {H : Heap} {t : TypeId} {d : DataW X} {cz : List Value} (hu : P.underlying t = some .string) (h : Rep P H t d cz) : ∃ l, d = .lit (.string l) ∧ cz = [.string (bs l)] ∧ l.length ≤ maxLen := by
 cases h with
 | int k' n hu' hw => rw [hu] at hu'; cases hu'
 | bool b hu' => rw [hu] at hu'; cases hu'
 | str l hu' hl => exact ⟨l, rfl, rfl, hl⟩
 | struct hu' => rw [hu] at hu'; cases hu'
 | nilS hu' => rw [hu] at hu'; cases hu'
 | empty hu' => rw [hu] at hu'; cases hu'
 | slice hu' => rw [hu] at hu'; cases hu'
theorem Rep.inv_slice {H : Heap} {t e : TypeId} {d : DataW X} {cz : List Value} (hu : P.underlying t = some (.slice e)) (h : Rep P H t d cz) : (d = .nil ∧ cz = [.slice none 0 0]) ∨ (∃ sp, d = .slice [] sp ∧ cz = [.slice (some ⟨0, 0, some 0⟩) 0 0]) ∨
  ∃ (b : Nat) (ds sp : List (DataW X)) (ass : List (List Value)), d = .slice ds sp ∧ ds ≠ [] ∧ cz = [.slice (some ⟨b, 0, none⟩) ds.length ds.length] ∧ hget H b = .row ass.flatten 0 false ∧ ass.length = ds.length ∧
   (∀ (i : Nat) (d : DataW X) (cz : List Value), ds[i]? = some d → ass[i]? = some cz → Rep P H e d cz) ∧ (∀ (i : Nat) (cz : List Value), ass[i]? = some cz → cz.length = P.cellsOf e) := by
 cases h with
 | int k' n hu' hw => rw [hu] at hu'; cases hu'
 | bool b hu' => rw [hu] at hu'; cases hu'
 | str l hu' hl => rw [hu] at hu'; cases hu'
 | struct hu' => rw [hu] at hu'; cases hu'
 | nilS hu' => exact .inl ⟨rfl, rfl⟩
 | empty hu' => exact .inr (.inl ⟨_, rfl, rfl⟩)
 | slice hu' hne hb h2 h3 h4 => rw [hu] at hu'; cases hu'; exact .inr (.inr ⟨_, _, _, _, rfl, hne, rfl, hb, h2, h3, h4⟩)
/-- An unsigned number of 64 bits. -/
theorem Rep.inv_u64 {H : Heap} {t : TypeId} {d : DataW X} {cz : List Value} (hu : P.underlying t = some (.int .u64)) (h : Rep P H t d cz) : ∃ n : Nat, d = .lit (.int .u64 n) ∧ cz = [.int .u64 (n : Int)] ∧ n < 18446744073709551616 := by
 obtain ⟨n, rfl, rfl, hw⟩ := h.inv_int hu
 have hw : (0 : Int) ≤ n ∧ n ≤ 18446744073709551615 := by
  simpa [Lit.wf, IntKind.min, IntKind.max, IntKind.signed, IntKind.bits] using hw
 refine ⟨n.toNat, ?_, ?_, by omega⟩ <;> rw [Int.toNat_of_nonneg hw.1]
/-- A number of 64 bits. -/
theorem Rep.inv_i64 {H : Heap} {t : TypeId} {d : DataW X} {cz : List Value} (hu : P.underlying t = some (.int .i64)) (h : Rep P H t d cz) : ∃ n : Int, d = .lit (.int .i64 n) ∧ cz = [.int .i64 n] ∧ -9223372036854775808 ≤ n ∧ n < 9223372036854775808 := by
 obtain ⟨n, rfl, rfl, hw⟩ := h.inv_int hu
 have hw : (-9223372036854775808 : Int) ≤ n ∧ n ≤ 9223372036854775807 := by
  simpa [Lit.wf, IntKind.min, IntKind.max, IntKind.signed, IntKind.bits] using hw
 exact ⟨n, rfl, rfl, hw.1, by omega⟩
end
end
section
open Go.ChangeShapes Go.WideShapes Go.ChangeAt Go.RowKit
section
variable {X : Type} {H : Heap}
/-- All its weights have room. -/
def Room (t : TypeId) (d : DataW X) : Prop := ∀ w ∈ d.weights Try.prog t, w ≤ reachBytes
theorem rep_structL {t : TypeId} {fs : Array Field} {d : DataW X} {cz : List Value} (hu : Try.prog.underlying t = some (.struct fs)) (h : Rep Try.prog H t d cz) (hw : Room t d) : ∃ (ds : List (DataW X)) (ass : List (List Value)), d = .agg ds ∧ cz = ass.flatten ∧ ds.length = fs.size ∧ ass.length = fs.size ∧
    (∀ (i : Nat) (f : Field) (d : DataW X) (cz : List Value), fs[i]? = some f → ds[i]? = some d → ass[i]? = some cz → Rep Try.prog H f.type d cz ∧ Room f.type d) := by
  cases h with
  | int k' n hu' hw => rw [hu] at hu'; cases hu'
  | bool b hu' => rw [hu] at hu'; cases hu'
  | str l hu' hl => rw [hu] at hu'; cases hu'
  | struct hu' h1 h2 h3 h4 =>
    rw [hu] at hu'; cases hu'
    refine ⟨_, _, rfl, rfl, h1, h2, fun i f d cz hf hd hc => ⟨h3 i f d cz hf hd hc, fun w hh => hw w ?_⟩⟩
    simp only [DataW.weights, hu]
    refine DataW.weights_mem_each (j := i) (t := f.type) ?_ hd w hh
    rw [List.getElem?_map, Array.getElem?_toList, hf]; rfl
  | nilS hu' => rw [hu] at hu'; cases hu'
  | empty hu' => rw [hu] at hu'; cases hu'
  | slice hu' => rw [hu] at hu'; cases hu'
theorem weights_all {P : Program} {e : TypeId} : ∀ {ds : List (DataW X)} {d : DataW X}, d ∈ ds → ∀ n ∈ d.weights P e, n ∈ DataW.weightsAll P e ds
  | [], d, h, _, _ => by cases h
  | d0 :: ds, d, h, n, hn => by
    simp only [DataW.weightsAll, List.mem_append]
    rcases List.mem_cons.1 h with rfl | h
    · exact .inl hn
    · exact .inr (weights_all h n hn)
theorem list_rep {α : Type} {e : TypeId} {f : α → List Value} {ok : α → Prop} (S : DataW X → Prop) (hone : ∀ (d : DataW X) cz, S d → Rep Try.prog H e d cz → Room e d → ∃ x, cz = f x ∧ ok x) :
    ∀ (ds : List (DataW X)) (ass : List (List Value)), ass.length = ds.length → (∀ d ∈ ds, S d) → (∀ d ∈ ds, Room e d) → (∀ (i : Nat) (d : DataW X) (cz : List Value), ds[i]? = some d → ass[i]? = some cz → Rep Try.prog H e d cz) →
      ∃ l : List α, ass = l.map f ∧ ∀ x ∈ l, ok x
  | [], [], _, _, _, _ => ⟨[], rfl, fun x hx => by cases hx⟩
  | [], _ :: _, h, _, _, _ => by simp at h
  | _ :: _, [], h, _, _, _ => by simp at h
  | d :: ds, cz :: ass, h, hS, hw, hr => by
    obtain ⟨l, e1, e2⟩ := list_rep S hone ds ass (by simpa using h) (fun q hq => hS q (by simp [hq])) (fun q hq => hw q (by simp [hq])) fun i d' cz' hd hc => hr (i + 1) d' cz' (by simpa using hd) (by simpa using hc)
    obtain ⟨x, e3, e4⟩ := hone d cz (hS d (by simp)) (hr 0 d cz rfl rfl) (hw d (by simp))
    refine ⟨x :: l, by rw [e1, e3]; rfl, fun y hy => ?_⟩
    rcases List.mem_cons.1 hy with rfl | hy
    · exact e4
    · exact e2 y hy
theorem slice_rep {α : Type} {t e : TypeId} {f : α → List Value} {ok : α → Prop} (hone : ∀ (d : DataW X) cz, Rep Try.prog H e d cz → Room e d → ∃ x, cz = f x ∧ ok x) (hu : Try.prog.underlying t = some (.slice e)) {d : DataW X} {cz : List Value} (h : Rep Try.prog H t d cz) (hw : Room t d) :
    ∃ (v : Value) (l : List α), cz = [v] ∧ RoSl H v (l.map f) ∧ l.length * Try.prog.bytesOf e ≤ 140737488355328 ∧ ∀ x ∈ l, ok x := by
  rcases h.inv_slice hu with ⟨rfl, e⟩ | ⟨sp, rfl, e⟩ | ⟨b, ds, sp, ass, rfl, hds, e, hb, h2, h3, h4⟩
  · exact ⟨_, [], e, .inl ⟨rfl, .inl rfl⟩, by simp, fun x hx => by cases hx⟩
  · exact ⟨_, [], e, .inl ⟨rfl, .inr ⟨_, _, _, rfl⟩⟩, by simp, fun x hx => by cases hx⟩
  · simp only [Room, DataW.weights, hu] at hw
    obtain ⟨l, e1, e2⟩ := list_rep (fun _ => True) (fun d cz _ => hone d cz) ds ass h2 (fun _ _ => trivial) (fun q hq w hh => hw w (by simp only [List.mem_cons, List.mem_append]; exact .inr (.inl (weights_all hq w hh)))) h3
    have hln : l.length = ds.length := by rw [← h2, e1, List.length_map]
    have hlen := hw _ (List.mem_cons_self ..)
    have hlt := reachBytes_lt
    refine ⟨_, l, e, .inr ⟨b, by rw [List.length_map, hln], hget_lt hb rfl, 0, false, by rw [hb, e1]⟩, ?_, e2⟩
    rw [hln]
    refine Nat.le_trans (Nat.mul_le_mul_right _ (Nat.le_add_right ds.length sp.length)) ?_
    have : reachBytes < 140737488355328 := by simpa using hlt
    omega
theorem fld_rep (d : DataW X) (cz : List Value) (h : Rep Try.prog H 102 d cz) (hw : Room 102 d) : ∃ x : Fld, cz = x.cells ∧ x.OK := by
  obtain ⟨ds, ass, rfl, rfl, p1, p2, p3⟩ := rep_structL Try.underlying102 h hw
  match ds, ass, p1, p2, p3 with
  | [d0, d1], [a0, a1], _, _, p3 =>
    obtain ⟨t, _, rfl, _⟩ := (p3 0 _ d0 a0 rfl rfl rfl).1.inv_str Try.underlying9
    obtain ⟨k, _, rfl, k1, k2⟩ := (p3 1 _ d1 a1 rfl rfl rfl).1.inv_i64 Try.underlying3
    exact ⟨⟨t, k⟩, rfl, k1, k2⟩
theorem rf_rep (d : DataW X) (cz : List Value) (h : Rep Try.prog H 59 d cz) (hw : Room 59 d) : ∃ x : Rf, cz = x.cells := by
  obtain ⟨ds, ass, rfl, rfl, p1, p2, p3⟩ := rep_structL Try.underlying59 h hw
  match ds, ass, p1, p2, p3 with
  | [d0, d1], [a0, a1], _, _, p3 =>
    obtain ⟨t, _, rfl, _⟩ := (p3 0 _ d0 a0 rfl rfl rfl).1.inv_str Try.underlying9
    obtain ⟨k, _, rfl, _⟩ := (p3 1 _ d1 a1 rfl rfl rfl).1.inv_str Try.underlying9
    exact ⟨⟨t, k⟩, rfl⟩
theorem bt_rep (d : DataW X) (cz : List Value) (h : Rep Try.prog H 81 d cz) (hw : Room 81 d) : ∃ x : Bt, cz = x.cells ∧ x.OK := by
  obtain ⟨ds, ass, rfl, rfl, p1, p2, p3⟩ := rep_structL Try.underlying81 h hw
  match ds, ass, p1, p2, p3 with
  | [d0, d1], [a0, a1], _, _, p3 =>
    obtain ⟨t, _, rfl, t1⟩ := (p3 0 _ d0 a0 rfl rfl rfl).1.inv_u64 Try.underlying79
    obtain ⟨k, _, rfl, k1⟩ := (p3 1 _ d1 a1 rfl rfl rfl).1.inv_u64 Try.underlying79
    exact ⟨⟨t, k⟩, rfl, t1, k1⟩
theorem opd_rep (d : DataW X) (cz : List Value) (h : Rep Try.prog H 83 d cz) (hw : Room 83 d) : ∃ x : Opd, cz = x.cells ∧ x.OK := by
  obtain ⟨ds, ass, rfl, rfl, p1, p2, p3⟩ := rep_structL Try.underlying83 h hw
  match ds, ass, p1, p2, p3 with
  | [d0, d1], [a0, a1], _, _, p3 =>
    obtain ⟨r, rfl⟩ := rf_rep d0 a0 (p3 0 _ d0 a0 rfl rfl rfl).1 (p3 0 _ d0 a0 rfl rfl rfl).2
    obtain ⟨b, rfl, hb⟩ := bt_rep d1 a1 (p3 1 _ d1 a1 rfl rfl rfl).1 (p3 1 _ d1 a1 rfl rfl rfl).2
    exact ⟨⟨r, b⟩, rfl, hb⟩
theorem tst_rep (d : DataW X) (cz : List Value) (h : Rep Try.prog H 85 d cz) (hw : Room 85 d) : ∃ x : Tst, cz = x.cells ∧ (I64 x.kind ∧ x.a.OK ∧ x.b.OK) := by
  obtain ⟨ds, ass, rfl, rfl, p1, p2, p3⟩ := rep_structL Try.underlying85 h hw
  match ds, ass, p1, p2, p3 with
  | [d0, d1, d2], [a0, a1, a2], _, _, p3 =>
    obtain ⟨k, _, rfl, k1, k2⟩ := (p3 0 _ d0 a0 rfl rfl rfl).1.inv_i64 Try.underlying3
    obtain ⟨a, rfl, ha⟩ := opd_rep d1 a1 (p3 1 _ d1 a1 rfl rfl rfl).1 (p3 1 _ d1 a1 rfl rfl rfl).2
    obtain ⟨b, rfl, hb⟩ := opd_rep d2 a2 (p3 2 _ d2 a2 rfl rfl rfl).1 (p3 2 _ d2 a2 rfl rfl rfl).2
    exact ⟨⟨k, a, b⟩, rfl, ⟨k1, k2⟩, ha, hb⟩
theorem cas_rep (d : DataW X) (cz : List Value) (h : Rep Try.prog H 104 d cz) (hw : Room 104 d) : ∃ x : Cas, cz = x.cells ∧ x.OK := by
  obtain ⟨ds, ass, rfl, rfl, p1, p2, p3⟩ := rep_structL Try.underlying104 h hw
  match ds, ass, p1, p2, p3 with
  | [d0, d1, d2], [a0, a1, a2], _, _, p3 =>
    obtain ⟨a, rfl, ha⟩ := bt_rep d0 a0 (p3 0 _ d0 a0 rfl rfl rfl).1 (p3 0 _ d0 a0 rfl rfl rfl).2
    obtain ⟨b, rfl, hb⟩ := bt_rep d1 a1 (p3 1 _ d1 a1 rfl rfl rfl).1 (p3 1 _ d1 a1 rfl rfl rfl).2
    obtain ⟨t, _, rfl, _⟩ := (p3 2 _ d2 a2 rfl rfl rfl).1.inv_str Try.underlying9
    exact ⟨⟨a, b, t⟩, rfl, ha, hb⟩
theorem ky_rep (d : DataW X) (cz : List Value) (h : Rep Try.prog H 111 d cz) (hw : Room 111 d) : ∃ x : Ky, cz = x.cells ∧ x.OK := by
  obtain ⟨ds, ass, rfl, rfl, p1, p2, p3⟩ := rep_structL Try.underlying111 h hw
  match ds, ass, p1, p2, p3 with
  | [d0, d1], [a0, a1], _, _, p3 =>
    obtain ⟨r, rfl⟩ := rf_rep d0 a0 (p3 0 _ d0 a0 rfl rfl rfl).1 (p3 0 _ d0 a0 rfl rfl rfl).2
    obtain ⟨k, _, rfl, k1, k2⟩ := (p3 1 _ d1 a1 rfl rfl rfl).1.inv_i64 Try.underlying3
    exact ⟨⟨r, k⟩, rfl, k1, k2⟩
theorem stp_rep (d : DataW X) (cz : List Value) (h : Rep Try.prog H 106 d cz) (hw : Room 106 d) : ∃ x : Stp, cz = x.cells ∧ x.OK := by
  obtain ⟨ds, ass, rfl, rfl, p1, p2, p3⟩ := rep_structL Try.underlying106 h hw
  match ds, ass, p1, p2, p3 with
  | [d0, d1, d2, d3, d4], [a0, a1, a2, a3, a4], _, _, p3 =>
    obtain ⟨k, _, rfl, k1, k2⟩ := (p3 0 _ d0 a0 rfl rfl rfl).1.inv_i64 Try.underlying3
    obtain ⟨r, rfl⟩ := rf_rep d1 a1 (p3 1 _ d1 a1 rfl rfl rfl).1 (p3 1 _ d1 a1 rfl rfl rfl).2
    obtain ⟨o, _, rfl, q1, q2⟩ := (p3 2 _ d2 a2 rfl rfl rfl).1.inv_i64 Try.underlying3
    obtain ⟨a, rfl, ha⟩ := opd_rep d3 a3 (p3 3 _ d3 a3 rfl rfl rfl).1 (p3 3 _ d3 a3 rfl rfl rfl).2
    obtain ⟨b, rfl, hb⟩ := opd_rep d4 a4 (p3 4 _ d4 a4 rfl rfl rfl).1 (p3 4 _ d4 a4 rfl rfl rfl).2
    exact ⟨⟨k, r, o, a, b⟩, rfl, ⟨k1, k2⟩, ⟨q1, q2⟩, ha, hb⟩
theorem tx_rep (d : DataW X) (cz : List Value) (h : Rep Try.prog H 9 d cz) (hw : Room 9 d) : ∃ x : List UInt8, cz = txC x ∧ True := by
  obtain ⟨t, _, rfl, _⟩ := h.inv_str Try.underlying9
  exact ⟨t, rfl, trivial⟩
theorem fldL_rep {d : DataW X} {cz : List Value} (h : Rep Try.prog H 27 d cz) (hw : Room 27 d) : ∃ v l, cz = [v] ∧ FldL H v l := by
  obtain ⟨v, l, e, h1, h2, h3⟩ := slice_rep fld_rep Try.underlying27 h hw
  exact ⟨v, l, e, h1, (by have hb : Try.prog.bytesOf 102 = 24 := by kernel_rfl
                          rw [hb] at h2; exact h2), h3⟩
theorem btL_rep {d : DataW X} {cz : List Value} (h : Rep Try.prog H 42 d cz) (hw : Room 42 d) : ∃ v l, cz = [v] ∧ BtL H v l := by
  obtain ⟨v, l, e, h1, h2, h3⟩ := slice_rep bt_rep Try.underlying42 h hw
  exact ⟨v, l, e, h1, (by have hb : Try.prog.bytesOf 81 = 16 := by kernel_rfl
                          rw [hb] at h2; exact h2), h3⟩
theorem txL_rep {d : DataW X} {cz : List Value} (h : Rep Try.prog H 23 d cz) (hw : Room 23 d) : ∃ v l, cz = [v] ∧ TxL H v l := by
  obtain ⟨v, l, e, h1, h2, h3⟩ := slice_rep tx_rep Try.underlying23 h hw
  exact ⟨v, l, e, h1, (by have hb : Try.prog.bytesOf 9 = 16 := by kernel_rfl
                          rw [hb] at h2; exact h2)⟩
theorem hdr_rep (d : DataW X) (cz : List Value) (h : Rep Try.prog H 55 d cz) (hw : Room 55 d) : ∃ x : Hdr, cz = x.cells ∧ x.OK H := by
  obtain ⟨ds, ass, rfl, rfl, p1, p2, p3⟩ := rep_structL Try.underlying55 h hw
  match ds, ass, p1, p2, p3 with
  | [d0, d1], [a0, a1], _, _, p3 =>
    obtain ⟨t, _, rfl, _⟩ := (p3 0 _ d0 a0 rfl rfl rfl).1.inv_str Try.underlying9
    obtain ⟨v, l, rfl, hl⟩ := fldL_rep (p3 1 _ d1 a1 rfl rfl rfl).1 (p3 1 _ d1 a1 rfl rfl rfl).2
    exact ⟨⟨t, v, l⟩, rfl, hl⟩
theorem sta_rep (d : DataW X) (cz : List Value) (h : Rep Try.prog H 62 d cz) (hw : Room 62 d) : ∃ x : Sta, cz = x.cells ∧ x.OK H := by
  obtain ⟨ds, ass, rfl, rfl, p1, p2, p3⟩ := rep_structL Try.underlying62 h hw
  match ds, ass, p1, p2, p3 with
  | [d0, d1, d2, d3, d4], [a0, a1, a2, a3, a4], _, _, p3 =>
    obtain ⟨t, _, rfl, _⟩ := (p3 0 _ d0 a0 rfl rfl rfl).1.inv_str Try.underlying9
    obtain ⟨t1, _, rfl, _⟩ := (p3 1 _ d1 a1 rfl rfl rfl).1.inv_str Try.underlying9
    obtain ⟨r, rfl⟩ := rf_rep d2 a2 (p3 2 _ d2 a2 rfl rfl rfl).1 (p3 2 _ d2 a2 rfl rfl rfl).2
    obtain ⟨v, l, rfl, h1, h2, h3⟩ := slice_rep cas_rep Try.underlying60 (p3 3 _ d3 a3 rfl rfl rfl).1 (p3 3 _ d3 a3 rfl rfl rfl).2
    obtain ⟨t4, _, rfl, _⟩ := (p3 4 _ d4 a4 rfl rfl rfl).1.inv_str Try.underlying9
    have hb : Try.prog.bytesOf 104 = 48 := by kernel_rfl
    rw [hb] at h2
    exact ⟨⟨t, t1, r, v, l, t4⟩, rfl, h1, h2, h3⟩
theorem act_rep (d : DataW X) (cz : List Value) (h : Rep Try.prog H 109 d cz) (hw : Room 109 d) : ∃ x : Act, cz = x.cells ∧ x.OK H := by
  obtain ⟨ds, ass, rfl, rfl, p1, p2, p3⟩ := rep_structL Try.underlying109 h hw
  match ds, ass, p1, p2, p3 with
  | [d0, d1, d2], [a0, a1, a2], _, _, p3 =>
    obtain ⟨t, _, rfl, _⟩ := (p3 0 _ d0 a0 rfl rfl rfl).1.inv_str Try.underlying9
    obtain ⟨v, l, rfl, hl⟩ := fldL_rep (p3 1 _ d1 a1 rfl rfl rfl).1 (p3 1 _ d1 a1 rfl rfl rfl).2
    obtain ⟨v2, l2, rfl, h1, h2, h3⟩ := slice_rep stp_rep Try.underlying107 (p3 2 _ d2 a2 rfl rfl rfl).1 (p3 2 _ d2 a2 rfl rfl rfl).2
    have hb : Try.prog.bytesOf 106 = 144 := by kernel_rfl
    rw [hb] at h2
    exact ⟨⟨t, v, l, v2, l2⟩, rfl, hl, h1, h2, h3⟩
theorem call_rep (d : DataW X) (cz : List Value) (h : Rep Try.prog H 44 d cz) (hw : Room 44 d) : ∃ (t : List UInt8) (v : Value) (l : List Bt), cz = [.string (bs t), v] ∧ BtL H v l := by
  obtain ⟨ds, ass, rfl, rfl, p1, p2, p3⟩ := rep_structL Try.underlying44 h hw
  match ds, ass, p1, p2, p3 with
  | [d0, d1], [a0, a1], _, _, p3 =>
    obtain ⟨t, _, rfl, _⟩ := (p3 0 _ d0 a0 rfl rfl rfl).1.inv_str Try.underlying9
    obtain ⟨v, l, rfl, hl⟩ := btL_rep (p3 1 _ d1 a1 rfl rfl rfl).1 (p3 1 _ d1 a1 rfl rfl rfl).2
    exact ⟨t, v, l, rfl, hl⟩
theorem tbl_rep (d : DataW X) (cz : List Value) (h : Rep Try.prog H 46 d cz) (hw : Room 46 d) : ∃ x : Tbl, cz = x.cells ∧ x.OK H := by
  obtain ⟨ds, ass, rfl, rfl, p1, p2, p3⟩ := rep_structL Try.underlying46 h hw
  match ds, ass, p1, p2, p3 with
  | [d0, d1, d2, d3, d4, d5], [a0, a1, a2, a3, a4, a5], _, _, p3 =>
    obtain ⟨t, _, rfl, _⟩ := (p3 0 _ d0 a0 rfl rfl rfl).1.inv_str Try.underlying9
    obtain ⟨v, l, rfl, h1, h2, h3⟩ := slice_rep ky_rep Try.underlying41 (p3 1 _ d1 a1 rfl rfl rfl).1 (p3 1 _ d1 a1 rfl rfl rfl).2
    obtain ⟨v2, l2, rfl, hl2⟩ := txL_rep (p3 2 _ d2 a2 rfl rfl rfl).1 (p3 2 _ d2 a2 rfl rfl rfl).2
    obtain ⟨k, _, rfl, k1, k2⟩ := (p3 3 _ d3 a3 rfl rfl rfl).1.inv_i64 Try.underlying3
    obtain ⟨t4, v4, l4, rfl, hl4⟩ := call_rep d4 a4 (p3 4 _ d4 a4 rfl rfl rfl).1 (p3 4 _ d4 a4 rfl rfl rfl).2
    obtain ⟨b, _, rfl⟩ := (p3 5 _ d5 a5 rfl rfl rfl).1.inv_bool Try.underlying4
    have hb : Try.prog.bytesOf 111 = 40 := by kernel_rfl
    rw [hb] at h2
    exact ⟨⟨t, v, l, v2, l2, k, t4, v4, l4, b⟩, rfl, ⟨h1, h2, h3⟩, hl2, ⟨k1, k2⟩, hl4⟩
theorem stages_rep : ∀ (N : Nat) (d : DataW X) (cz : List Value), SizeOf.sizeOf d ≤ N → Rep Try.prog H 31 d cz → Room 31 d → ∃ v l, cz = [v] ∧ StSl H l v := by
  intro N
  induction N with
  | zero =>
    intro d cz hN
    exfalso
    cases d <;> simp at hN
  | succ N ih =>
    intro d cz hN h hw
    rcases h.inv_slice Try.underlying31 with ⟨rfl, e⟩ | ⟨sp, rfl, e⟩ | ⟨b, ds, sp, ass, rfl, hds, e, hb, h2, h3, h4⟩
    · exact ⟨_, [], e, .inl ⟨rfl, .inl rfl⟩⟩
    · exact ⟨_, [], e, .inl ⟨rfl, .inr ⟨_, _, _, rfl⟩⟩⟩
    · simp only [DataW.slice.sizeOf_spec] at hN
      simp only [Room, DataW.weights, Try.underlying31] at hw
      obtain ⟨l, e1, e2⟩ := list_rep (f := St.cells) (ok := StOK H) (fun d : DataW X => SizeOf.sizeOf d ≤ N) (fun d cz hS hr hwd => by
        obtain ⟨ps, az, rfl, rfl, p1, p2, p3⟩ := rep_structL Try.underlying87 hr hwd
        match ps, az, p1, p2, p3, hS with
        | [d0, d1, d2, d3, d4], [a0, a1, a2, a3, a4], _, _, p3, hS =>
          have hsz : ∀ q ∈ [d0, d1, d2, d3, d4], SizeOf.sizeOf q ≤ N := fun q hq => by
            have := List.sizeOf_lt_of_mem hq
            simp only [DataW.agg.sizeOf_spec] at hS
            omega
          obtain ⟨k, _, rfl, k1, k2⟩ := (p3 0 _ d0 a0 rfl rfl rfl).1.inv_i64 Try.underlying3
          obtain ⟨t, _, rfl, _⟩ := (p3 1 _ d1 a1 rfl rfl rfl).1.inv_str Try.underlying9
          obtain ⟨c, rfl, hc⟩ := tst_rep d2 a2 (p3 2 _ d2 a2 rfl rfl rfl).1 (p3 2 _ d2 a2 rfl rfl rfl).2
          obtain ⟨va, la, rfl, sa⟩ := ih d3 a3 (hsz _ (by simp)) (p3 3 _ d3 a3 rfl rfl rfl).1 (p3 3 _ d3 a3 rfl rfl rfl).2
          obtain ⟨vb, lb, rfl, sb⟩ := ih d4 a4 (hsz _ (by simp)) (p3 4 _ d4 a4 rfl rfl rfl).1 (p3 4 _ d4 a4 rfl rfl rfl).2
          exact ⟨.mk k t c va vb la lb, by simp [St.cells], by simp only [StOK]; exact ⟨⟨⟨k1, k2⟩, hc⟩, sa, sb⟩⟩) ds ass h2 (fun q hq => by have := List.sizeOf_lt_of_mem hq; omega)
        (fun q hq w hh => hw w (by simp only [List.mem_cons, List.mem_append]; exact .inr (.inl (weights_all hq w hh)))) h3
      have hln : l.length = ds.length := by rw [← h2, e1, List.length_map]
      have hlen := hw _ (List.mem_cons_self ..)
      have hb2 : Try.prog.bytesOf 87 = 176 := by kernel_rfl
      have hlt : reachBytes < 140737488355328 := by simpa using reachBytes_lt
      rw [hb2] at hlen
      have hfew : few 176 l.length := by unfold few; rw [hln]; omega
      have hall : StOKs H l := by
        clear e1 hln hlen hb h2 h3 h4 e hw hN hfew
        induction l with
        | nil => trivial
        | cons x l ihl => simp only [StOKs]; exact ⟨e2 x (by simp), ihl fun y hy => e2 y (by simp [hy])⟩
      refine ⟨_, l, e, ?_⟩
      cases l with
      | nil => simp at hln; exact absurd (List.length_eq_zero_iff.1 hln.symm) hds
      | cons s l =>
        simp only [StSl]
        simp only [StOKs] at hall
        exact ⟨⟨b, by rw [← hln]; rfl, hget_lt hb rfl, 0, false, by rw [hb, e1]⟩, hfew, hall.1, hall.2⟩
theorem slice_arg {t e : TypeId} (hu : Try.prog.underlying t = some (.slice e)) {d : DataW X} {a : Value} (h : ArgRep Try.prog H t d a) : Rep Try.prog H t d [a] := by
  obtain ⟨cz, hr, ⟨⟨fs, hf⟩, _⟩ | e⟩ := h
  · rw [hu] at hf; cases hf
  · rw [← e]; exact hr
end
end
section
open Go.ChangeShapes Go.WideShapes Go.ChangeAt Go.RowKit
variable {X : Type} {H : Heap}
theorem head_short {t : TypeId} {fs : Array Field} {f0 : Field} {d : DataW X} {n : List UInt8} {r : List Value} (hu : Try.prog.underlying t = some (.struct fs)) (h0 : fs[0]? = some f0) (hf : f0.type = 9) (h : Rep Try.prog H t d (.string (bs n) :: r)) (hw : Room t d) : short n := by
  obtain ⟨ds, ass, rfl, e, p1, p2, p3⟩ := rep_structL hu h hw
  have hsz : 0 < fs.size := (Array.getElem?_eq_some_iff.1 h0).1
  match ds, ass, p1, p2, e, p3 with
  | [], _, p1, _, _, _ => simp at p1; omega
  | _ :: _, [], _, p2, _, _ => simp at p2; omega
  | d0 :: ds, a0 :: ass, _, _, e, p3 =>
    obtain ⟨q1, q2⟩ := p3 0 f0 d0 a0 h0 rfl rfl
    rw [hf] at q1 q2
    obtain ⟨m, rfl, rfl, _⟩ := q1.inv_str Try.underlying9
    rw [List.flatten_cons, List.cons_append] at e
    injection e with e _
    injection e with e
    obtain rfl := bs_inj e
    have hlt : reachBytes < 140737488355328 := by simpa using reachBytes_lt
    have := q2 n.length (by simp [DataW.weights])
    unfold short
    omega
theorem hdr_rep2 (d : DataW X) (cz : List Value) (h : Rep Try.prog H 55 d cz) (hw : Room 55 d) : ∃ x : Hdr, cz = x.cells ∧ x.OK H ∧ short x.name := by
  obtain ⟨x, rfl, hx⟩ := hdr_rep d cz h hw
  exact ⟨x, rfl, hx, head_short Try.underlying55 rfl rfl h hw⟩
theorem sta_rep2 (d : DataW X) (cz : List Value) (h : Rep Try.prog H 62 d cz) (hw : Room 62 d) : ∃ x : Sta, cz = x.cells ∧ x.OK H ∧ short x.name := by
  obtain ⟨x, rfl, hx⟩ := sta_rep d cz h hw
  exact ⟨x, rfl, hx, head_short Try.underlying62 rfl rfl h hw⟩
theorem act_rep2 (d : DataW X) (cz : List Value) (h : Rep Try.prog H 109 d cz) (hw : Room 109 d) : ∃ x : Act, cz = x.cells ∧ x.OK H ∧ short x.name := by
  obtain ⟨x, rfl, hx⟩ := act_rep d cz h hw
  exact ⟨x, rfl, hx, head_short Try.underlying109 rfl rfl h hw⟩
theorem tbl_rep2 (d : DataW X) (cz : List Value) (h : Rep Try.prog H 46 d cz) (hw : Room 46 d) : ∃ x : Tbl, cz = x.cells ∧ x.OK H ∧ short x.name := by
  obtain ⟨x, rfl, hx⟩ := tbl_rep d cz h hw
  exact ⟨x, rfl, hx, head_short Try.underlying46 rfl rfl h hw⟩
theorem sch_rep2 (d : DataW X) (cz : List Value) (h : Rep Try.prog H 33 d cz) (hw : Room 33 d) : ∃ s : Sch, cz = s.cells ∧ s.OK H ∧ s.Short := by
  obtain ⟨ds, ass, rfl, rfl, p1, p2, p3⟩ := rep_structL Try.underlying33 h hw
  match ds, ass, p1, p2, p3 with
  | [d0, d1, d2, d3, d4, d5], [a0, a1, a2, a3, a4, a5], _, _, p3 =>
    obtain ⟨hv, hs, rfl, h1, h2, h3⟩ := slice_rep hdr_rep2 Try.underlying26 (p3 0 _ d0 a0 rfl rfl rfl).1 (p3 0 _ d0 a0 rfl rfl rfl).2
    obtain ⟨mv, ms, rfl, m1⟩ := fldL_rep (p3 1 _ d1 a1 rfl rfl rfl).1 (p3 1 _ d1 a1 rfl rfl rfl).2
    obtain ⟨sv, ss, rfl, s1, s2, s3⟩ := slice_rep sta_rep2 Try.underlying28 (p3 2 _ d2 a2 rfl rfl rfl).1 (p3 2 _ d2 a2 rfl rfl rfl).2
    obtain ⟨av, acs, rfl, a1, a2, a3⟩ := slice_rep act_rep2 Try.underlying29 (p3 3 _ d3 a3 rfl rfl rfl).1 (p3 3 _ d3 a3 rfl rfl rfl).2
    obtain ⟨tv, ts, rfl, t1, t2, t3⟩ := slice_rep tbl_rep2 Try.underlying30 (p3 4 _ d4 a4 rfl rfl rfl).1 (p3 4 _ d4 a4 rfl rfl rfl).2
    obtain ⟨cv, cs, rfl, c1⟩ := stages_rep _ d5 a5 (Nat.le_refl _) (p3 5 _ d5 a5 rfl rfl rfl).1 (p3 5 _ d5 a5 rfl rfl rfl).2
    have b1 : Try.prog.bytesOf 55 = 40 := by kernel_rfl
    have b2 : Try.prog.bytesOf 62 = 104 := by kernel_rfl
    have b3 : Try.prog.bytesOf 109 = 64 := by kernel_rfl
    have b4 : Try.prog.bytesOf 46 = 120 := by kernel_rfl
    rw [b1] at h2
    rw [b2] at s2
    rw [b3] at a2
    rw [b4] at t2
    exact ⟨⟨hv, mv, sv, av, tv, cv, hs, ms, ss, acs, ts, cs⟩, rfl, ⟨⟨h1, h2, fun x hx => (h3 x hx).1⟩, m1, ⟨s1, s2, fun x hx => (s3 x hx).1⟩, ⟨a1, a2, fun x hx => (a3 x hx).1⟩, ⟨t1, t2, fun x hx => (t3 x hx).1⟩, c1⟩,
      ⟨fun x hx => (h3 x hx).2, fun x hx => (s3 x hx).2, fun x hx => (a3 x hx).2, fun x hx => (t3 x hx).2⟩⟩
end
section
open Go.ChangeShapes Go.WideShapes Go.ChangeAt Go.RowKit
theorem own : ownKnob Try.prog.godebug = none := by kernel_rfl
theorem VL.narrow {n m : Nat} {ρ ρ' : Nat → Place} {xs ys : List Value} (h : VL m ρ' xs ys) (hs : ∀ x ∈ xs, Scoped n x) (he : ∀ b, b < n → ρ' b = ρ b) : VL n ρ xs ys :=
 ⟨h.1, fun i x y hx hy => ((h.2 i x y hx hy).narrow (hs x (List.mem_of_getElem? hx))).mono (Nat.le_refl _) fun b hb => (he b hb).symm⟩
abbrev ρ0 : Nat → Place := fun b => ⟨b, 0, 0⟩
theorem it_rep {X : Type} {H : Heap} (d : DataW X) (cz : List Value) (h : Rep Try.prog H 3 d cz) (hw : Room 3 d) : ∃ x : Int, cz = itC x ∧ I64 x := by
 obtain ⟨k, _, rfl, k1, k2⟩ := h.inv_i64 Try.underlying3
 exact ⟨k, rfl, k1, k2⟩
set_option maxRecDepth 100000 in
theorem schemaEnds_lifted (os : Os) (started : os.Started) (H : Type) (enc : TypeId × Value → H) :
  ReturnsInHanded {} Try.checked os 7 .any (Rows.schemaEndsSpec.pre6 enc Try.prog Try.f7 [] false)
   (Rows.schemaEndsSpec.post enc Try.prog Try.f7 false true false false) := by
 refine returnsInHanded_of_change_sized (C := Try.checked) own started (by kernel_rfl) Try.func7
  (ChangeSpec.witness6 (enc := enc) (C := Try.checked) (os := os) false ⟨#[], #[.agg #[.slice none 0 0, .slice none 0 0, .slice none 0 0, .slice none 0 0, .slice none 0 0, .slice none 0 0], .slice none 0 0], []⟩ 8 (by kernel_rfl) (by kernel_rfl) (by kernel_rfl) (by kernel_rfl)) ?_
 intro W base args ds gs before hval0 hW _ hsz _
 have hval : ∀ (j : Nat) t v, Try.f7.params[j]? = some t → args[j]? = some v → Value.okWide Try.prog W .any base t v := hval0
 have hW' := hW
 obtain ⟨p, q, hA0, hV, rfl, hfz, hnd⟩ := hW
 have hA : DataW.TrodAll enc Try.prog W 0 (fun _ => true) true Try.f7.params.toList args.toList ds p := hA0
 have hsz' : (DataW.weightsEach Try.prog (Try.f7.params.toList ++ Rows.schemaEndsSpec.plain.varTypes Try.prog) (ds ++ gs)).all (· ≤ reachBytes) = true := hsz
 rw [Try.params7] at hA hval hsz'
 obtain ⟨rfl, rfl⟩ := trodVars_none hV
 obtain ⟨g, ρ', avs, hr, hs, hg, hvl, hlen, hrep⟩ := open_args (G := 0) (L := [33, 26, 27, 28, 29, 30, 31, 55, 102, 62, 59, 60, 104, 81, 109, 107, 106, 83, 46, 41, 111, 23, 44, 42, 87, 85, 3, 4, 9, 79, 53]) (by kernel_rfl) (by kernel_rfl) (by kernel_rfl) (by decide) hA (fun j t v h1 h2 => hval j t v (by simpa using h1) (by simpa using h2)) [] (fun _ => ⟨0, 0, 0⟩) (fun o ho => by cases ho) (by have := rel_nil (ρ := fun _ => ⟨0, 0, 0⟩) (w := W); rwa [show T.G = 0 from by unfold T; kernel_rfl] at this)
 have hA1 := hA
 obtain ⟨v0, vs0, d0, ds0, p0, q0, hargs, rfl, rfl, h0, r0⟩ := trodAll_cons hA1
 obtain ⟨v1, vs1, d1, ds1, p1, q1, hargs1, rfl, rfl, h1, r1⟩ := trodAll_cons r0
 obtain ⟨rfl, rfl, rfl⟩ := trodAll_nil r1
 obtain rfl : args = #[v0, v1] := by cases args; simp_all
 match avs, hlen with
 | [a0, a1], _ =>
 have hroom : ∀ (j : Nat) t d, [33, 53][j]? = some t → [d0, d1][j]? = some d → Room t d := fun j t d ht hd w hh => by
  have := List.all_eq_true.1 hsz' w (DataW.weights_mem_each (ts := #[33, 53].toList ++ _) (ds := [d0, d1] ++ _) (j := j) (by
   rw [List.getElem?_append_left (by have := (List.getElem?_eq_some_iff.1 ht).1; simpa using this)]; exact ht) (by
   rw [List.getElem?_append_left (by have := (List.getElem?_eq_some_iff.1 hd).1; simpa using this)]; exact hd) w hh)
  simpa using this
 obtain ⟨cz, hrz, hcz⟩ := hrep 0 33 d0 a0 rfl rfl rfl
 obtain ⟨s, rfl, hs, hsh⟩ := sch_rep2 d0 cz hrz (hroom 0 33 d0 rfl rfl)
 obtain rfl : a0 = .agg s.cells.toArray := by
  rcases hcz with ⟨_, e⟩ | e
  ·exact e
  ·simp [Sch.cells] at e
 obtain ⟨v, l, e, hq1, hq2, hq3⟩ := slice_rep it_rep Try.underlying53 (slice_arg Try.underlying53 (hrep 1 53 d1 a1 rfl rfl rfl)) (hroom 1 53 d1 rfl rfl)
 obtain rfl : a1 = v := by simpa using e
 have hb : Try.prog.bytesOf 3 = 8 := by kernel_rfl
 rw [hb] at hq2
 have hG : T.G = 0 := by unfold T; kernel_rfl
 simp only [List.nil_append] at hr hvl hs hq1
 refine (wd_true t7 (H := g) (ends_w (fun h => shown_s h) hs hsh hq1 hq2) (by rw [hG]; exact hr) (args' := #[v0, v1]) hvl (fun o ho => by obtain ⟨c, rfl⟩ := hg o ho; rfl)).mono fun e W' ⟨he, bel⟩ => ?_
 subst he
 exact ⟨_, rfl, _, _, _, [], _, [], hW', trodAll_mk1 (shut_bool Try.underlying4 _), args_stay (by kernel_rfl) (by kernel_rfl) (by kernel_rfl) bel (by decide) hA, rfl, bel.frame _, fun h => by cases h⟩
theorem schemaEnds_holds : Rows.SchemaEndsSaid :=
 OpenClaim.holds_of_wide 7 Try.f7 rfl rfl rfl rfl rfl rfl rfl ⟨rfl, rfl, rfl, rfl, rfl⟩ rfl rfl rfl rfl rfl (by kernel_rfl) Try.func7 (by kernel_rfl)
  (of_decide_eq_true (by kernel_rfl)) (by unfold Func.isWrapper; first | (rw [if_pos (by decide +kernel)]; kernel_rfl) | (rw [if_neg (by decide +kernel)]; exact ⟨rfl, rfl⟩))
  (fun os started H enc _ => schemaEnds_lifted os started H enc)
#print axioms schemaEnds_holds
end
end Go.Proofs.Ytpllhhaeclnngaa.Ev
