/- LexStands: of any text, the words of the document stand where its text has them: each at its line and column, in its own bytes, with nothing but blanks and remarks between; and each word, read alone, is that word. Whatever the input, the law answers true. Conditions: the two listed variables of the package read as the program's text lays them. -/
import Derived.Test.YtedemfmafdilmaaDoorS5
import Derived.Test.YtedemfmafdilmaaDoorTie
import Derived.Test.YtedemfmafdilmaaDoorCards
import Derived.ProofKit
import Derived.OpenShut
import Derived.ShutString
import Derived.ChangeOld
import Derived.SizedLaws
import Derived.SevenTiedAt
namespace Go.Proofs.YtedemfmafdilmaaDoor.Ev
open Go.ChangeShapes Go.WideShapes Go.ChangeAt Go.RowKit
open Go.ChangeMaps (open_string shut_string)

theorem own : ownKnob Tryd.prog.godebug = none := by kernel_rfl

set_option maxRecDepth 100000 in
theorem lexStands_lifted (os : Os) (started : os.Started) (H : Type) (enc : TypeId × Value → H) :
    ReturnsInHanded {} Tryd.checked os 4 .any (fun w args => (Rows.lexStandsSpec.pre enc Tryd.prog Tryd.f4 [] false w args ∧ laidMetH Tryd.prog laidL w) ∧ sizedMet enc Tryd.prog Tryd.f4 (OpenSpec.ofChange Rows.lexStandsSpec) false w args)
      (Rows.lexStandsSpec.post enc Tryd.prog Tryd.f4 false true false false) := by
  refine returnsInHanded_of_change_and (C := Tryd.checked) (X := fun w _ => laidMetH Tryd.prog laidL w) (fun _ _ _ hh h => h.of_heap hh) own started (by kernel_rfl) Tryd.func4
    (ChangeSpec.witness_at (enc := enc) (C := Tryd.checked) (os := os) (X := fun w _ => laidMetH Tryd.prog laidL w) false (laidWorld os) #[.string ByteArray.empty] 8 rfl (by kernel_rfl) (by kernel_rfl) (by kernel_rfl) (by kernel_rfl) (by kernel_rfl) (laidWorld_met os _)) ?_
  intro W base args ds gs before hval0 hW _ hsz hL _
  have hval : ∀ (j : Nat) t v, Tryd.f4.params[j]? = some t → args[j]? = some v → Value.okWide Tryd.prog W .any base t v := hval0
  have hW' := hW
  obtain ⟨p, q, hA0, hV, rfl, hfz, hnd⟩ := hW
  have hA : DataW.TrodAll enc Tryd.prog W 0 (fun _ => true) true Tryd.f4.params.toList args.toList ds p := hA0
  rw [Tryd.params4] at hA hval
  obtain ⟨v0, vs0, d0, ds0, p0, q0, hargs, rfl, rfl, h0, r0⟩ := trodAll_cons hA
  obtain ⟨rfl, rfl, rfl⟩ := trodAll_nil r0
  obtain rfl : args = #[v0] := by cases args; simp_all
  obtain ⟨rfl, rfl⟩ := trodVars_none hV
  obtain ⟨a0, rfl, rfl, rfl, y0⟩ := open_string Tryd.underlying9 (hval 0 9 v0 rfl rfl) h0
  have hsz' : (DataW.weightsEach Tryd.prog (Tryd.f4.params.toList ++ Rows.lexStandsSpec.plain.varTypes Tryd.prog) ([DataW.lit (Lit.string a0.data.toList)] ++ [])).all (· ≤ reachBytes) = true := hsz
  rw [Tryd.params4] at hsz'
  have w0 : a0.size ≤ 140737488351232 := by
    have z := sized_string hsz' (j := 0) (t := 9) rfl rfl
    rw [Array.length_toList] at z
    exact z
  refine (wd_true t4 (H := H0) (stands_w (s := a0.data.toList) (by simpa [bs] using w0)) (rel_of_laid hL) (args' := #[.string a0]) (VL.cons' (.string _) VL.nil') H0_ro).mono fun e W' ⟨he, bel⟩ => ?_
  subst he
  exact ⟨_, rfl, _, _, _, [], _, [], hW', trodAll_mk1 (shut_bool Tryd.underlying4 _), trodAll_cons_mk (shut_string Tryd.underlying9 y0) trodAll_mk0, rfl, bel.frame _, fun h => by cases h⟩

theorem lexStands_holds : Rows.LexStandsSaid :=
  OpenClaim.holds_of_wide 4 Tryd.f4 rfl rfl rfl rfl rfl rfl rfl ⟨rfl, rfl, rfl, rfl, rfl⟩ rfl rfl rfl rfl rfl (by kernel_rfl) Tryd.func4 (by kernel_rfl)
    (of_decide_eq_true (by kernel_rfl)) (by unfold Func.isWrapper; first | (rw [if_pos (by decide +kernel)]; kernel_rfl) | (rw [if_neg (by decide +kernel)]; exact ⟨rfl, rfl⟩))
    (fun os started H enc _ => lexStands_lifted os started H enc)

theorem lexStands_card : Rows.LexStandsCardSaid :=
  Claim7.holds_tied_plain_at .later [] [.widerDeep, .data] true (true, "af44d569235a37a409b0e6fef227592d3eeda13ab14ac31fe215969754f49251") false
    lexStands_holds (fun _ h => by cases h) (by kernel_rfl) (fun _ h => by cases h) lexStands_row_tie rfl ⟨rfl, rfl⟩ (by kernel_rfl) rfl
    (fun f fn hf hfn => by
      obtain rfl : f = 4 := Option.some.inj ((show Tryd.prog.funcNamed "turnout/turnoutlaw06.LexStands" = some 4 by kernel_rfl).symm.trans hf) |>.symm
      obtain rfl : fn = Tryd.f4 := (Option.some.inj (Tryd.func4.symm.trans hfn)).symm
      exact ⟨by kernel_rfl, fun j t ht => by
        rw [Tryd.params4] at ht
        have h3 : t = 9 := by
          rcases j with _ | j
          · simpa using ht.symm
          · simp at ht
        subst h3
        exact (show Tryd.prog.wantsStandIn 9 = false by kernel_rfl)⟩)
    (by kernel_rfl)
#print axioms lexStands_card
end Go.Proofs.YtedemfmafdilmaaDoor.Ev
