/- The laid variables of the seat: what the condition gives a call, and a world that meets it. Conditions: none. -/
import Derived.Test.YtedemfmafdilmaaDoorRows
import Derived.Test.YtedemfmafdilmaaDoorEvV
import Derived.Test.YtedemfmafdilmaaDoorEvTab
import Derived.ChangeSame
import Derived.ChangeVars
import Derived.JoinedOf
import Derived.RowKit
import Derived.RowKitTokens
import Derived.LaidLaws
import Derived.LaidHandle
import Derived.MakeChecks
import Derived.Stop.Joined
namespace Go.Proofs.YtedemfmafdilmaaDoor.Ev
open Go.ChangeShapes Go.WideShapes Go.RowKit

theorem mapM_some {α β : Type} {f : α → Option β} : ∀ {l : List α} {xs : List β}, l.mapM f = some xs → xs.length = l.length ∧ ∀ (i : Nat) (x : α), l[i]? = some x → ∃ y, xs[i]? = some y ∧ f x = some y
  | [], xs, h => by
    simp at h
    subst h
    exact ⟨rfl, fun i x hx => by simp at hx⟩
  | a :: l, xs, h => by
    rw [List.mapM_cons] at h
    simp only [Option.bind_eq_bind, Option.bind_eq_some_iff, Option.pure_def, Option.some.injEq] at h
    obtain ⟨y, hy, ys, hys, rfl⟩ := h
    obtain ⟨h1, h2⟩ := mapM_some hys
    refine ⟨by simp [h1], fun i x hx => ?_⟩
    cases i with
    | zero =>
      simp at hx
      subst hx
      exact ⟨y, rfl, hy⟩
    | succ i =>
      simp at hx
      simpa using h2 i x hx

theorem strs_of_trod {H : Type} {enc : TypeId × Value → H} {P : Program} {w : World} {base : Nat} {sp : Nat → Bool} {held : Bool} {fuel : Nat} {t e : TypeId} {n : Nat} {cs : List Value} {l : List (List UInt8)} {p : List MemPlace}
    (ht : P.underlying t = some (.array n e)) (he : P.underlying e = some .string) (hc : P.cellsOf e = 1) (hct : P.cellsOf t = n) (hl : l.length = n)
    (h : DataW.trod enc P w base sp held fuel t cs = some (.agg (l.map fun s => .lit (.string s)), p)) : cs = l.map fun s => Value.string ⟨s.toArray⟩ := by
  cases fuel with
  | zero => simp [DataW.trod] at h
  | succ fuel =>
    simp only [DataW.trod, ht, hct, hc] at h
    split at h
    · rename_i hcs
      simp only [Option.map_eq_some_iff] at h
      obtain ⟨xs, hxs, hx⟩ := h
      obtain ⟨h1, h2⟩ := mapM_some hxs
      injection hx with hx1 hx2
      injection hx1 with hx1
      refine List.ext_getElem? fun i => ?_
      by_cases hi : i < n
      · obtain ⟨y, hy, hf⟩ := h2 i i (by simp [hi])
        have hci : i < cs.length := by omega
        have e1 : (cs.drop (i * 1)).take 1 = [cs[i]] := by
          rw [Nat.mul_one, List.drop_eq_getElem_cons hci]
          rfl
        rw [e1] at hf
        have hli : i < l.length := by omega
        have e2 : y.1 = .lit (.string l[i]) := by
          have h3 : (xs.map (·.1))[i]? = (l.map fun s => (DataW.lit (.string s) : DataW H))[i]? := by rw [hx1]
          rw [List.getElem?_map, List.getElem?_map, hy, List.getElem?_eq_getElem hli] at h3
          simpa using h3
        have e3 : cs[i] = .string ⟨l[i].toArray⟩ := by
          cases fuel with
          | zero => simp [DataW.trod] at hf
          | succ fuel =>
            generalize cs[i] = c at hf
            cases c <;> simp [DataW.trod, he] at hf
            rename_i s
            obtain ⟨_, hy2⟩ := hf
            subst hy2
            simp at e2
            rw [← e2]
        rw [List.getElem?_eq_getElem hci, List.getElem?_map, List.getElem?_eq_getElem hli, e3]
        rfl
      · rw [List.getElem?_eq_none (by omega), List.getElem?_eq_none (by simp; omega)]
    · cases h

def strD : DataW Unit → List UInt8
  | .lit (.string l) => l
  | _ => []
def strsD : DataW Unit → List (List UInt8)
  | .agg l => l.map strD
  | _ => []
def wordsL : List (List UInt8) := strsD Rows.laid_turnout_lex_words
def signsL : List (List UInt8) := strsD Rows.laid_turnout_lex_signs
def strV (l : List (List UInt8)) : List Value := l.map fun s => .string ⟨s.toArray⟩
/-- The heap that a law begins with: the two laid variables, to be read alone. -/
def H0 : Heap := [.row (strV wordsL) 0 false, .row (strV signsL) 0 false]
def ρ0 : Nat → Place := fun b => ⟨b, 0, 0⟩

abbrev laidL : List (String × DataW Unit) := [("turnout/lex.words", Rows.laid_turnout_lex_words), ("turnout/lex.signs", Rows.laid_turnout_lex_signs)]

theorem words_named : Tryd.prog.globalNamed "turnout/lex.words" = some 0 := by kernel_rfl
theorem signs_named : Tryd.prog.globalNamed "turnout/lex.signs" = some 1 := by kernel_rfl
theorem words_type : (Tryd.prog.globals[0]?).map (·.type) = some 72 := by kernel_rfl
theorem signs_type : (Tryd.prog.globals[1]?).map (·.type) = some 86 := by kernel_rfl

theorem cells_of_var {P : Program} {W : World} {n : String} {g : Nat} {cs : Array Value} (hg : P.globalNamed n = some g) (h : W.var? P n = some cs) : ∃ t fr, W.heap[g]? = some (.cells cs t fr) := by
  simp only [World.var?, hg, Option.bind_some] at h
  split at h
  · rename_i c t fr hc
    cases h
    exact ⟨t, fr, hc⟩
  · cases h

theorem laidMetH_of_noHandle {P : Program} {laid : List (String × DataW Unit)} {w : World} (h : (laid.filter fun x => x.2.handleName?.isSome).isEmpty = true) : laidMetH P laid w ↔ laidMet P laid w := by
  unfold laidMetH
  split
  · exact Iff.rfl
  · rename_i e
    rw [e] at h
    cases h

theorem row_of_laid {W : World} {g : Nat} {cs : Array Value} {l : List (List UInt8)} {t : TypeId} {fr : Nat × Nat} (h : W.heap[g]? = some (.cells cs t fr)) (hl : cs.toList = strV l) (n : Nat) (ρ : Nat → Place) (hρ : ρ g = ⟨g, 0, 0⟩) : OR n ρ W g (.row (strV l) 0 false) := by
  refine ⟨cs, t, fr, by rw [hρ]; exact h, fun i v hv => ?_, fun h => by cases h⟩
  refine ⟨v, ?_, ?_⟩
  · rw [hρ, Nat.zero_add, ← Array.getElem?_toList, hl]
    exact hv
  · simp only [strV, List.getElem?_map, Option.map_eq_some_iff] at hv
    obtain ⟨s, _, rfl⟩ := hv
    exact .string _

theorem rel_of_laid {W : World} (h : laidMetH Tryd.prog laidL W) : Rel 2 ρ0 H0 W := by
  have h' : laidMet Tryd.prog laidL W := by
    exact (laidMetH_of_noHandle (by kernel_rfl)).1 h
  obtain ⟨ps, ⟨g, t, cs, fuel, p, q, hg, ht, hvar, hd, ⟨g2, t2, cs2, fuel2, p2, q2, hg2, ht2, hvar2, hd2, _, _⟩, _⟩, _⟩ := h'
  obtain rfl := Option.some.inj (words_named.symm.trans hg)
  obtain rfl := Option.some.inj (words_type.symm.trans ht)
  obtain rfl := Option.some.inj (signs_named.symm.trans hg2)
  obtain rfl := Option.some.inj (signs_type.symm.trans ht2)
  have e1 : cs.toList = strV wordsL := strs_of_trod (n := 29) (e := 9) (l := wordsL) (by kernel_rfl) (by kernel_rfl) (by kernel_rfl) (by kernel_rfl) rfl hd
  have e2 : cs2.toList = strV signsL := strs_of_trod (n := 18) (e := 9) (l := signsL) (by kernel_rfl) (by kernel_rfl) (by kernel_rfl) (by kernel_rfl) rfl hd2
  obtain ⟨t1, f1, c1⟩ := cells_of_var words_named hvar
  obtain ⟨t2, f2, c2⟩ := cells_of_var signs_named hvar2
  refine ⟨fun b o ho => ?_, fun b c o u hb hc hne hw hu => ?_, fun g _ => rfl, by simp [H0]⟩
  · match b, ho with
    | 0, ho => cases ho; exact row_of_laid c1 e1 _ _ rfl
    | 1, ho => cases ho; exact row_of_laid c2 e2 _ _ rfl
  · match b, hb with
    | 0, hb => cases hb; cases hw
    | 1, hb => cases hb; cases hw

theorem H0_ro : ∀ o ∈ H0, o.wrt = false := by
  intro o ho
  simp only [H0, List.mem_cons, List.not_mem_nil, or_false] at ho
  rcases ho with rfl | rfl <;> rfl

/-- A world that meets the condition: the settled one, the variables' cells laid. -/
noncomputable def laidWorld (os : Os) : World :=
  let w0 := World.holding Tryd.prog os ⟨#[], #[], []⟩
  { w0 with heap := (w0.heap.modify 0 fun
      | .cells _ t frozen => .cells (strV wordsL).toArray t frozen
      | o => o).modify 1 fun
      | .cells _ t frozen => .cells (strV signsL).toArray t frozen
      | o => o }
theorem laidWorld_met (os : Os) (args : Array Value) : laidMetH Tryd.prog laidL ((laidWorld os).forCall (fun _ _ => 0) ⟨#[], args, []⟩).memory := by
  exact (laidMetH_of_noHandle (by kernel_rfl)).2 (laidMet_of_run' 8 (by kernel_rfl) (by kernel_rfl))

end Go.Proofs.YtedemfmafdilmaaDoor.Ev
