/- The reserved words, sorted. -/
import Derived.Test.YtedemfmafdilmaaDoorL8
namespace Go.Proofs.YtedemfmafdilmaaDoor.Ev
set_option maxRecDepth 100000
set_option linter.unusedSimpArgs false
set_option linter.unusedVariables false
variable {R : FRes → Heap → Prop} {H : Heap}

def valsEq : List Value → List (List UInt8) → Bool
  | [], [] => true
  | .string s :: l, w :: ws => s.data.toList == w && valsEq l ws
  | _, _ => false
theorem of_valsEq : ∀ {l : List Value} {ws : List (List UInt8)}, valsEq l ws = true → l = strV ws
  | [], [], _ => rfl
  | [], w :: ws, h => by simp [valsEq] at h
  | v :: l, [], h => by cases v <;> simp [valsEq] at h
  | v :: l, w :: ws, h => by
    cases v <;> simp only [valsEq, Bool.and_eq_true, beq_iff_eq] at h <;> first | (cases h; done) | skip
    rename_i s
    have := of_valsEq h.2
    rw [this, ← h.1]
    rfl

def rowIs (o : AObj) (u : Nat) (wr : Bool) (ws : List (List UInt8)) : Bool :=
  match o with
  | .row cs u' wr' => u' == u && wr' == wr && valsEq cs ws
  | _ => false
theorem of_rowIs {o : AObj} {u : Nat} {wr : Bool} {ws : List (List UInt8)} (h : rowIs o u wr ws = true) : o = .row (strV ws) u wr := by
  unfold rowIs at h
  split at h
  · simp only [Bool.and_eq_true, beq_iff_eq] at h
    obtain ⟨⟨rfl, rfl⟩, h⟩ := h
    rw [of_valsEq h]
  · cases h

def isWords : Option (FRes × Heap) → Bool
  | some (.ret (.slice (some ⟨b, 0, none⟩) 29 29), r0 :: r1 :: g) => rowIs r0 0 false wordsL && rowIs r1 0 false signsL && decide (2 ≤ b) && rowIs (hget g (b - 2)) 1 true wordsL
  | _ => false
theorem of_isWords {x : Option (FRes × Heap)} (h : isWords x = true) : ∃ k g, x = some (.ret (.slice (some ⟨2 + k, 0, none⟩) 29 29), H0 ++ g) ∧ hget g k = .row (strV wordsL) 1 true := by
  unfold isWords at h
  split at h
  · rename_i b r0 r1 g
    simp only [Bool.and_eq_true, decide_eq_true_eq] at h
    obtain ⟨⟨⟨h1, h2⟩, h3⟩, h4⟩ := h
    refine ⟨b - 2, g, ?_, of_rowIs h4⟩
    rw [of_rowIs h1, of_rowIs h2, show 2 + (b - 2) = b by omega]
    rfl
  · cases h

theorem reserved_ev : isWords (evalFn Tab 64 21 [] H0) = true := by kernel_rfl

theorem reserved_s (hH : On0 H) (h : R (.ret (.slice (some ⟨H.length, 0, none⟩) 29 29)) (H ++ [.row (strV wordsL) 1 true])) : WD T 21 [] H R := by
  obtain ⟨k, g, he, hg⟩ := of_isWords reserved_ev
  refine WD.frame1 hH globs H0_rows (by simp) (strV_closed _ _) (WD.gc1 (WD.ev follows table_ok he ⟨_, _, _, _, _, g, k, rfl, rfl, hget_some hg rfl, strV_closed _ _, ?_, rfl, rfl⟩)) h
  exact VS.sl (n := H0.length) (i := 0) rfl

end Go.Proofs.YtedemfmafdilmaaDoor.Ev
