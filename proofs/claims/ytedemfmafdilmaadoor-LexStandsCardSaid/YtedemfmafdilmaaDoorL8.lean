/- What the laws ask first. -/
import Derived.Test.YtedemfmafdilmaaDoorL7
namespace Go.Proofs.YtedemfmafdilmaaDoor.Ev
set_option maxRecDepth 100000
set_option linter.unusedSimpArgs false
set_option linter.unusedVariables false
variable {R : FRes → Heap → Prop} {H : Heap}

def isTrue : Option (FRes × Heap) → Bool
  | some (.ret (.bool true), _) => true
  | _ => false
theorem of_isTrue {x : Option (FRes × Heap)} (h : isTrue x = true) : ∃ H1, x = some (.ret (.bool true), H1) := by
  unfold isTrue at h
  split at h
  · exact ⟨_, rfl⟩
  · cases h

theorem live_ev : isTrue (evalFn Tab 64 9 [] H0) = true := by kernel_rfl

theorem strV_closed (l : List (List UInt8)) (n : Nat) : ∀ v ∈ strV l, Scoped n v := by
  intro v hv
  simp only [strV, List.mem_map] at hv
  obtain ⟨s, _, rfl⟩ := hv
  exact .closed rfl

theorem H0_rows : ∀ o ∈ H0, ∃ cs, o = .row cs 0 false ∧ ∀ v ∈ cs, Scoped H0.length v := by
  intro o ho
  simp only [H0, List.mem_cons, List.not_mem_nil, or_false] at ho
  rcases ho with rfl | rfl
  · exact ⟨_, rfl, strV_closed _ _⟩
  · exact ⟨_, rfl, strV_closed _ _⟩

/-- The heap begins with the laid variables. -/
def On0 (H : Heap) : Prop := ∃ g, H = H0 ++ g
theorem On0.gh (h : On0 H) : GH H := by
  obtain ⟨g, rfl⟩ := h
  exact ⟨rfl, rfl, by simp [H0]⟩
theorem On0.app (h : On0 H) (G : Heap) : On0 (H ++ G) := by
  obtain ⟨g, rfl⟩ := h
  exact ⟨g ++ G, by simp⟩
theorem on0 : On0 H0 := ⟨[], by simp⟩

theorem globs : T.G ≤ H0.length := by
  have : T.G = 2 := by unfold T; kernel_rfl
  rw [this]
  exact Nat.le_refl _

theorem live_s (hH : On0 H) (h : R (.ret (.bool true)) H) : WD T 9 [] H R := by
  obtain ⟨H1, he⟩ := of_isTrue live_ev
  exact WD.frame0 hH globs H0_rows (by simp) .bool (WD.ev follows table_ok he rfl) h

end Go.Proofs.YtedemfmafdilmaaDoor.Ev
