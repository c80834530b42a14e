/- Texts that are one word. -/
import Derived.Test.YtedemfmafdilmaaDoorL7
namespace Go.Proofs.YtedemfmafdilmaaDoor.Ev
set_option linter.unusedSimpArgs false
set_option linter.unusedVariables false

theorem part_plain {b : UInt8} (h : partQ b = true) : ¬ b.toNat = 35 ∧ blankQ b = false := by
  simp [partQ, isPartB] at h
  refine ⟨by omega, ?_⟩
  simp [blankQ, isBlankB]
  omega

theorem lexT_single {s : List UInt8} {k : Int} {v : Nat} (hne : s ≠ []) (hall : ∀ b ∈ s, partQ b = true) (ht : tok s = .ok (k, s.length, v)) (hl : s.length ≤ 65536) : lexT s = ([⟨k, s, v, (1, 1)⟩], (0, 0, 0)) := by
  have hsk : skN false s = 0 := by
    cases s with
    | nil => rfl
    | cons a s =>
      obtain ⟨h1, h2⟩ := part_plain (hall a (by simp))
      simp only [skN, h1, if_false, h2, Bool.false_eq_true]
  have e : lexL s (1, 1) = ([⟨k, s, v, (1, 1)⟩], (0, 0, 0)) := by
    rw [lexL_R, hsk, List.drop_zero, List.take_zero, lexR_ok hne ht, List.take_length, List.drop_length, lexL_end rfl]
    rfl
  rw [lexT, if_pos hl, e]
  rfl

theorem tok_parts {s : List UInt8} (hne : s ≠ []) (hall : ∀ b ∈ s, partQ b = true) : tok s =
    if digQ (s.headD 0) = true then (match numV s with | some v => .ok (3, s.length, v) | none => .error 61)
    else if wordsL.contains s = true then .ok (2, s.length, 0) else if nameB s = true then .ok (1, s.length, 0) else .error 60 := by
  have h1 := takeWhile_all partQ s hall
  have h2 : 0 < s.length := by cases s with | nil => exact absurd rfl hne | cons a s => simp
  unfold tok
  simp only [h1, h2, if_true, List.take_length]
  rfl

theorem words_plain : ∀ w ∈ wordsL, w ≠ [] ∧ (∀ b ∈ w, partQ b = true) ∧ digQ (w.headD 0) = false ∧ w.length ≤ 65536 := by
  have h : wordsL.all (fun w => !w.isEmpty && w.all partQ && !(digQ (w.headD 0)) && decide (w.length ≤ 65536)) = true := by kernel_rfl
  intro w hw
  have := List.all_eq_true.1 h w hw
  simp only [Bool.and_eq_true, Bool.not_eq_true', decide_eq_true_eq, List.all_eq_true, List.isEmpty_eq_false_iff] at this
  exact ⟨this.1.1.1, this.1.1.2, this.1.2, this.2⟩

theorem lexT_word {w : List UInt8} (hw : w ∈ wordsL) : lexT w = ([⟨2, w, 0, (1, 1)⟩], (0, 0, 0)) := by
  obtain ⟨h1, h2, h3, h4⟩ := words_plain w hw
  refine lexT_single h1 h2 ?_ h4
  rw [tok_parts h1 h2, h3, if_neg (by simp), if_pos (List.contains_iff_mem.2 hw)]

theorem nameB_word {w : List UInt8} (hw : w ∈ wordsL) : nameB w = false := by
  unfold nameB
  split
  · rw [List.contains_iff_mem.2 hw]; rfl
  · rfl

theorem lexT_name {s : List UInt8} (h : nameB s = true) : lexT s = ([⟨1, s, 0, (1, 1)⟩], (0, 0, 0)) := by
  have h0 := h
  unfold nameB at h
  split at h
  · rename_i hc
    obtain ⟨c1, c2, c3, c4⟩ := hc
    have hc : wordsL.contains s = false := by simpa using h
    have hne : s ≠ [] := fun q => by rw [q] at c1; simp at c1
    have hrest : ∀ b ∈ s, restQ b = true := fun b hb => by
      have := take_takeWhile restQ s
      rw [c4, List.take_length] at this
      rw [this] at hb
      exact all_takeWhile restQ s b hb
    have hall : ∀ b ∈ s, partQ b = true := fun b hb => by
      have := hrest b hb
      simp [restQ, isRestB] at this
      simp [partQ, isPartB]
      omega
    refine lexT_single hne hall ?_ (by omega)
    have hd : digQ (s.headD 0) = false := by
      cases s with
      | nil => exact absurd rfl hne
      | cons a s =>
        have : firstQ a = true := by
          by_cases ha : firstQ a = true
          · exact ha
          · simp [List.takeWhile_cons, ha] at c3
        simp [firstQ] at this
        simp [digQ]
        omega
    rw [tok_parts hne hall, hd, if_neg (by simp), hc, if_neg (by simp), if_pos h0]
  · cases h

theorem tok_kind1 {l : List UInt8} {m v : Nat} (h : tok l = .ok (1, m, v)) : nameB (l.take m) = true := by
  unfold tok at h
  simp only at h
  split at h
  · split at h
    · split at h
      · cases h
      · cases h
    · split at h
      · cases h
      · split at h
        · rename_i hn
          cases h
          exact hn
        · cases h
  · split at h
    · cases h
    · cases h

theorem name_of_lexT {s : List UInt8} {t : Tk} {l : List Tk} (h1 : (lexT s).1 = t :: l) (h2 : t.kind = 1) (h3 : t.text = s) : nameB s = true := by
  unfold lexT at h1
  split at h1
  · split at h1
    · simp only at h1
      rw [lexL_R] at h1
      unfold lexR at h1
      split at h1
      · cases h1
      · split at h1
        · cases h1
        · rename_i k m v ht
          simp only [List.cons.injEq] at h1
          obtain ⟨rfl, _⟩ := h1
          simp only at h2 h3
          subst h2
          rw [← h3]
          exact tok_kind1 ht
    · cases h1
  · cases h1

end Go.Proofs.YtedemfmafdilmaaDoor.Ev
