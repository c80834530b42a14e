/- How the words follow one another. -/
import Derived.Test.YtedemfmafdilmaaDoorS2
namespace Go.Proofs.YtedemfmafdilmaaDoor.Ev
set_option maxRecDepth 100000
set_option linter.unusedSimpArgs false
set_option linter.unusedVariables false

theorem adv_col : ∀ (l : List UInt8) (p : Nat × Nat), 1 ≤ p.2 → 1 ≤ (adv p l).2 ∧ (adv p l).2 ≤ p.2 + l.length
  | [], p, h => by simp [adv]; exact h
  | b :: l, p, h => by
    by_cases hb : b.toNat = 10
    · have := adv_col l (p.1 + 1, 1) (by simp)
      rw [adv, if_pos hb]
      simp only [List.length_cons] at this ⊢
      omega
    · have := adv_col l (p.1, p.2 + 1) (by simp)
      rw [adv, if_neg hb]
      simp only [List.length_cons] at this ⊢
      omega

theorem adv_plain : ∀ (l : List UInt8) (p : Nat × Nat), (∀ b ∈ l, ¬ b.toNat = 10) → adv p l = (p.1, p.2 + l.length)
  | [], p, _ => rfl
  | b :: l, p, h => by
    rw [adv, if_neg (h b (by simp)), adv_plain l _ fun c hc => h c (by simp [hc])]
    simp only [List.length_cons]
    rw [Nat.add_assoc, Nat.add_comm 1]

theorem tok_line {rest : List UInt8} {k : Int} {m v : Nat} (h : tok rest = .ok (k, m, v)) : ∀ b ∈ rest.take m, ¬ b.toNat = 10 := by
  have hm := tok_pos h
  have htk := take_takeWhile partQ rest
  unfold tok at h
  simp only at h
  by_cases h0 : 0 < (rest.takeWhile partQ).length
  · rw [if_pos h0] at h
    have hmm : m = (rest.takeWhile partQ).length := by
      split at h
      · split at h
        · cases h; rfl
        · cases h
      · split at h
        · cases h; rfl
        · split at h
          · cases h; rfl
          · cases h
    intro b hb
    rw [hmm, htk] at hb
    have := all_takeWhile partQ rest b hb
    simp [partQ, isPartB] at this
    omega
  · rw [if_neg h0] at h
    split at h
    · cases h
    · obtain ⟨rfl, rfl, rfl⟩ : k = 4 ∧ m = signN rest ∧ v = 0 := by cases h; exact ⟨rfl, rfl, rfl⟩
      intro b hb hb10
      have hb' : b = 10 := UInt8.toNat_inj.1 hb10
      subst hb'
      unfold signN at hb
      split at hb
      · rename_i s hs
        have h1 := List.find?_some hs
        have h2 := List.mem_of_find?_eq_some hs
        have h3 := List.prefix_iff_eq_take.1 (List.isPrefixOf_iff_prefix.1 h1)
        rw [← h3] at hb
        exact signs_no10 s h2 hb
      · simp at hb

theorem lexT_one {s : List UInt8} {k : Int} {v : Nat} (hne : s ≠ []) (hsk : skN false s = 0) (ht : tok s = .ok (k, s.length, v)) (hl : s.length ≤ 65536) : lexT s = ([⟨k, s, v, (1, 1)⟩], (0, 0, 0)) := by
  have e : lexL s (1, 1) = ([⟨k, s, v, (1, 1)⟩], (0, 0, 0)) := by
    rw [lexL_R, hsk, List.drop_zero, List.take_zero, lexR_ok hne ht, List.take_length, List.drop_length, lexL_end rfl]
    rfl
  rw [lexT, if_pos hl, e]
  rfl

/-- The first of the words that are left. -/
theorem lexL_cons {text : List UInt8} {pos : Nat} {t : Tk} {l : List Tk} (hpos : pos ≤ text.length) (h : (lexL (text.drop pos) (adv (1, 1) (text.take pos))).1 = t :: l) :
    ∃ n m, n = skN false (text.drop pos) ∧ 0 < m ∧ pos + n + m ≤ text.length ∧ skN false (text.drop (pos + n)) = 0 ∧ tok (text.drop (pos + n)) = .ok (t.kind, m, t.val) ∧ t.text = (text.drop (pos + n)).take m ∧ t.pos = adv (1, 1) (text.take (pos + n)) ∧
      blkB false ((text.drop pos).take n) false = true ∧ (lexL (text.drop (pos + n + m)) (adv (1, 1) (text.take (pos + n + m)))).1 = l ∧
      (lexL (text.drop (pos + n + m)) (adv (1, 1) (text.take (pos + n + m)))).2 = (lexL (text.drop pos) (adv (1, 1) (text.take pos))).2 := by
  have hsk := sk_le false (text.drop pos)
  have hdl : (text.drop pos).length = text.length - pos := List.length_drop
  have hR := lexL_R (text.drop pos) (adv (1, 1) (text.take pos))
  rw [List.drop_drop, adv_from] at hR
  rw [hR] at h ⊢
  unfold lexR at h ⊢
  split at h
  · cases h
  · rename_i hne
    have hlt : skN false (text.drop pos) < (text.drop pos).length := by
      rw [List.drop_eq_nil_iff] at hne
      omega
    obtain ⟨b1, b2⟩ := blk_some false _ hlt
    rw [List.drop_drop] at b2
    split at h
    · cases h
    · rename_i k m v ht
      simp only [List.cons.injEq] at h
      obtain ⟨rfl, h⟩ := h
      have hm := tok_pos ht
      rw [List.length_drop] at hm
      refine ⟨_, m, rfl, by omega, by omega, b2, ht, rfl, rfl, b1, ?_, ?_⟩
      · rw [← h, List.drop_drop, adv_from]
      · simp only [if_neg hne, List.drop_drop, adv_from]

theorem lexL_nil {text : List UInt8} {pos : Nat} (hpos : pos ≤ text.length) (h : (lexL (text.drop pos) (adv (1, 1) (text.take pos))).1 = []) (hf : (lexL (text.drop pos) (adv (1, 1) (text.take pos))).2.1 = 0) :
    blkB false (text.drop pos) true = true := by
  have hsk := sk_le false (text.drop pos)
  refine blk_all false _ ?_
  rw [lexL_R, List.drop_drop, adv_from] at h hf
  unfold lexR at h hf
  split at h
  · rename_i he
    rw [List.drop_eq_nil_iff] at he
    rw [List.length_drop] at hsk ⊢
    omega
  · rename_i hne
    rw [if_neg hne] at hf
    cases ht : tok (text.drop (pos + skN false (text.drop pos))) with
    | error c =>
      rw [ht] at hf
      exact absurd hf (tok_code ht)
    | ok x =>
      obtain ⟨k, m, v⟩ := x
      rw [ht] at h
      cases h

end Go.Proofs.YtedemfmafdilmaaDoor.Ev
