/- Each word stands at its place and is by itself just that word: the plain law. -/
import Derived.Test.YtedemfmafdilmaaDoorN1
import Derived.Test.YtedemfmafdilmaaDoorR5
namespace Go.Proofs.YtedemfmafdilmaaDoor.Ev
set_option linter.unusedSimpArgs false
set_option linter.unusedVariables false

/-- Is a text blanks and remarks? -/
def blkB : Bool → List UInt8 → Bool → Bool
  | r, [], e => !r || e
  | true, b :: l, e => blkB (!(b.toNat == 10)) l e
  | false, b :: l, e => if b.toNat = 35 then blkB true l e else if blankQ b = true then blkB false l e else false

theorem blk_some : ∀ (r : Bool) (l : List UInt8), skN r l < l.length → blkB r (l.take (skN r l)) false = true ∧ skN false (l.drop (skN r l)) = 0
  | _, [], h => by simp at h
  | true, b :: l, h => by
    simp only [skN, List.length_cons] at h
    obtain ⟨h1, h2⟩ := blk_some (!(b.toNat == 10)) l (by omega)
    simp only [skN]
    rw [Nat.add_comm 1, List.take_succ_cons, List.drop_succ_cons, blkB]
    exact ⟨h1, h2⟩
  | false, b :: l, h => by
    rw [skN] at h ⊢
    split at h
    · rename_i hb
      rw [if_pos hb]
      simp only [List.length_cons] at h
      obtain ⟨h1, h2⟩ := blk_some true l (by omega)
      rw [Nat.add_comm 1, List.take_succ_cons, List.drop_succ_cons, blkB, if_pos hb]
      exact ⟨h1, h2⟩
    · rename_i hb
      rw [if_neg hb]
      split at h
      · rename_i hq
        rw [if_pos hq]
        simp only [List.length_cons] at h
        obtain ⟨h1, h2⟩ := blk_some false l (by omega)
        rw [Nat.add_comm 1, List.take_succ_cons, List.drop_succ_cons, blkB, if_neg hb, if_pos hq]
        exact ⟨h1, h2⟩
      · rename_i hq
        rw [if_neg hq]
        refine ⟨rfl, ?_⟩
        rw [List.drop_zero, skN, if_neg hb, if_neg hq]

theorem blk_all : ∀ (r : Bool) (l : List UInt8), skN r l = l.length → blkB r l true = true
  | r, [], _ => by simp [blkB]
  | true, b :: l, h => by
    simp only [skN, List.length_cons] at h
    rw [blkB]
    exact blk_all _ l (by omega)
  | false, b :: l, h => by
    rw [skN] at h
    rw [blkB]
    simp only [List.length_cons] at h
    split at h
    · rename_i hb
      rw [if_pos hb]
      exact blk_all true l (by omega)
    · rename_i hb
      rw [if_neg hb]
      split at h
      · rename_i hq
        rw [if_pos hq]
        exact blk_all false l (by omega)
      · omega

/-- Places rise. -/
theorem adv_lt : ∀ (l : List UInt8) (p : Nat × Nat), l ≠ [] → p.1 < (adv p l).1 ∨ (p.1 = (adv p l).1 ∧ p.2 < (adv p l).2)
  | [], p, h => absurd rfl h
  | [b], p, _ => by
    by_cases hb : b.toNat = 10
    · left; simp [adv, hb]
    · right; simp [adv, hb]
  | b :: c :: l, p, _ => by
    by_cases hb : b.toNat = 10
    · have := adv_lt (c :: l) (p.1 + 1, 1) (by simp)
      rw [adv, if_pos hb]
      simp only at this
      omega
    · have := adv_lt (c :: l) (p.1, p.2 + 1) (by simp)
      rw [adv, if_neg hb]
      simp only at this
      omega

theorem isSgn_plain {c : UInt8} (h : isSgn c = true) : partQ c = false := by
  simp only [isSgn, List.contains_iff_mem, List.mem_cons, List.not_mem_nil, or_false] at h
  rcases h with rfl | rfl | rfl | rfl | rfl | rfl | rfl | rfl | rfl | rfl | rfl | rfl | rfl | rfl | rfl <;> decide

/-- A word by itself. -/
theorem tok_self {rest : List UInt8} {k : Int} {m v : Nat} (h : tok rest = .ok (k, m, v)) (hs : skN false rest = 0) : tok (rest.take m) = .ok (k, m, v) ∧ skN false (rest.take m) = 0 ∧ (rest.take m).length = m := by
  have hm := tok_pos h
  have hlen : (rest.take m).length = m := by rw [List.length_take]; omega
  have hsk : skN false (rest.take m) = 0 := by
    cases rest with
    | nil => simp [skN]
    | cons a l =>
      cases m with
      | zero => exact absurd rfl hm.1
      | succ m =>
        rw [skN] at hs
        rw [List.take_succ_cons, skN]
        split at hs
        · omega
        · rename_i hb
          rw [if_neg hb]
          split at hs
          · omega
          · rename_i hq
            rw [if_neg hq]
  refine ⟨?_, hsk, hlen⟩
  have htw := takeWhile_le partQ rest
  have htk := take_takeWhile partQ rest
  unfold tok at h
  simp only at h
  by_cases h0 : 0 < (rest.takeWhile partQ).length
  · rw [if_pos h0] at h
    have hmm : m = (rest.takeWhile partQ).length := by
      split at h
      · split at h
        · cases h; rfl
        · cases h
      · split at h
        · cases h; rfl
        · split at h
          · cases h; rfl
          · cases h
    have hall : ∀ b ∈ rest.take m, partQ b = true := fun b hb => all_takeWhile partQ rest b (by rw [hmm, htk] at hb; exact hb)
    have hne : rest.take m ≠ [] := fun q => by rw [q] at hlen; simp at hlen; omega
    have hhd : (rest.take m).headD 0 = rest.headD 0 := by
      cases rest with
      | nil => simp at h0
      | cons a l =>
        cases m with
        | zero => exact absurd rfl hm.1
        | succ m => rfl
    rw [tok_parts hne hall, hhd, hlen]
    rw [← hmm] at h
    exact h
  · rw [if_neg h0] at h
    split at h
    · cases h
    · rename_i hsn
      obtain ⟨rfl, rfl, rfl⟩ : k = 4 ∧ m = signN rest ∧ v = 0 := by cases h; exact ⟨rfl, rfl, rfl⟩
      match rest, hm with
      | c :: t, hm =>
        by_cases htwo : (c :: t).take 2 = [61, 61] ∨ (c :: t).take 2 = [33, 61] ∨ (c :: t).take 2 = [60, 61]
        · rw [signN_two htwo]
          rcases htwo with q | q | q <;> rw [q] <;> rfl
        · have h1 := signN_one htwo
          rw [h1] at hsn ⊢
          by_cases hc : isSgn c = true
          · rw [if_pos hc]
            have hp := isSgn_plain hc
            have e : signN [c] = 1 := by
              rw [signN_one (by simp), if_pos hc]
            show tok [c] = _
            unfold tok
            simp [List.takeWhile_cons, hp, e]
          · rw [if_neg hc] at hsn
            exact absurd rfl hsn

end Go.Proofs.YtedemfmafdilmaaDoor.Ev
