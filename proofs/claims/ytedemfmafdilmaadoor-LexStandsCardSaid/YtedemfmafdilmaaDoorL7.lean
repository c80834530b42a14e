/- Two texts with a line's end between have the words of both. -/
import Derived.Test.YtedemfmafdilmaaDoorL6
namespace Go.Proofs.YtedemfmafdilmaaDoor.Ev
set_option linter.unusedSimpArgs false
set_option linter.unusedVariables false

/-- What comes where no blank stands ahead. -/
def lexR (rest : List UInt8) (p : Nat × Nat) : List Tk × (Int × Int × Int) :=
  if rest = [] then ([], (0, 0, 0))
  else match tok rest with
    | .error c => ([], (c, (p.1 : Int), (p.2 : Int)))
    | .ok (k, m, v) => (⟨k, rest.take m, v, p⟩ :: (lexL (rest.drop m) (adv p (rest.take m))).1, (lexL (rest.drop m) (adv p (rest.take m))).2)

theorem lexL_R (l : List UInt8) (p : Nat × Nat) : lexL l p = lexR (l.drop (skN false l)) (adv p (l.take (skN false l))) := by
  unfold lexR
  by_cases h : l.drop (skN false l) = []
  · rw [if_pos h, lexL_end h]
  · rw [if_neg h]
    cases ht : tok (l.drop (skN false l)) with
    | error c => rw [lexL_err h ht]
    | ok x => obtain ⟨k, m, v⟩ := x; rw [lexL_ok h ht]

theorem sk_all : ∀ (r : Bool) (a b : List UInt8), skN r a = a.length → skN r (a ++ 10 :: b) = a.length + skN false (10 :: b)
  | false, [], b, _ => by simp
  | true, [], b, _ => by
    have : blankQ 10 = true := by decide
    simp [skN, this]
  | true, c :: a, b, h => by
    simp only [skN, List.length_cons] at h
    have := sk_all (!(c.toNat == 10)) a b (by omega)
    simp only [List.cons_append, skN, List.length_cons] at this ⊢
    omega
  | false, c :: a, b, h => by
    simp only [skN, List.length_cons] at h
    simp only [List.cons_append, List.length_cons]
    rw [skN]
    split at h
    · rename_i hc
      rw [if_pos hc, sk_all true a b (by omega)]
      omega
    · rename_i hc
      rw [if_neg hc]
      split at h
      · rename_i hb
        rw [if_pos hb, sk_all false a b (by omega)]
        omega
      · omega

theorem sk_some : ∀ (r : Bool) (a b : List UInt8), skN r a < a.length → skN r (a ++ b) = skN r a
  | _, [], b, h => by simp at h
  | true, c :: a, b, h => by
    simp only [skN, List.length_cons] at h
    have := sk_some (!(c.toNat == 10)) a b (by omega)
    simp only [List.cons_append, skN, this]
  | false, c :: a, b, h => by
    simp only [skN, List.length_cons] at h
    simp only [List.cons_append]
    rw [skN, skN]
    split at h
    · rename_i hc
      rw [if_pos hc, if_pos hc, sk_some true a b (by omega)]
    · rename_i hc
      rw [if_neg hc, if_neg hc]
      split at h
      · rename_i hb
        rw [if_pos hb, if_pos hb, sk_some false a b (by omega)]
      · rename_i hb
        rw [if_neg hb, if_neg hb]

theorem takeWhile_stop {α : Type} (q : α → Bool) (x : α) (b : List α) (hx : q x = false) : ∀ a : List α, (a ++ x :: b).takeWhile q = a.takeWhile q
  | [] => by simp [List.takeWhile_cons, hx]
  | c :: a => by
    simp only [List.cons_append, List.takeWhile_cons, takeWhile_stop q x b hx a]

theorem prefix_stop {s : List UInt8} {x : UInt8} (hx : x ∉ s) : ∀ (a b : List UInt8), s.isPrefixOf (a ++ x :: b) = s.isPrefixOf a := by
  induction s with
  | nil => intro a b; simp
  | cons c s ih =>
    intro a b
    have h1 : x ≠ c := fun q => hx (by rw [q]; simp)
    have h2 : x ∉ s := fun q => hx (by simp [q])
    cases a with
    | nil =>
      simp only [List.nil_append, List.isPrefixOf_cons_cons]
      have : (c == x) = false := by simpa using fun q : c = x => h1 q.symm
      rw [this]
      rfl
    | cons d a =>
      simp only [List.cons_append, List.isPrefixOf_cons_cons, ih h2 a b]

theorem signs_no10 : ∀ s ∈ signsL, (10 : UInt8) ∉ s := by
  have : signsL.all (fun s => !(s.contains 10)) = true := by rfl
  intro s hs h
  have := List.all_eq_true.1 this s hs
  simp at this
  exact this h

theorem find_congr {α : Type} {p q : α → Bool} : ∀ {l : List α}, (∀ x ∈ l, p x = q x) → l.find? p = l.find? q
  | [], _ => rfl
  | a :: l, h => by
    simp only [List.find?_cons, h a (by simp)]
    rw [find_congr fun x hx => h x (by simp [hx])]

theorem signN_stop (a b : List UInt8) : signN (a ++ 10 :: b) = signN a := by
  unfold signN
  rw [find_congr fun s hs => prefix_stop (signs_no10 s hs) a b]

theorem tok_stop {rest : List UInt8} (b : List UInt8) (h : rest ≠ []) : tok (rest ++ 10 :: b) = tok rest := by
  have hp : partQ 10 = false := by decide
  have h1 := takeWhile_le partQ rest
  unfold tok
  simp only [takeWhile_stop partQ 10 b hp rest, signN_stop]
  rw [List.take_append_of_le_length h1]
  cases rest with
  | nil => exact absurd rfl h
  | cons c rest => rfl

theorem lexR_ok {rest : List UInt8} {p : Nat × Nat} {k : Int} {m v : Nat} (h : rest ≠ []) (ht : tok rest = .ok (k, m, v)) :
    lexR rest p = (⟨k, rest.take m, v, p⟩ :: (lexL (rest.drop m) (adv p (rest.take m))).1, (lexL (rest.drop m) (adv p (rest.take m))).2) := by
  rw [lexR, if_neg h, ht]

theorem lexL_append : ∀ (n : Nat) (a b : List UInt8) (p : Nat × Nat), a.length ≤ n → (lexL a p).2.1 = 0 →
    lexL (a ++ 10 :: b) p = ((lexL a p).1 ++ (lexL (10 :: b) (adv p a)).1, (lexL (10 :: b) (adv p a)).2) := by
  intro n
  induction n with
  | zero =>
    intro a b p hn h
    obtain rfl : a = [] := List.eq_nil_of_length_eq_zero (by omega)
    rw [lexL_end (l := []) rfl]
    simp [adv]
  | succ n ih =>
    intro a b p hn h
    have hle := sk_le false a
    by_cases hs : skN false a = a.length
    · have hd : a.drop (skN false a) = [] := by rw [hs, List.drop_length]
      rw [lexL_end hd, lexL_R (a ++ 10 :: b), lexL_R (10 :: b), sk_all false a b hs]
      have e1 : (a ++ 10 :: b).drop (a.length + skN false (10 :: b)) = (10 :: b).drop (skN false (10 :: b)) := by rw [← List.drop_drop, List.drop_left]
      have e2 : adv p ((a ++ 10 :: b).take (a.length + skN false (10 :: b))) = adv (adv p a) ((10 :: b).take (skN false (10 :: b))) := by
        rw [List.take_add, List.take_left, List.drop_left, adv_append]
      rw [e1, e2]
      rfl
    · have hlt : skN false a < a.length := by omega
      have hne : a.drop (skN false a) ≠ [] := by rw [ne_eq, List.drop_eq_nil_iff]; omega
      have hsk := sk_some false a (10 :: b) hlt
      have e1 : (a ++ 10 :: b).drop (skN false a) = a.drop (skN false a) ++ 10 :: b := List.drop_append_of_le_length (by omega)
      have e2 : (a ++ 10 :: b).take (skN false a) = a.take (skN false a) := List.take_append_of_le_length (by omega)
      rw [lexL_R a] at h ⊢
      rw [lexL_R (a ++ 10 :: b), hsk, e1, e2]
      have e3 : adv p a = adv (adv p (a.take (skN false a))) (a.drop (skN false a)) := by rw [← adv_append, List.take_append_drop]
      rw [e3]
      have hlen : (a.drop (skN false a)).length ≤ a.length := by rw [List.length_drop]; omega
      generalize adv p (a.take (skN false a)) = q at *
      generalize a.drop (skN false a) = rest at *
      have hne2 : rest ++ 10 :: b ≠ [] := by simp
      cases ht : tok rest with
      | error c =>
        rw [lexR, if_neg hne, ht] at h
        exact absurd h (tok_code ht)
      | ok x =>
        obtain ⟨k, m, v⟩ := x
        have hm := tok_pos ht
        rw [lexR_ok hne ht] at h ⊢
        rw [lexR_ok hne2 (by rw [tok_stop b hne]; exact ht)]
        rw [List.take_append_of_le_length hm.2, List.drop_append_of_le_length hm.2]
        rw [ih (rest.drop m) b _ (by rw [List.length_drop]; omega) h]
        rw [← adv_append, List.take_append_drop]
        rfl

theorem lexL_line (b : List UInt8) (q : Nat × Nat) : lexL (10 :: b) q = lexL b (q.1 + 1, 1) := by
  have hb : blankQ 10 = true := by decide
  have e : skN false (10 :: b) = skN false b + 1 := by
    simp only [skN, show ¬ (10 : UInt8).toNat = 35 by decide, if_false, hb, if_true]
    omega
  rw [lexL_R (10 :: b), lexL_R b, e, List.drop_succ_cons, List.take_succ_cons, adv, if_pos (by decide)]

/-- A word so many lines further on. -/
def Tk.down (k : Nat) (t : Tk) : Tk := { t with pos := (t.pos.1 + k, t.pos.2) }

theorem adv_down (k : Nat) : ∀ (l : List UInt8) (p : Nat × Nat), adv (p.1 + k, p.2) l = ((adv p l).1 + k, (adv p l).2)
  | [], p => rfl
  | b :: l, p => by
    by_cases h : b.toNat = 10
    · have := adv_down k l (p.1 + 1, 1)
      simp only [adv, h, if_true] at this ⊢
      rw [← this, Nat.add_right_comm]
    · have := adv_down k l (p.1, p.2 + 1)
      simp only [adv, h, if_false] at this ⊢
      exact this

theorem lexL_down (k : Nat) : ∀ (n : Nat) (l : List UInt8) (p : Nat × Nat), l.length ≤ n → (lexL l (p.1 + k, p.2)).1 = (lexL l p).1.map (Tk.down k) ∧ (lexL l (p.1 + k, p.2)).2.1 = (lexL l p).2.1 := by
  intro n
  induction n with
  | zero =>
    intro l p hn
    obtain rfl : l = [] := List.eq_nil_of_length_eq_zero (by omega)
    rw [lexL_end (l := []) rfl, lexL_end (l := []) rfl]
    exact ⟨rfl, rfl⟩
  | succ n ih =>
    intro l p hn
    rw [lexL_R l p, lexL_R l (p.1 + k, p.2), adv_down]
    have hlen : (l.drop (skN false l)).length ≤ l.length := by rw [List.length_drop]; omega
    generalize adv p (l.take (skN false l)) = q
    generalize l.drop (skN false l) = rest at *
    by_cases h : rest = []
    · rw [lexR, lexR, if_pos h, if_pos h]
      exact ⟨rfl, rfl⟩
    · cases ht : tok rest with
      | error c =>
        rw [lexR, lexR, if_neg h, if_neg h, ht]
        exact ⟨rfl, rfl⟩
      | ok x =>
        obtain ⟨kk, m, v⟩ := x
        have hm := tok_pos ht
        rw [lexR_ok h ht, lexR_ok h ht, adv_down]
        obtain ⟨i1, i2⟩ := ih (rest.drop m) (adv q (rest.take m)) (by rw [List.length_drop]; omega)
        exact ⟨by simp only [i1, List.map_cons]; rfl, i2⟩

/-- Two texts with a line's end between. -/
theorem lexT_joins {a b : List UInt8} (ha : (lexT a).2.1 = 0) (hb : (lexT b).2.1 = 0) (hl : a.length + 1 + b.length ≤ 65536) :
    (lexT (a ++ 10 :: b)).2.1 = 0 ∧ (lexT (a ++ 10 :: b)).1 = (lexT a).1 ++ (lexT b).1.map (Tk.down (adv (1, 1) a).1) := by
  have hla : a.length ≤ 65536 := by omega
  have hlb : b.length ≤ 65536 := by omega
  have hlc : (a ++ 10 :: b).length ≤ 65536 := by simp; omega
  have fa : (lexL a (1, 1)).2.1 = 0 := by
    rw [lexT, if_pos hla] at ha
    split at ha
    · assumption
    · exact ha
  have fb : (lexL b (1, 1)).2.1 = 0 := by
    rw [lexT, if_pos hlb] at hb
    split at hb
    · assumption
    · exact hb
  have e := lexL_append a.length a b (1, 1) (Nat.le_refl _) fa
  rw [lexL_line] at e
  have hd := lexL_down (adv (1, 1) a).1 b.length b (1, 1) (Nat.le_refl _)
  rw [show ((1, 1) : Nat × Nat).1 + (adv (1, 1) a).1 = (adv (1, 1) a).1 + 1 by rw [Nat.add_comm]] at hd
  have fc : (lexL (a ++ 10 :: b) (1, 1)).2.1 = 0 := by rw [e]; exact hd.2.trans fb
  rw [lexT, lexT, lexT, if_pos hla, if_pos hlb, if_pos hlc, if_pos fa, if_pos fb, if_pos fc]
  exact ⟨rfl, by rw [e]; simp only [hd.1]⟩

end Go.Proofs.YtedemfmafdilmaaDoor.Ev
