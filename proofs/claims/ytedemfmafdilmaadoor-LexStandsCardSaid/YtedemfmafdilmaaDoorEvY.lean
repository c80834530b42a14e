/- Heaps and texts as lists: small laws for stepping. Conditions: none. -/
import Derived.Test.YtedemfmafdilmaaDoorEvX
namespace Go.Proofs.YtedemfmafdilmaaDoor.Ev


theorem bs_of (s : ByteArray) : bs s.data.toList = s := rfl
theorem bs_list (l : List UInt8) : (bs l).data.toList = l := rfl
theorem bs_size (l : List UInt8) : (bs l).size = l.length := rfl
theorem bs_inj {l m : List UInt8} (h : bs l = bs m) : l = m := by
  have := congrArg (fun s : ByteArray => s.data.toList) h
  simpa [bs] using this
theorem bs_append (l m : List UInt8) : bs l ++ bs m = bs (l ++ m) := by
  ext1
  simp [bs]
theorem bs_extract (l : List UInt8) (a b : Nat) : (bs l).extract a b = bs ((l.take b).drop a) := by
  ext1
  simp [bs, List.drop_take]
theorem bs_get (l : List UInt8) (i : Nat) : (bs l).get! i = l.getD i default := by
  simp [bs, ByteArray.get!, List.getD_eq_getElem?_getD, getElem!_def]
  cases l[i]? <;> rfl

theorem hget_last (H : Heap) (o : AObj) : hget (H ++ [o]) H.length = o := by simp [hget]
theorem hget_old {H G : Heap} {b : Nat} (h : b < H.length) : hget (H ++ G) b = hget H b := by simp [hget, List.getElem?_append, h]
theorem set_last (H : Heap) (o o' : AObj) : (H ++ [o]).set H.length o' = H ++ [o'] := by simp
theorem set_old {H G : Heap} {b : Nat} (h : b < H.length) (o : AObj) : (H ++ G).set b o = H.set b o ++ G := by simp [h]
theorem hget_set (H : Heap) (b : Nat) (o : AObj) (h : b < H.length) : hget (H.set b o) b = o := by simp [hget, h]
theorem hget_set_ne (H : Heap) {b c : Nat} (o : AObj) (h : b ≠ c) : hget (H.set b o) c = hget H c := by simp [hget, h]
theorem hget_lt {H : Heap} {b : Nat} {o : AObj} (h : hget H b = o) (ho : o.live = true) : b < H.length := by
  unfold hget at h
  split at h
  · rename_i x hx
    exact (List.getElem?_eq_some_iff.1 hx).1
  · subst h; cases ho

/-- A later heap: what stood stands. -/
def Ext (H H' : Heap) : Prop := ∃ g, H' = H ++ g
theorem Ext.refl (H : Heap) : Ext H H := ⟨[], by simp⟩
theorem Ext.trans {H H' H'' : Heap} (h : Ext H H') (k : Ext H' H'') : Ext H H'' := by
  obtain ⟨g, rfl⟩ := h
  obtain ⟨g', rfl⟩ := k
  exact ⟨g ++ g', by simp⟩
theorem Ext.add (H : Heap) (g : Heap) : Ext H (H ++ g) := ⟨g, rfl⟩
theorem Ext.get {H H' : Heap} (h : Ext H H') {b : Nat} (hb : b < H.length) : hget H' b = hget H b := by
  obtain ⟨g, rfl⟩ := h
  exact hget_old hb
theorem Ext.len {H H' : Heap} (h : Ext H H') : H.length ≤ H'.length := by
  obtain ⟨g, rfl⟩ := h
  simp

/-! Runes. -/
theorem decode_low {l : List UInt8} {i : Nat} {b : UInt8} (h : l[i]? = some b) (hb : b.toNat < 128) : Utf8.decode (bs l) i = (b.toNat, 1) := by
  have e : (bs l).get! (i + 0) = b := by rw [bs_get]; simp [h]
  unfold Utf8.decode
  simp only [e, hb, if_true]

theorem decode_high {l : List UInt8} {i : Nat} {b : UInt8} (h : l[i]? = some b) (hb : 128 ≤ b.toNat) :
    128 ≤ (Utf8.decode (bs l) i).1 ∧ 1 ≤ (Utf8.decode (bs l) i).2 ∧ ∀ j, j < (Utf8.decode (bs l) i).2 → ∃ c, l[i + j]? = some c ∧ 128 ≤ c.toNat := by
  have e : (bs l).get! (i + 0) = b := by rw [bs_get]; simp [h]
  have hc : ∀ k, (decide (i + k < (bs l).size) && ((bs l).get! (i + k)).toNat / 64 == 2) = true → ∃ c, l[i + k]? = some c ∧ 128 ≤ c.toNat := by
    intro k hk
    simp only [Bool.and_eq_true, beq_iff_eq, bs_size] at hk
    obtain ⟨h1, h2⟩ := hk
    have h1 : i + k < l.length := of_decide_eq_true h1
    refine ⟨l[i + k], by simp [h1], ?_⟩
    rw [bs_get] at h2
    simp [List.getD_eq_getElem?_getD, h1] at h2
    omega
  have h0 : ∃ c, l[i + 0]? = some c ∧ 128 ≤ c.toNat := ⟨b, h, hb⟩
  unfold Utf8.decode
  simp only [e]
  have hb' : ¬ b.toNat < 128 := by omega
  simp only [hb', if_false]
  split
  · rename_i h1
    simp only [Bool.and_eq_true] at h1
    have k1 := hc 1 (by simpa using h1.2)
    split
    · rename_i h2
      refine ⟨by simpa using h2, by simp, fun j hj => ?_⟩
      match j, hj with
      | 0, _ => exact h0
      | 1, _ => exact k1
    · refine ⟨by decide, by decide, fun j hj => ?_⟩
      match j, hj with
      | 0, _ => exact h0
  · split
    · rename_i h1
      simp only [Bool.and_eq_true] at h1
      have k1 := hc 1 (by simpa using h1.1.2)
      have k2 := hc 2 (by simpa using h1.2)
      split
      · rename_i h2
        simp only [ge_iff_le, Bool.and_eq_true, decide_eq_true_eq] at h2
        refine ⟨Nat.le_trans (by decide) h2.1, by simp, fun j hj => ?_⟩
        match j, hj with
        | 0, _ => exact h0
        | 1, _ => exact k1
        | 2, _ => exact k2
      · refine ⟨by decide, by decide, fun j hj => ?_⟩
        match j, hj with
        | 0, _ => exact h0
    · split
      · rename_i h1
        simp only [Bool.and_eq_true] at h1
        have k1 := hc 1 (by simpa using h1.1.1.2)
        have k2 := hc 2 (by simpa using h1.1.2)
        have k3 := hc 3 (by simpa using h1.2)
        split
        · rename_i h2
          simp only [ge_iff_le, Bool.and_eq_true, decide_eq_true_eq] at h2
          refine ⟨Nat.le_trans (by decide) h2.1, by simp, fun j hj => ?_⟩
          match j, hj with
          | 0, _ => exact h0
          | 1, _ => exact k1
          | 2, _ => exact k2
          | 3, _ => exact k3
        · refine ⟨by decide, by decide, fun j hj => ?_⟩
          match j, hj with
          | 0, _ => exact h0
      · refine ⟨by decide, by decide, fun j hj => ?_⟩
        match j, hj with
        | 0, _ => exact h0

/-! How far a list goes. -/
theorem takeWhile_at {α : Type} (q : α → Bool) : ∀ (l : List α) (n : Nat) (x : α), (∀ y ∈ l.take n, q y = true) → l[n]? = some x → q x = false → (l.takeWhile q).length = n
  | [], n, x, _, h, _ => by simp at h
  | a :: l, 0, x, _, h, hx => by
    simp at h
    subst h
    simp [hx]
  | a :: l, n + 1, x, ha, h, hx => by
    have h1 : q a = true := ha a (by simp)
    simp only [List.takeWhile_cons, h1, if_true, List.length_cons]
    rw [takeWhile_at q l n x (fun y hy => ha y (by simp [hy])) (by simpa using h) hx]

theorem takeWhile_all {α : Type} (q : α → Bool) (l : List α) (h : ∀ y ∈ l, q y = true) : (l.takeWhile q).length = l.length := by
  induction l with
  | nil => rfl
  | cons a l ih =>
    simp only [List.takeWhile_cons, h a (by simp), if_true, List.length_cons]
    rw [ih fun y hy => h y (by simp [hy])]


/-! Bounds of slice expressions. -/
def boundV (v : Value) (m : Nat) : Option Nat :=
  match v with
  | .int _ i => if 0 ≤ i ∧ i ≤ m then some i.toNat else none
  | _ => none
theorem bnd_none (e : Env) (d m : Nat) : bound e none d m = some d := rfl
theorem bnd_some (e : Env) (x : Operand) (d m : Nat) : bound e (some x) d m = boundV (aev e x) m := rfl
theorem boundV_int {k : IntKind} {i : Int} {m : Nat} (h0 : 0 ≤ i) (h1 : i ≤ m) : boundV (.int k i) m = some i.toNat := if_pos ⟨h0, h1⟩

/-! Texts. -/
theorem bin_str_eql (l m : List UInt8) : binV .eql (.string (bs l)) (.string (bs m)) = some (.bool (decide (l = m))) := by
  simp only [binV, strBin, bs_list]
  congr 2
  by_cases h : l = m <;> simp [h]
theorem bin_str_neq (l m : List UInt8) : binV .neq (.string (bs l)) (.string (bs m)) = some (.bool !(decide (l = m))) := by
  simp only [binV, strBin, bs_list]
  congr 2
  by_cases h : l = m <;> simp [h]
theorem bin_str_add {l m : List UInt8} (h : l.length + m.length ≤ 4611686018427387904) : binV .add (.string (bs l)) (.string (bs m)) = some (.string (bs (l ++ m))) := by
  simp only [binV, strBin, bs_size, if_pos h, bs_append]

theorem wr_i64 {n : Int} (h0 : -9223372036854775808 ≤ n) (h1 : n < 9223372036854775808) : IntKind.i64.wrap n = n := by
  unfold IntKind.wrap
  simp [IntKind.signed, IntKind.bits]
  split <;> omega
theorem wr_i32 {n : Int} (h0 : -2147483648 ≤ n) (h1 : n < 2147483648) : IntKind.i32.wrap n = n := by
  unfold IntKind.wrap
  simp [IntKind.signed, IntKind.bits]
  split <;> omega
theorem wr_u64 {n : Int} (h0 : 0 ≤ n) (h1 : n < 18446744073709551616) : IntKind.u64.wrap n = n := by
  unfold IntKind.wrap
  simp [IntKind.signed, IntKind.bits]
  omega
theorem wr_u8 {n : Int} (h0 : 0 ≤ n) (h1 : n < 256) : IntKind.u8.wrap n = n := by
  unfold IntKind.wrap
  simp [IntKind.signed, IntKind.bits]
  omega

/-! A later heap in which one old block is another. -/
def Upd (b : Nat) (o : AObj) (H H' : Heap) : Prop := ∃ g, H' = H.set b o ++ g
theorem Upd.get {b : Nat} {o : AObj} {H H' : Heap} (h : Upd b o H H') (hb : b < H.length) : hget H' b = o := by
  obtain ⟨g, rfl⟩ := h
  rw [hget_old (by simpa using hb), hget_set _ _ _ hb]
theorem Upd.other {b c : Nat} {o : AObj} {H H' : Heap} (h : Upd b o H H') (hc : c < H.length) (hne : b ≠ c) : hget H' c = hget H c := by
  obtain ⟨g, rfl⟩ := h
  rw [hget_old (by simpa using hc), hget_set_ne _ _ hne]
theorem Upd.len {b : Nat} {o : AObj} {H H' : Heap} (h : Upd b o H H') : H.length ≤ H'.length := by
  obtain ⟨g, rfl⟩ := h
  simp
theorem Upd.trans {b : Nat} {o o' : AObj} {H H' H'' : Heap} (h : Upd b o H H') (k : Upd b o' H' H'') (hb : b < H.length) : Upd b o' H H'' := by
  obtain ⟨g, rfl⟩ := h
  obtain ⟨g', rfl⟩ := k
  refine ⟨g ++ g', ?_⟩
  rw [set_old (by simpa using hb)]
  simp
theorem Upd.ext {b : Nat} {o : AObj} {H H' H'' : Heap} (h : Upd b o H H') (k : Ext H' H'') : Upd b o H H'' := by
  obtain ⟨g, rfl⟩ := h
  obtain ⟨g', rfl⟩ := k
  exact ⟨g ++ g', by simp⟩
theorem Upd.of_ext {b : Nat} {o : AObj} {H H' H'' : Heap} (h : Ext H H') (k : Upd b o H' H'') (hb : b < H.length) : Upd b o H H'' := by
  obtain ⟨g, rfl⟩ := h
  obtain ⟨g', rfl⟩ := k
  refine ⟨g ++ g', ?_⟩
  rw [set_old hb]
  simp
theorem Upd.self {b : Nat} {o : AObj} {H : Heap} (h : hget H b = o) (hb : b < H.length) : Upd b o H H := by
  refine ⟨[], ?_⟩
  subst h
  simp [hget, hb]
theorem Upd.here {b : Nat} (o : AObj) (H : Heap) : Upd b o H (H.set b o) := ⟨[], by simp⟩


/-! Numbers of 64 bits without a sign, as natural numbers. -/
theorem u64_nat {n : Nat} (h : n < 18446744073709551616) : IntKind.u64.wrap (n : Int) = n := wr_u64 (by omega) (by omega)
theorem u64_low {x : Nat} (h : x < 18446744073709551616) : binV .and (.int .u64 (x : Int)) (.int .u64 4294967295) = some (.int .u64 ((x % 4294967296 : Nat) : Int)) := by
  have e : (BitVec.ofInt 64 (x : Int) &&& BitVec.ofInt 64 4294967295).toNat = x % 4294967296 := by
    rw [BitVec.toNat_and]
    have e1 : (BitVec.ofInt 64 (x : Int)).toNat = x := by
      simp [BitVec.ofInt_natCast]
      exact h
    have e2 : (BitVec.ofInt 64 4294967295).toNat = 2 ^ 32 - 1 := by decide
    rw [e1, e2, Nat.and_two_pow_sub_one_eq_mod]
  have : pr (Op.intBits .and .u64 (x : Int) 4294967295) = some (.int .u64 (IntKind.u64.wrap ((BitVec.ofInt 64 (x : Int) &&& BitVec.ofInt 64 4294967295).toNat : Int))) := rfl
  simp only [binV, intBin, if_true, this, e]
  rw [u64_nat (by omega)]
theorem u64_high (x : Nat) : binV .shr (.int .u64 (x : Int)) (.int .u64 32) = some (.int .u64 ((x / 4294967296 : Nat) : Int)) := by
  have : pr (Op.shift .shr .u64 (x : Int) .u64 32) = some (.int .u64 ((x : Int).fdiv (2 ^ 32))) := rfl
  have h32 : ¬ (32 : Int) < 0 := by decide
  simp only [binV, intBin, if_neg h32, this]
  congr 2
  rw [show ((2 : Int) ^ 32) = ((4294967296 : Nat) : Int) from rfl, Int.fdiv_eq_ediv_of_nonneg _ (by omega)]
  rfl
theorem u64_mul {x y : Nat} (h : x * y < 18446744073709551616) : binV .mul (.int .u64 (x : Int)) (.int .u64 (y : Int)) = some (.int .u64 ((x * y : Nat) : Int)) := by
  rw [bin_mul, ← Int.natCast_mul, u64_nat h]
theorem u64_add {x y : Nat} (h : x + y < 18446744073709551616) : binV .add (.int .u64 (x : Int)) (.int .u64 (y : Int)) = some (.int .u64 ((x + y : Nat) : Int)) := by
  rw [bin_add, ← Int.natCast_add, u64_nat h]
theorem u64_mulw (x y : Nat) : binV .mul (.int .u64 (x : Int)) (.int .u64 (y : Int)) = some (.int .u64 ((x * y % 18446744073709551616 : Nat) : Int)) := by
  rw [bin_mul]
  congr 2

theorem mul_parts (B a b c d : Nat) : (a * B + b) * (c * B + d) = (a * c) * (B * B) + (a * d + b * c) * B + b * d := by
  simp only [Nat.add_mul, Nat.mul_add]
  have h1 : a * B * (c * B) = a * c * (B * B) := Nat.mul_mul_mul_comm _ _ _ _
  have h2 : a * B * d = a * d * B := Nat.mul_right_comm _ _ _
  have h3 : b * (c * B) = b * c * B := (Nat.mul_assoc _ _ _).symm
  omega

/-- The whole product, out of halves. -/
theorem mul_halves (x y : Nat) :
    x / 4294967296 * (y / 4294967296) + (x / 4294967296 * (y % 4294967296) + x % 4294967296 * (y % 4294967296) / 4294967296) / 4294967296 +
      ((x / 4294967296 * (y % 4294967296) + x % 4294967296 * (y % 4294967296) / 4294967296) % 4294967296 + x % 4294967296 * (y / 4294967296)) / 4294967296 = x * y / 18446744073709551616 := by
  have ex : x = x / 4294967296 * 4294967296 + x % 4294967296 := (Nat.div_add_mod' x 4294967296).symm
  have ey : y = y / 4294967296 * 4294967296 + y % 4294967296 := (Nat.div_add_mod' y 4294967296).symm
  have e5 := mul_parts 4294967296 (x / 4294967296) (x % 4294967296) (y / 4294967296) (y % 4294967296)
  rw [← ex, ← ey, show 4294967296 * 4294967296 = 18446744073709551616 from rfl] at e5
  rw [e5]
  generalize x / 4294967296 * (y / 4294967296) = p
  generalize x / 4294967296 * (y % 4294967296) = q
  generalize x % 4294967296 * (y / 4294967296) = r
  generalize x % 4294967296 * (y % 4294967296) = s
  omega


/-! A heap that begins with a known one. -/
theorem hget_base (H G : Heap) (k : Nat) : hget (H ++ G) (H.length + k) = hget G k := by
  unfold hget
  rw [List.getElem?_append_right (by omega), Nat.add_sub_cancel_left]
theorem hget_base0 (H G : Heap) : hget (H ++ G) H.length = hget G 0 := hget_base H G 0
theorem set_base (H G : Heap) (k : Nat) (o : AObj) : (H ++ G).set (H.length + k) o = H ++ G.set k o := by simp
theorem set_base0 (H G : Heap) (o : AObj) : (H ++ G).set H.length o = H ++ G.set 0 o := set_base H G 0 o
theorem hget_baseS (H G : Heap) (b k : Nat) (o : AObj) : hget (H.set b o ++ G) (H.length + k) = hget G k := by
  have := hget_base (H.set b o) G k
  rwa [List.length_set] at this
theorem hget_baseS0 (H G : Heap) (b : Nat) (o : AObj) : hget (H.set b o ++ G) H.length = hget G 0 := hget_baseS H G b 0 o
theorem set_baseS (H G : Heap) (b k : Nat) (o o' : AObj) : (H.set b o ++ G).set (H.length + k) o' = H.set b o ++ G.set k o' := by
  have := set_base (H.set b o) G k o'
  rwa [List.length_set] at this
theorem set_baseS0 (H G : Heap) (b : Nat) (o o' : AObj) : (H.set b o ++ G).set H.length o' = H.set b o ++ G.set 0 o' := set_baseS H G b 0 o o'
theorem hget_set' {H : Heap} {b : Nat} {o : AObj} (h : b < H.length) : hget (H.set b o) b = o := hget_set H b o h
theorem hget_oldS {H G : Heap} {b c : Nat} {o : AObj} (h : c < H.length) : hget (H.set b o ++ G) c = hget (H.set b o) c := hget_old (by simpa using h)
theorem set_oldS {H G : Heap} {b c : Nat} {o : AObj} (h : c < H.length) (o' : AObj) : (H.set b o ++ G).set c o' = (H.set b o).set c o' ++ G := set_old (by simpa using h) o'
theorem hget_baseSS (H G : Heap) (b c k : Nat) (o o' : AObj) : hget ((H.set b o).set c o' ++ G) (H.length + k) = hget G k := by
  have := hget_baseS (H.set b o) G c k o'
  rwa [List.length_set] at this
theorem hget_baseSS0 (H G : Heap) (b c : Nat) (o o' : AObj) : hget ((H.set b o).set c o' ++ G) H.length = hget G 0 := hget_baseSS H G b c 0 o o'
theorem set_baseSS (H G : Heap) (b c k : Nat) (o o' o'' : AObj) : ((H.set b o).set c o' ++ G).set (H.length + k) o'' = (H.set b o).set c o' ++ G.set k o'' := by
  have := set_baseS (H.set b o) G c k o' o''
  rwa [List.length_set] at this
theorem set_baseSS0 (H G : Heap) (b c : Nat) (o o' o'' : AObj) : ((H.set b o).set c o' ++ G).set H.length o'' = (H.set b o).set c o' ++ G.set 0 o'' := set_baseSS H G b c 0 o o' o''
theorem hget_oldSS {H G : Heap} {b c d : Nat} {o o' : AObj} (h : d < H.length) : hget ((H.set b o).set c o' ++ G) d = hget ((H.set b o).set c o') d := hget_old (by simpa using h)
theorem set_oldSS {H G : Heap} {b c d : Nat} {o o' : AObj} (h : d < H.length) (o'' : AObj) : ((H.set b o).set c o' ++ G).set d o'' = ((H.set b o).set c o').set d o'' ++ G := set_old (by simpa using h) o''
theorem hget_setS {H : Heap} {b c : Nat} {o o' : AObj} (h : c < H.length) : hget ((H.set b o).set c o') c = o' := hget_set _ c o' (by simpa using h)
theorem hget_ne {H : Heap} {b c : Nat} {o : AObj} (h : b ≠ c) : hget (H.set b o) c = hget H c := hget_set_ne H o h
theorem set_self {H : Heap} {b : Nat} {o : AObj} (h : hget H b = o) : H.set b o = H := by
  subst h
  apply List.ext_getElem?
  intro i
  by_cases hi : b = i
  · subst hi
    by_cases hlt : b < H.length
    · simp [hget, hlt]
    · simp [hlt]
  · simp [hi]
theorem nadd (a b : Nat) : (a : Int) + (b : Int) = ((a + b : Nat) : Int) := rfl
theorem nadd1 (a : Nat) : (a : Int) + 1 = ((a + 1 : Nat) : Int) := rfl
theorem nsub {a b : Nat} (h : b ≤ a) : (a : Int) - (b : Int) = ((a - b : Nat) : Int) := by omega
theorem hget_c0 (o : AObj) (G : Heap) : hget (o :: G) 0 = o := rfl
theorem hget_cs (o : AObj) (G : Heap) (k : Nat) : hget (o :: G) (k + 1) = hget G k := rfl

/-! A place in code. -/
def ACode.at : ACode → List Nat → ACode
  | c, [] => c
  | .seq a _, 0 :: p => a.at p
  | .seq _ b, _ :: p => b.at p
  | .cond _ a _, 0 :: p => a.at p
  | .cond _ _ b, _ :: p => b.at p
  | .block _ c, _ :: p => c.at p
  | .loop c, _ :: p => c.at p
  | c, _ :: _ => c
def AFunc.body : AFunc → ACode
  | .code _ b _ => b
  | _ => .skip

end Go.Proofs.YtedemfmafdilmaaDoor.Ev
