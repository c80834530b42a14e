/- Parts of the proof: EvY, EvK0, EvK1, EvZ, EvExt, EvTab0, EvTab1. Conditions: none. -/
import Derived.Test.YtpllhhaeclnngaaGreatCop1
import Derived.KernelRfl
import Derived.Laws.Externs
/- Heaps and texts as lists: small laws for stepping. Conditions: none. -/
namespace Go.Proofs.YtpllhhaeclnngaaGreat.Ev


theorem bs_of (s : ByteArray) : bs s.data.toList = s := rfl
theorem bs_list (l : List UInt8) : (bs l).data.toList = l := rfl
theorem bs_size (l : List UInt8) : (bs l).size = l.length := rfl
theorem bs_inj {l m : List UInt8} (h : bs l = bs m) : l = m := by
  have := congrArg (fun s : ByteArray => s.data.toList) h
  simpa [bs] using this
theorem bs_append (l m : List UInt8) : bs l ++ bs m = bs (l ++ m) := by
  ext1
  simp [bs]
theorem bs_extract (l : List UInt8) (a b : Nat) : (bs l).extract a b = bs ((l.take b).drop a) := by
  ext1
  simp [bs, List.drop_take]
theorem bs_get (l : List UInt8) (i : Nat) : (bs l).get! i = l.getD i default := by
  simp [bs, ByteArray.get!, List.getD_eq_getElem?_getD, getElem!_def]
  cases l[i]? <;> rfl

theorem hget_last (H : Heap) (o : AObj) : hget (H ++ [o]) H.length = o := by simp [hget]
theorem hget_old {H G : Heap} {b : Nat} (h : b < H.length) : hget (H ++ G) b = hget H b := by simp [hget, List.getElem?_append, h]
theorem set_last (H : Heap) (o o' : AObj) : (H ++ [o]).set H.length o' = H ++ [o'] := by simp
theorem set_old {H G : Heap} {b : Nat} (h : b < H.length) (o : AObj) : (H ++ G).set b o = H.set b o ++ G := by simp [h]
theorem hget_set (H : Heap) (b : Nat) (o : AObj) (h : b < H.length) : hget (H.set b o) b = o := by simp [hget, h]
theorem hget_set_ne (H : Heap) {b c : Nat} (o : AObj) (h : b ≠ c) : hget (H.set b o) c = hget H c := by simp [hget, h]
theorem hget_lt {H : Heap} {b : Nat} {o : AObj} (h : hget H b = o) (ho : o.live = true) : b < H.length := by
  unfold hget at h
  split at h
  · rename_i x hx
    exact (List.getElem?_eq_some_iff.1 hx).1
  · subst h; cases ho

/-- A later heap: what stood stands. -/
def Ext (H H' : Heap) : Prop := ∃ g, H' = H ++ g
theorem Ext.refl (H : Heap) : Ext H H := ⟨[], by simp⟩
theorem Ext.trans {H H' H'' : Heap} (h : Ext H H') (k : Ext H' H'') : Ext H H'' := by
  obtain ⟨g, rfl⟩ := h
  obtain ⟨g', rfl⟩ := k
  exact ⟨g ++ g', by simp⟩
theorem Ext.add (H : Heap) (g : Heap) : Ext H (H ++ g) := ⟨g, rfl⟩
theorem Ext.get {H H' : Heap} (h : Ext H H') {b : Nat} (hb : b < H.length) : hget H' b = hget H b := by
  obtain ⟨g, rfl⟩ := h
  exact hget_old hb
theorem Ext.len {H H' : Heap} (h : Ext H H') : H.length ≤ H'.length := by
  obtain ⟨g, rfl⟩ := h
  simp

/-! Runes. -/
theorem decode_low {l : List UInt8} {i : Nat} {b : UInt8} (h : l[i]? = some b) (hb : b.toNat < 128) : Utf8.decode (bs l) i = (b.toNat, 1) := by
  have e : (bs l).get! (i + 0) = b := by rw [bs_get]; simp [h]
  unfold Utf8.decode
  simp only [e, hb, if_true]

theorem decode_high {l : List UInt8} {i : Nat} {b : UInt8} (h : l[i]? = some b) (hb : 128 ≤ b.toNat) :
    128 ≤ (Utf8.decode (bs l) i).1 ∧ 1 ≤ (Utf8.decode (bs l) i).2 ∧ ∀ j, j < (Utf8.decode (bs l) i).2 → ∃ c, l[i + j]? = some c ∧ 128 ≤ c.toNat := by
  have e : (bs l).get! (i + 0) = b := by rw [bs_get]; simp [h]
  have hc : ∀ k, (decide (i + k < (bs l).size) && ((bs l).get! (i + k)).toNat / 64 == 2) = true → ∃ c, l[i + k]? = some c ∧ 128 ≤ c.toNat := by
    intro k hk
    simp only [Bool.and_eq_true, beq_iff_eq, bs_size] at hk
    obtain ⟨h1, h2⟩ := hk
    have h1 : i + k < l.length := of_decide_eq_true h1
    refine ⟨l[i + k], by simp [h1], ?_⟩
    rw [bs_get] at h2
    simp [List.getD_eq_getElem?_getD, h1] at h2
    omega
  have h0 : ∃ c, l[i + 0]? = some c ∧ 128 ≤ c.toNat := ⟨b, h, hb⟩
  unfold Utf8.decode
  simp only [e]
  have hb' : ¬ b.toNat < 128 := by omega
  simp only [hb', if_false]
  split
  · rename_i h1
    simp only [Bool.and_eq_true] at h1
    have k1 := hc 1 (by simpa using h1.2)
    split
    · rename_i h2
      refine ⟨by simpa using h2, by simp, fun j hj => ?_⟩
      match j, hj with
      | 0, _ => exact h0
      | 1, _ => exact k1
    · refine ⟨by decide, by decide, fun j hj => ?_⟩
      match j, hj with
      | 0, _ => exact h0
  · split
    · rename_i h1
      simp only [Bool.and_eq_true] at h1
      have k1 := hc 1 (by simpa using h1.1.2)
      have k2 := hc 2 (by simpa using h1.2)
      split
      · rename_i h2
        simp only [ge_iff_le, Bool.and_eq_true, decide_eq_true_eq] at h2
        refine ⟨Nat.le_trans (by decide) h2.1, by simp, fun j hj => ?_⟩
        match j, hj with
        | 0, _ => exact h0
        | 1, _ => exact k1
        | 2, _ => exact k2
      · refine ⟨by decide, by decide, fun j hj => ?_⟩
        match j, hj with
        | 0, _ => exact h0
    · split
      · rename_i h1
        simp only [Bool.and_eq_true] at h1
        have k1 := hc 1 (by simpa using h1.1.1.2)
        have k2 := hc 2 (by simpa using h1.1.2)
        have k3 := hc 3 (by simpa using h1.2)
        split
        · rename_i h2
          simp only [ge_iff_le, Bool.and_eq_true, decide_eq_true_eq] at h2
          refine ⟨Nat.le_trans (by decide) h2.1, by simp, fun j hj => ?_⟩
          match j, hj with
          | 0, _ => exact h0
          | 1, _ => exact k1
          | 2, _ => exact k2
          | 3, _ => exact k3
        · refine ⟨by decide, by decide, fun j hj => ?_⟩
          match j, hj with
          | 0, _ => exact h0
      · refine ⟨by decide, by decide, fun j hj => ?_⟩
        match j, hj with
        | 0, _ => exact h0

/-! How far a list goes. -/
theorem takeWhile_at {α : Type} (q : α → Bool) : ∀ (l : List α) (n : Nat) (x : α), (∀ y ∈ l.take n, q y = true) → l[n]? = some x → q x = false → (l.takeWhile q).length = n
  | [], n, x, _, h, _ => by simp at h
  | a :: l, 0, x, _, h, hx => by
    simp at h
    subst h
    simp [hx]
  | a :: l, n + 1, x, ha, h, hx => by
    have h1 : q a = true := ha a (by simp)
    simp only [List.takeWhile_cons, h1, if_true, List.length_cons]
    rw [takeWhile_at q l n x (fun y hy => ha y (by simp [hy])) (by simpa using h) hx]

theorem takeWhile_all {α : Type} (q : α → Bool) (l : List α) (h : ∀ y ∈ l, q y = true) : (l.takeWhile q).length = l.length := by
  induction l with
  | nil => rfl
  | cons a l ih =>
    simp only [List.takeWhile_cons, h a (by simp), if_true, List.length_cons]
    rw [ih fun y hy => h y (by simp [hy])]


/-! Bounds of slice expressions. -/
def boundV (v : Value) (m : Nat) : Option Nat :=
  match v with
  | .int _ i => if 0 ≤ i ∧ i ≤ m then some i.toNat else none
  | _ => none
theorem bnd_none (e : Env) (d m : Nat) : bound e none d m = some d := rfl
theorem bnd_some (e : Env) (x : Operand) (d m : Nat) : bound e (some x) d m = boundV (aev e x) m := rfl
theorem boundV_int {k : IntKind} {i : Int} {m : Nat} (h0 : 0 ≤ i) (h1 : i ≤ m) : boundV (.int k i) m = some i.toNat := if_pos ⟨h0, h1⟩

/-! Texts. -/
theorem bin_str_eql (l m : List UInt8) : binV .eql (.string (bs l)) (.string (bs m)) = some (.bool (decide (l = m))) := by
  simp only [binV, strBin, bs_list]
  congr 2
  by_cases h : l = m <;> simp [h]
theorem bin_str_neq (l m : List UInt8) : binV .neq (.string (bs l)) (.string (bs m)) = some (.bool !(decide (l = m))) := by
  simp only [binV, strBin, bs_list]
  congr 2
  by_cases h : l = m <;> simp [h]
theorem bin_str_add {l m : List UInt8} (h : l.length + m.length ≤ 4611686018427387904) : binV .add (.string (bs l)) (.string (bs m)) = some (.string (bs (l ++ m))) := by
  simp only [binV, strBin, bs_size, if_pos h, bs_append]

theorem wr_i64 {n : Int} (h0 : -9223372036854775808 ≤ n) (h1 : n < 9223372036854775808) : IntKind.i64.wrap n = n := by
  unfold IntKind.wrap
  simp [IntKind.signed, IntKind.bits]
  split <;> omega
theorem wr_i32 {n : Int} (h0 : -2147483648 ≤ n) (h1 : n < 2147483648) : IntKind.i32.wrap n = n := by
  unfold IntKind.wrap
  simp [IntKind.signed, IntKind.bits]
  split <;> omega
theorem wr_u64 {n : Int} (h0 : 0 ≤ n) (h1 : n < 18446744073709551616) : IntKind.u64.wrap n = n := by
  unfold IntKind.wrap
  simp [IntKind.signed, IntKind.bits]
  omega
theorem wr_u8 {n : Int} (h0 : 0 ≤ n) (h1 : n < 256) : IntKind.u8.wrap n = n := by
  unfold IntKind.wrap
  simp [IntKind.signed, IntKind.bits]
  omega

/-! A later heap in which one old block is another. -/
def Upd (b : Nat) (o : AObj) (H H' : Heap) : Prop := ∃ g, H' = H.set b o ++ g
theorem Upd.get {b : Nat} {o : AObj} {H H' : Heap} (h : Upd b o H H') (hb : b < H.length) : hget H' b = o := by
  obtain ⟨g, rfl⟩ := h
  rw [hget_old (by simpa using hb), hget_set _ _ _ hb]
theorem Upd.other {b c : Nat} {o : AObj} {H H' : Heap} (h : Upd b o H H') (hc : c < H.length) (hne : b ≠ c) : hget H' c = hget H c := by
  obtain ⟨g, rfl⟩ := h
  rw [hget_old (by simpa using hc), hget_set_ne _ _ hne]
theorem Upd.len {b : Nat} {o : AObj} {H H' : Heap} (h : Upd b o H H') : H.length ≤ H'.length := by
  obtain ⟨g, rfl⟩ := h
  simp
theorem Upd.trans {b : Nat} {o o' : AObj} {H H' H'' : Heap} (h : Upd b o H H') (k : Upd b o' H' H'') (hb : b < H.length) : Upd b o' H H'' := by
  obtain ⟨g, rfl⟩ := h
  obtain ⟨g', rfl⟩ := k
  refine ⟨g ++ g', ?_⟩
  rw [set_old (by simpa using hb)]
  simp
theorem Upd.ext {b : Nat} {o : AObj} {H H' H'' : Heap} (h : Upd b o H H') (k : Ext H' H'') : Upd b o H H'' := by
  obtain ⟨g, rfl⟩ := h
  obtain ⟨g', rfl⟩ := k
  exact ⟨g ++ g', by simp⟩
theorem Upd.of_ext {b : Nat} {o : AObj} {H H' H'' : Heap} (h : Ext H H') (k : Upd b o H' H'') (hb : b < H.length) : Upd b o H H'' := by
  obtain ⟨g, rfl⟩ := h
  obtain ⟨g', rfl⟩ := k
  refine ⟨g ++ g', ?_⟩
  rw [set_old hb]
  simp
theorem Upd.self {b : Nat} {o : AObj} {H : Heap} (h : hget H b = o) (hb : b < H.length) : Upd b o H H := by
  refine ⟨[], ?_⟩
  subst h
  simp [hget, hb]
theorem Upd.here {b : Nat} (o : AObj) (H : Heap) : Upd b o H (H.set b o) := ⟨[], by simp⟩


/-! Numbers of 64 bits without a sign, as natural numbers. -/
theorem u64_nat {n : Nat} (h : n < 18446744073709551616) : IntKind.u64.wrap (n : Int) = n := wr_u64 (by omega) (by omega)
theorem u64_low {x : Nat} (h : x < 18446744073709551616) : binV .and (.int .u64 (x : Int)) (.int .u64 4294967295) = some (.int .u64 ((x % 4294967296 : Nat) : Int)) := by
  have e : (BitVec.ofInt 64 (x : Int) &&& BitVec.ofInt 64 4294967295).toNat = x % 4294967296 := by
    rw [BitVec.toNat_and]
    have e1 : (BitVec.ofInt 64 (x : Int)).toNat = x := by
      simp [BitVec.ofInt_natCast]
      exact h
    have e2 : (BitVec.ofInt 64 4294967295).toNat = 2 ^ 32 - 1 := by decide
    rw [e1, e2, Nat.and_two_pow_sub_one_eq_mod]
  have : pr (Op.intBits .and .u64 (x : Int) 4294967295) = some (.int .u64 (IntKind.u64.wrap ((BitVec.ofInt 64 (x : Int) &&& BitVec.ofInt 64 4294967295).toNat : Int))) := rfl
  simp only [binV, intBin, if_true, this, e]
  rw [u64_nat (by omega)]
theorem u64_high (x : Nat) : binV .shr (.int .u64 (x : Int)) (.int .u64 32) = some (.int .u64 ((x / 4294967296 : Nat) : Int)) := by
  have : pr (Op.shift .shr .u64 (x : Int) .u64 32) = some (.int .u64 ((x : Int).fdiv (2 ^ 32))) := rfl
  have h32 : ¬ (32 : Int) < 0 := by decide
  simp only [binV, intBin, if_neg h32, this]
  congr 2
  rw [show ((2 : Int) ^ 32) = ((4294967296 : Nat) : Int) from rfl, Int.fdiv_eq_ediv_of_nonneg _ (by omega)]
  rfl
theorem u64_mul {x y : Nat} (h : x * y < 18446744073709551616) : binV .mul (.int .u64 (x : Int)) (.int .u64 (y : Int)) = some (.int .u64 ((x * y : Nat) : Int)) := by
  rw [bin_mul, ← Int.natCast_mul, u64_nat h]
theorem u64_add {x y : Nat} (h : x + y < 18446744073709551616) : binV .add (.int .u64 (x : Int)) (.int .u64 (y : Int)) = some (.int .u64 ((x + y : Nat) : Int)) := by
  rw [bin_add, ← Int.natCast_add, u64_nat h]
theorem u64_mulw (x y : Nat) : binV .mul (.int .u64 (x : Int)) (.int .u64 (y : Int)) = some (.int .u64 ((x * y % 18446744073709551616 : Nat) : Int)) := by
  rw [bin_mul]
  congr 2

theorem mul_parts (B a b c d : Nat) : (a * B + b) * (c * B + d) = (a * c) * (B * B) + (a * d + b * c) * B + b * d := by
  simp only [Nat.add_mul, Nat.mul_add]
  have h1 : a * B * (c * B) = a * c * (B * B) := Nat.mul_mul_mul_comm _ _ _ _
  have h2 : a * B * d = a * d * B := Nat.mul_right_comm _ _ _
  have h3 : b * (c * B) = b * c * B := (Nat.mul_assoc _ _ _).symm
  omega

/-- The whole product, out of halves. -/
theorem mul_halves (x y : Nat) :
    x / 4294967296 * (y / 4294967296) + (x / 4294967296 * (y % 4294967296) + x % 4294967296 * (y % 4294967296) / 4294967296) / 4294967296 +
      ((x / 4294967296 * (y % 4294967296) + x % 4294967296 * (y % 4294967296) / 4294967296) % 4294967296 + x % 4294967296 * (y / 4294967296)) / 4294967296 = x * y / 18446744073709551616 := by
  have ex : x = x / 4294967296 * 4294967296 + x % 4294967296 := (Nat.div_add_mod' x 4294967296).symm
  have ey : y = y / 4294967296 * 4294967296 + y % 4294967296 := (Nat.div_add_mod' y 4294967296).symm
  have e5 := mul_parts 4294967296 (x / 4294967296) (x % 4294967296) (y / 4294967296) (y % 4294967296)
  rw [← ex, ← ey, show 4294967296 * 4294967296 = 18446744073709551616 from rfl] at e5
  rw [e5]
  generalize x / 4294967296 * (y / 4294967296) = p
  generalize x / 4294967296 * (y % 4294967296) = q
  generalize x % 4294967296 * (y / 4294967296) = r
  generalize x % 4294967296 * (y % 4294967296) = s
  omega


/-! A heap that begins with a known one. -/
theorem hget_base (H G : Heap) (k : Nat) : hget (H ++ G) (H.length + k) = hget G k := by
  unfold hget
  rw [List.getElem?_append_right (by omega), Nat.add_sub_cancel_left]
theorem hget_base0 (H G : Heap) : hget (H ++ G) H.length = hget G 0 := hget_base H G 0
theorem set_base (H G : Heap) (k : Nat) (o : AObj) : (H ++ G).set (H.length + k) o = H ++ G.set k o := by simp
theorem set_base0 (H G : Heap) (o : AObj) : (H ++ G).set H.length o = H ++ G.set 0 o := set_base H G 0 o
theorem hget_baseS (H G : Heap) (b k : Nat) (o : AObj) : hget (H.set b o ++ G) (H.length + k) = hget G k := by
  have := hget_base (H.set b o) G k
  rwa [List.length_set] at this
theorem hget_baseS0 (H G : Heap) (b : Nat) (o : AObj) : hget (H.set b o ++ G) H.length = hget G 0 := hget_baseS H G b 0 o
theorem set_baseS (H G : Heap) (b k : Nat) (o o' : AObj) : (H.set b o ++ G).set (H.length + k) o' = H.set b o ++ G.set k o' := by
  have := set_base (H.set b o) G k o'
  rwa [List.length_set] at this
theorem set_baseS0 (H G : Heap) (b : Nat) (o o' : AObj) : (H.set b o ++ G).set H.length o' = H.set b o ++ G.set 0 o' := set_baseS H G b 0 o o'
theorem hget_set' {H : Heap} {b : Nat} {o : AObj} (h : b < H.length) : hget (H.set b o) b = o := hget_set H b o h
theorem hget_oldS {H G : Heap} {b c : Nat} {o : AObj} (h : c < H.length) : hget (H.set b o ++ G) c = hget (H.set b o) c := hget_old (by simpa using h)
theorem set_oldS {H G : Heap} {b c : Nat} {o : AObj} (h : c < H.length) (o' : AObj) : (H.set b o ++ G).set c o' = (H.set b o).set c o' ++ G := set_old (by simpa using h) o'
theorem hget_baseSS (H G : Heap) (b c k : Nat) (o o' : AObj) : hget ((H.set b o).set c o' ++ G) (H.length + k) = hget G k := by
  have := hget_baseS (H.set b o) G c k o'
  rwa [List.length_set] at this
theorem hget_baseSS0 (H G : Heap) (b c : Nat) (o o' : AObj) : hget ((H.set b o).set c o' ++ G) H.length = hget G 0 := hget_baseSS H G b c 0 o o'
theorem set_baseSS (H G : Heap) (b c k : Nat) (o o' o'' : AObj) : ((H.set b o).set c o' ++ G).set (H.length + k) o'' = (H.set b o).set c o' ++ G.set k o'' := by
  have := set_baseS (H.set b o) G c k o' o''
  rwa [List.length_set] at this
theorem set_baseSS0 (H G : Heap) (b c : Nat) (o o' o'' : AObj) : ((H.set b o).set c o' ++ G).set H.length o'' = (H.set b o).set c o' ++ G.set 0 o'' := set_baseSS H G b c 0 o o' o''
theorem hget_oldSS {H G : Heap} {b c d : Nat} {o o' : AObj} (h : d < H.length) : hget ((H.set b o).set c o' ++ G) d = hget ((H.set b o).set c o') d := hget_old (by simpa using h)
theorem set_oldSS {H G : Heap} {b c d : Nat} {o o' : AObj} (h : d < H.length) (o'' : AObj) : ((H.set b o).set c o' ++ G).set d o'' = ((H.set b o).set c o').set d o'' ++ G := set_old (by simpa using h) o''
theorem hget_setS {H : Heap} {b c : Nat} {o o' : AObj} (h : c < H.length) : hget ((H.set b o).set c o') c = o' := hget_set _ c o' (by simpa using h)
theorem hget_ne {H : Heap} {b c : Nat} {o : AObj} (h : b ≠ c) : hget (H.set b o) c = hget H c := hget_set_ne H o h
theorem set_self {H : Heap} {b : Nat} {o : AObj} (h : hget H b = o) : H.set b o = H := by
  subst h
  apply List.ext_getElem?
  intro i
  by_cases hi : b = i
  · subst hi
    by_cases hlt : b < H.length
    · simp [hget, hlt]
    · simp [hlt]
  · simp [hi]
theorem nadd (a b : Nat) : (a : Int) + (b : Int) = ((a + b : Nat) : Int) := rfl
theorem nadd1 (a : Nat) : (a : Int) + 1 = ((a + 1 : Nat) : Int) := rfl
theorem nsub {a b : Nat} (h : b ≤ a) : (a : Int) - (b : Int) = ((a - b : Nat) : Int) := by omega
theorem hget_c0 (o : AObj) (G : Heap) : hget (o :: G) 0 = o := rfl
theorem hget_cs (o : AObj) (G : Heap) (k : Nat) : hget (o :: G) (k + 1) = hget G k := rfl

/-! A place in code. -/
def ACode.at : ACode → List Nat → ACode
  | c, [] => c
  | .seq a _, 0 :: p => a.at p
  | .seq _ b, _ :: p => b.at p
  | .cond _ a _, 0 :: p => a.at p
  | .cond _ _ b, _ :: p => b.at p
  | .block _ c, _ :: p => c.at p
  | .loop c, _ :: p => c.at p
  | c, _ :: _ => c
def AFunc.body : AFunc → ACode
  | .code _ b _ => b
  | _ => .skip

end Go.Proofs.YtpllhhaeclnngaaGreat.Ev

/- Short names for the laws that stepping uses. Conditions: none. -/
namespace Go.Proofs.YtpllhhaeclnngaaGreat.Ev
theorem kaa : type_of% @wops_nil := @wops_nil
theorem kab : type_of% @wops_cons := @wops_cons
theorem kac : type_of% @wops_guard := @wops_guard
theorem kad : type_of% @wops_chk := @wops_chk
theorem kae : type_of% @wg_true := @wg_true
theorem kaf : type_of% @wg_false := @wg_false
theorem kag : type_of% @wg_tf := @wg_tf
theorem kah : type_of% @wg_ft := @wg_ft
theorem kai : type_of% @wg_undef := @wg_undef
theorem kaj : type_of% @wa_true := @wa_true
theorem kak : type_of% @wr_val := @wr_val
theorem kal : type_of% @wr_val0 := @wr_val0
theorem kam : type_of% @wr_skip0 := @wr_skip0
theorem kan : type_of% @wr_pan := @wr_pan
theorem kao : type_of% @wr_call := @wr_call
theorem kap : type_of% @callK_ret := @callK_ret
theorem kaq : type_of% @callK_ret0 := @callK_ret0
theorem kar : type_of% @wc_skip := @wc_skip
theorem kas : type_of% @wc_ops := @wc_ops
theorem kat : type_of% @wc_seq := @wc_seq
theorem kau : type_of% @wc_cond := @wc_cond
theorem kav : type_of% @wc_block := @wc_block
theorem kaw : type_of% @wc_exit := @wc_exit
theorem kax : type_of% @wc_ret := @wc_ret
theorem kay : type_of% @wc_loop := @wc_loop
theorem kaz : type_of% @seqK_norm := @seqK_norm
theorem kba : type_of% @seqK_ret := @seqK_ret
theorem kbb : type_of% @seqK_exit := @seqK_exit
theorem kbc : type_of% @seqK_pan := @seqK_pan
theorem kbd : type_of% @blockK_norm := @blockK_norm
theorem kbe : type_of% @blockK_ret := @blockK_ret
theorem kbf : type_of% @blockK_pan := @blockK_pan
theorem kbg : type_of% @blockK_exit := @blockK_exit
theorem kbh : type_of% @wb_true := @wb_true
theorem kbi : type_of% @wb_false := @wb_false
theorem kbj : type_of% @put_zero := @put_zero
theorem kbk : type_of% @put_succ8 := @put_succ8
theorem kbl : type_of% @put_succ := @put_succ
theorem kbm : type_of% @get_succ8 := @get_succ8
theorem kbn : type_of% @pad_zero := @pad_zero
theorem kbo : type_of% @pad_nil := @pad_nil
theorem kbp : type_of% @pad_cons := @pad_cons
theorem kbq : type_of% @get_nil := @get_nil
theorem kbr : type_of% @get_zero := @get_zero
theorem kbs : type_of% @get_succ := @get_succ
theorem kbt : type_of% @aev_tmp := @aev_tmp
theorem kbu : type_of% @aev_const := @aev_const
theorem kbv : type_of% @aev_global := @aev_global
theorem kbw : type_of% @aev_func := @aev_func
theorem kbx : type_of% @ofO_some := @ofO_some
theorem kby : type_of% @retK_ret := @retK_ret
theorem kbz : type_of% @retK_norm := @retK_norm
theorem kca : type_of% @retK_pan := @retK_pan
theorem kcb : type_of% @pack_one := @pack_one
theorem kcc : type_of% @pack_two := @pack_two
theorem kcd : type_of% @pack_nil := @pack_nil
theorem kce : type_of% @bin_add := @bin_add
theorem kcf : type_of% @bin_sub := @bin_sub
theorem kcg : type_of% @bin_mul := @bin_mul
theorem kch : type_of% @bin_eql := @bin_eql
theorem kci : type_of% @bin_neq := @bin_neq
theorem kcj : type_of% @bin_lss := @bin_lss
theorem kck : type_of% @bin_leq := @bin_leq
theorem kcl : type_of% @bin_gtr := @bin_gtr
theorem kcm : type_of% @bin_geq := @bin_geq
theorem kcn : type_of% @bs_size := @bs_size
theorem kco : type_of% @boundV_int := @boundV_int
theorem kcp : type_of% @bs_extract := @bs_extract
theorem kcq : type_of% @Int.toNat_natCast := @Int.toNat_natCast
theorem kcr : type_of% @List.drop_zero := @List.drop_zero
theorem kcs : type_of% @List.take_length := @List.take_length
theorem kct : type_of% @bnd_none := @bnd_none
theorem kcu : type_of% @bnd_some := @bnd_some
theorem kcv : type_of% @bin_str_eql := @bin_str_eql
theorem kcw : type_of% @bin_str_neq := @bin_str_neq
theorem kcx : type_of% @ne_eq := @ne_eq
theorem kcy : type_of% @not_false_eq_true := @not_false_eq_true
theorem kcz : type_of% @List.map_cons := @List.map_cons
theorem kda : type_of% @List.map_nil := @List.map_nil
theorem kdb : type_of% @List.getElem?_cons_zero := @List.getElem?_cons_zero
theorem kdc : type_of% @List.getElem?_cons_succ := @List.getElem?_cons_succ
theorem kdd : type_of% @List.nil_append := @List.nil_append
theorem kde : type_of% @List.append_nil := @List.append_nil
theorem kdf : type_of% @List.cons_append := @List.cons_append
theorem kdg : type_of% @putO_some := @putO_some
theorem kdh : type_of% @putO_none := @putO_none
theorem kdi : type_of% @decide_true := @decide_true
theorem kdj : type_of% @decide_false := @decide_false
theorem kdk : type_of% @Bool.not_true := @Bool.not_true
theorem kdl : type_of% @Bool.not_false := @Bool.not_false
theorem kdm : type_of% @if_true := @if_true
theorem kdn : type_of% @if_false := @if_false
theorem kdo : type_of% @Bool.false_eq_true := @Bool.false_eq_true
theorem kdp : type_of% @beq_self_eq_true := @beq_self_eq_true
theorem kdq : type_of% @Int.natCast_nonneg := @Int.natCast_nonneg
theorem kdr : type_of% @not_true_eq_false := @not_true_eq_false
theorem kds : type_of% @or_self := @or_self
theorem kdt : type_of% @or_false := @or_false
theorem kdu : type_of% @false_or := @false_or
theorem kdv : type_of% @or_true := @or_true
theorem kdw : type_of% @true_or := @true_or
theorem kdx : type_of% @Option.map_some := @Option.map_some
theorem kdy : type_of% @Option.map_none := @Option.map_none
theorem kdz : type_of% @Bool.bne_true := @Bool.bne_true
theorem kea : type_of% @Bool.bne_false := @Bool.bne_false
theorem keb : type_of% @List.getD_cons_zero := @List.getD_cons_zero
theorem kec : type_of% @List.getD_cons_succ := @List.getD_cons_succ
theorem ked : type_of% @Nat.add_left_cancel_iff := @Nat.add_left_cancel_iff
theorem kee : type_of% @Nat.left_eq_add := @Nat.left_eq_add
theorem kef : type_of% @Nat.add_eq_left := @Nat.add_eq_left
theorem keg : type_of% @Bool.or_true := @Bool.or_true
theorem keh : type_of% @Bool.or_false := @Bool.or_false
theorem kei : type_of% @Bool.true_or := @Bool.true_or
theorem kej : type_of% @Bool.false_or := @Bool.false_or
theorem kek : type_of% @Nat.mul_one := @Nat.mul_one
theorem kel : type_of% @eq_self := @eq_self
theorem kem : type_of% @Int.toNat_zero := @Int.toNat_zero
theorem ken : type_of% @cof_int := @cof_int
theorem keo : type_of% @cof_bool := @cof_bool
theorem kep : type_of% @cof_string := @cof_string
theorem keq : type_of% @cof_ptr := @cof_ptr
theorem ker : type_of% @cof_sl := @cof_sl
theorem kes : type_of% @cof_func := @cof_func
theorem ket : type_of% @cof_nilFunc := @cof_nilFunc
theorem keu : type_of% @cof_nilIface := @cof_nilIface
theorem kev : type_of% @cof_iface := @cof_iface
theorem kew : type_of% @cof_agg := @cof_agg
theorem kex : type_of% @one_int := @one_int
theorem key : type_of% @one_bool := @one_bool
theorem kez : type_of% @one_string := @one_string
theorem kfa : type_of% @one_ptr := @one_ptr
theorem kfb : type_of% @one_sl := @one_sl
theorem kfc : type_of% @one_func := @one_func
theorem kfd : type_of% @one_nilFunc := @one_nilFunc
theorem kfe : type_of% @one_nilIface := @one_nilIface
theorem kff : type_of% @one_iface := @one_iface
theorem kfg : type_of% @fill_nil := @fill_nil
theorem kfh : type_of% @fill_cons := @fill_cons
theorem kfi : type_of% @setL_nil := @setL_nil
theorem kfj : type_of% @setL_cons := @setL_cons
theorem kfk : type_of% @toList_mk := @toList_mk
theorem kfl : type_of% @agg_list := @agg_list
theorem kfm : type_of% @List.drop_succ_cons := @List.drop_succ_cons
theorem kfn : type_of% @List.take_succ_cons := @List.take_succ_cons
theorem kfo : type_of% @List.take_zero := @List.take_zero
theorem kfp : type_of% @List.all_cons := @List.all_cons
theorem kfq : type_of% @List.all_nil := @List.all_nil
theorem kfr : type_of% @Bool.and_true := @Bool.and_true
theorem kfs : type_of% @Bool.true_and := @Bool.true_and
theorem kft : type_of% @and_self := @and_self
theorem kfu : type_of% @and_true := @and_true
theorem kfv : type_of% @true_and := @true_and
theorem kfw : type_of% @List.length_cons := @List.length_cons
theorem kfx : type_of% @List.length_nil := @List.length_nil
theorem kfy : type_of% @List.length_set := @List.length_set
theorem kfz : type_of% @Nat.le_refl := @Nat.le_refl
theorem kga : type_of% @List.set_cons_zero := @List.set_cons_zero
theorem kgb : type_of% @List.set_cons_succ := @List.set_cons_succ
theorem kgc : type_of% @Nat.zero_add := @Nat.zero_add
theorem kgd : type_of% @hget_baseSS := @hget_baseSS
theorem kge : type_of% @hget_baseSS0 := @hget_baseSS0
theorem kgf : type_of% @set_baseSS := @set_baseSS
theorem kgg : type_of% @set_baseSS0 := @set_baseSS0
theorem kgh : type_of% @hget_oldSS := @hget_oldSS
theorem kgi : type_of% @set_oldSS := @set_oldSS
theorem kgj : type_of% @hget_setS := @hget_setS
theorem kgk : type_of% @hget_oldS := @hget_oldS
theorem kgl : type_of% @hget_set' := @hget_set'
theorem kgm : type_of% @set_oldS := @set_oldS
theorem kgn : type_of% @hget_old := @hget_old
theorem kgo : type_of% @set_old := @set_old
theorem kgp : type_of% @bs_list := @bs_list
theorem kgq : type_of% @hget_baseS := @hget_baseS
theorem kgr : type_of% @hget_baseS0 := @hget_baseS0
theorem kgs : type_of% @set_baseS := @set_baseS
theorem kgt : type_of% @set_baseS0 := @set_baseS0
theorem kgu : type_of% @List.set_set := @List.set_set
theorem kgv : type_of% @List.append_assoc := @List.append_assoc
theorem kgw : type_of% @List.length_append := @List.length_append
theorem kgx : type_of% @hget_base := @hget_base
theorem kgy : type_of% @hget_base0 := @hget_base0
theorem kgz : type_of% @set_base := @set_base
theorem kha : type_of% @set_base0 := @set_base0
theorem khb : type_of% @hget_c0 := @hget_c0
theorem khc : type_of% @hget_cs := @hget_cs
theorem khd : type_of% @Nat.add_zero := @Nat.add_zero
theorem khe : type_of% @wr_yield := @wr_yield
theorem khf : type_of% @wc_range := @wc_range
theorem khg : type_of% @asK_norm := @asK_norm
theorem khh : type_of% @endK_norm := @endK_norm
theorem khi : type_of% @endK_ret := @endK_ret
theorem khj : type_of% @endK_exit := @endK_exit
theorem khk : type_of% @putL_nil := @putL_nil
theorem khl : type_of% @putL_cons := @putL_cons
theorem khm : type_of% @wops_chkN := @wops_chkN
theorem khn : type_of% @wops_chkC := @wops_chkC
theorem kho : type_of% @keepBs_nil := @keepBs_nil
theorem khp : type_of% @keepBs_cons := @keepBs_cons
theorem khq : type_of% @keepV_ptr := @keepV_ptr
theorem khr : type_of% @keepV_nil := @keepV_nil
end Go.Proofs.YtpllhhaeclnngaaGreat.Ev

/- The equations of the calculus, bound together. Conditions: none. -/
namespace Go.Proofs.YtpllhhaeclnngaaGreat.Ev
theorem kB : ((((((((type_of% @kaa) ∧ ((type_of% @kab) ∧ (type_of% @kac))) ∧ ((type_of% @kad) ∧ ((type_of% @khm) ∧ (type_of% @khn)))) ∧ (((type_of% @kho) ∧ ((type_of% @khp) ∧ (type_of% @khq))) ∧ ((type_of% @khr) ∧ ((type_of% @kae) ∧ (type_of% @kaf))))) ∧ ((((type_of% @kag) ∧ ((type_of% @kah) ∧ (type_of% @kai))) ∧ ((type_of% @kaj) ∧ ((type_of% @kak) ∧ (type_of% @kal)))) ∧ (((type_of% @kam) ∧ ((type_of% @kan) ∧ (type_of% @kao))) ∧ ((type_of% @khe) ∧ ((type_of% @khf) ∧ (type_of% @khg)))))) ∧ (((((type_of% @khh) ∧ ((type_of% @khi) ∧ (type_of% @khj))) ∧ ((type_of% @khk) ∧ ((type_of% @khl) ∧ (type_of% @kap)))) ∧ (((type_of% @kaq) ∧ ((type_of% @kar) ∧ (type_of% @kas))) ∧ ((type_of% @kat) ∧ ((type_of% @kau) ∧ (type_of% @kav))))) ∧ ((((type_of% @kaw) ∧ ((type_of% @kax) ∧ (type_of% @kay))) ∧ ((type_of% @kaz) ∧ ((type_of% @kba) ∧ (type_of% @kbb)))) ∧ (((type_of% @kbc) ∧ ((type_of% @kbd) ∧ (type_of% @kbe))) ∧ (((type_of% @kbf) ∧ (type_of% @kbg)) ∧ ((type_of% @kbh) ∧ (type_of% @kbi))))))) ∧ ((((((type_of% @kbj) ∧ ((type_of% @kbk) ∧ (type_of% @kbl))) ∧ ((type_of% @kbm) ∧ ((type_of% @kbn) ∧ (type_of% @kbo)))) ∧ (((type_of% @kbp) ∧ ((type_of% @kbq) ∧ (type_of% @kbr))) ∧ ((type_of% @kbs) ∧ ((type_of% @kbt) ∧ (type_of% @kbu))))) ∧ ((((type_of% @kbv) ∧ ((type_of% @kbw) ∧ (type_of% @kbx))) ∧ ((type_of% @kby) ∧ ((type_of% @kbz) ∧ (type_of% @kca)))) ∧ (((type_of% @kcb) ∧ ((type_of% @kcc) ∧ (type_of% @kcd))) ∧ ((type_of% @kce) ∧ ((type_of% @kcf) ∧ (type_of% @kcg)))))) ∧ (((((type_of% @kch) ∧ ((type_of% @kci) ∧ (type_of% @kcj))) ∧ ((type_of% @kck) ∧ ((type_of% @kcl) ∧ (type_of% @kcm)))) ∧ (((type_of% @kcn) ∧ ((type_of% @kco) ∧ (type_of% @kcp))) ∧ ((type_of% @kcq) ∧ ((type_of% @kcr.{0}) ∧ (type_of% @kcs.{0}))))) ∧ ((((type_of% @kct) ∧ ((type_of% @kcu) ∧ (type_of% @kcv))) ∧ ((type_of% @kcw) ∧ ((type_of% @kcy) ∧ (type_of% @kcz.{0, 0})))) ∧ (((type_of% @kda.{0, 0}) ∧ ((type_of% @kdb.{0}) ∧ (type_of% @kdc.{0}))) ∧ (((type_of% @kdd.{0}) ∧ (type_of% @kde.{0})) ∧ ((type_of% @kdf.{0}) ∧ (type_of% @kdg)))))))) ∧ (((((((type_of% @kdh) ∧ ((type_of% @kdi) ∧ (type_of% @kdj))) ∧ ((type_of% @kdk) ∧ ((type_of% @kdl) ∧ (type_of% @kdo)))) ∧ (((type_of% @kdp.{0}) ∧ ((type_of% @kdq) ∧ (type_of% @kdr))) ∧ ((type_of% @kds) ∧ ((type_of% @kdt) ∧ (type_of% @kdu))))) ∧ ((((type_of% @kdv) ∧ ((type_of% @kdw) ∧ (type_of% @kdx.{0, 0}))) ∧ ((type_of% @kdy.{0, 0}) ∧ ((type_of% @kdz) ∧ (type_of% @kea)))) ∧ (((type_of% @keb.{0}) ∧ ((type_of% @kec.{0}) ∧ (type_of% @ked))) ∧ ((type_of% @kee) ∧ ((type_of% @kef) ∧ (type_of% @keg)))))) ∧ (((((type_of% @keh) ∧ ((type_of% @kei) ∧ (type_of% @kej))) ∧ ((type_of% @kek) ∧ ((type_of% @kem) ∧ (type_of% @ken)))) ∧ (((type_of% @keo) ∧ ((type_of% @kep) ∧ (type_of% @keq))) ∧ ((type_of% @ker) ∧ ((type_of% @kes) ∧ (type_of% @ket))))) ∧ ((((type_of% @keu) ∧ ((type_of% @kev) ∧ (type_of% @kew))) ∧ ((type_of% @kex) ∧ ((type_of% @key) ∧ (type_of% @kez)))) ∧ (((type_of% @kfa) ∧ ((type_of% @kfb) ∧ (type_of% @kfc))) ∧ (((type_of% @kfd) ∧ (type_of% @kfe)) ∧ ((type_of% @kff) ∧ (type_of% @kfg))))))) ∧ ((((((type_of% @kfh) ∧ ((type_of% @kfi) ∧ (type_of% @kfj))) ∧ ((type_of% @kfk) ∧ ((type_of% @kfl) ∧ (type_of% @kfm.{0})))) ∧ (((type_of% @kfn.{0}) ∧ ((type_of% @kfo.{0}) ∧ (type_of% @kfp.{0}))) ∧ ((type_of% @kfq.{0}) ∧ ((type_of% @kfr) ∧ (type_of% @kfs))))) ∧ ((((type_of% @kft) ∧ ((type_of% @kfu) ∧ (type_of% @kfv))) ∧ ((type_of% @kfw.{0}) ∧ ((type_of% @kfx.{0}) ∧ (type_of% @kfy.{0})))) ∧ (((type_of% @kfz) ∧ ((type_of% @kga.{0}) ∧ (type_of% @kgb.{0}))) ∧ ((type_of% @kgc) ∧ ((type_of% @kgd) ∧ (type_of% @kge)))))) ∧ (((((type_of% @kgf) ∧ ((type_of% @kgg) ∧ (type_of% @kgh))) ∧ ((type_of% @kgi) ∧ ((type_of% @kgj) ∧ (type_of% @kgk)))) ∧ (((type_of% @kgl) ∧ ((type_of% @kgm) ∧ (type_of% @kgn))) ∧ ((type_of% @kgo) ∧ ((type_of% @kgp) ∧ (type_of% @kgq))))) ∧ ((((type_of% @kgr) ∧ ((type_of% @kgs) ∧ (type_of% @kgt))) ∧ ((type_of% @kgu.{0}) ∧ ((type_of% @kgv.{0}) ∧ (type_of% @kgw.{0})))) ∧ (((type_of% @kgx) ∧ ((type_of% @kgy) ∧ (type_of% @kgz))) ∧ (((type_of% @kha) ∧ (type_of% @khb)) ∧ ((type_of% @khc) ∧ (type_of% @khd))))))))) :=
  ⟨⟨⟨⟨⟨⟨⟨@kaa, ⟨@kab, @kac⟩⟩, ⟨@kad, ⟨@khm, @khn⟩⟩⟩, ⟨⟨@kho, ⟨@khp, @khq⟩⟩, ⟨@khr, ⟨@kae, @kaf⟩⟩⟩⟩, ⟨⟨⟨@kag, ⟨@kah, @kai⟩⟩, ⟨@kaj, ⟨@kak, @kal⟩⟩⟩, ⟨⟨@kam, ⟨@kan, @kao⟩⟩, ⟨@khe, ⟨@khf, @khg⟩⟩⟩⟩⟩, ⟨⟨⟨⟨@khh, ⟨@khi, @khj⟩⟩, ⟨@khk, ⟨@khl, @kap⟩⟩⟩, ⟨⟨@kaq, ⟨@kar, @kas⟩⟩, ⟨@kat, ⟨@kau, @kav⟩⟩⟩⟩, ⟨⟨⟨@kaw, ⟨@kax, @kay⟩⟩, ⟨@kaz, ⟨@kba, @kbb⟩⟩⟩, ⟨⟨@kbc, ⟨@kbd, @kbe⟩⟩, ⟨⟨@kbf, @kbg⟩, ⟨@kbh, @kbi⟩⟩⟩⟩⟩⟩, ⟨⟨⟨⟨⟨@kbj, ⟨@kbk, @kbl⟩⟩, ⟨@kbm, ⟨@kbn, @kbo⟩⟩⟩, ⟨⟨@kbp, ⟨@kbq, @kbr⟩⟩, ⟨@kbs, ⟨@kbt, @kbu⟩⟩⟩⟩, ⟨⟨⟨@kbv, ⟨@kbw, @kbx⟩⟩, ⟨@kby, ⟨@kbz, @kca⟩⟩⟩, ⟨⟨@kcb, ⟨@kcc, @kcd⟩⟩, ⟨@kce, ⟨@kcf, @kcg⟩⟩⟩⟩⟩, ⟨⟨⟨⟨@kch, ⟨@kci, @kcj⟩⟩, ⟨@kck, ⟨@kcl, @kcm⟩⟩⟩, ⟨⟨@kcn, ⟨@kco, @kcp⟩⟩, ⟨@kcq, ⟨@kcr.{0}, @kcs.{0}⟩⟩⟩⟩, ⟨⟨⟨@kct, ⟨@kcu, @kcv⟩⟩, ⟨@kcw, ⟨@kcy, @kcz.{0, 0}⟩⟩⟩, ⟨⟨@kda.{0, 0}, ⟨@kdb.{0}, @kdc.{0}⟩⟩, ⟨⟨@kdd.{0}, @kde.{0}⟩, ⟨@kdf.{0}, @kdg⟩⟩⟩⟩⟩⟩⟩, ⟨⟨⟨⟨⟨⟨@kdh, ⟨@kdi, @kdj⟩⟩, ⟨@kdk, ⟨@kdl, @kdo⟩⟩⟩, ⟨⟨@kdp.{0}, ⟨@kdq, @kdr⟩⟩, ⟨@kds, ⟨@kdt, @kdu⟩⟩⟩⟩, ⟨⟨⟨@kdv, ⟨@kdw, @kdx.{0, 0}⟩⟩, ⟨@kdy.{0, 0}, ⟨@kdz, @kea⟩⟩⟩, ⟨⟨@keb.{0}, ⟨@kec.{0}, @ked⟩⟩, ⟨@kee, ⟨@kef, @keg⟩⟩⟩⟩⟩, ⟨⟨⟨⟨@keh, ⟨@kei, @kej⟩⟩, ⟨@kek, ⟨@kem, @ken⟩⟩⟩, ⟨⟨@keo, ⟨@kep, @keq⟩⟩, ⟨@ker, ⟨@kes, @ket⟩⟩⟩⟩, ⟨⟨⟨@keu, ⟨@kev, @kew⟩⟩, ⟨@kex, ⟨@key, @kez⟩⟩⟩, ⟨⟨@kfa, ⟨@kfb, @kfc⟩⟩, ⟨⟨@kfd, @kfe⟩, ⟨@kff, @kfg⟩⟩⟩⟩⟩⟩, ⟨⟨⟨⟨⟨@kfh, ⟨@kfi, @kfj⟩⟩, ⟨@kfk, ⟨@kfl, @kfm.{0}⟩⟩⟩, ⟨⟨@kfn.{0}, ⟨@kfo.{0}, @kfp.{0}⟩⟩, ⟨@kfq.{0}, ⟨@kfr, @kfs⟩⟩⟩⟩, ⟨⟨⟨@kft, ⟨@kfu, @kfv⟩⟩, ⟨@kfw.{0}, ⟨@kfx.{0}, @kfy.{0}⟩⟩⟩, ⟨⟨@kfz, ⟨@kga.{0}, @kgb.{0}⟩⟩, ⟨@kgc, ⟨@kgd, @kge⟩⟩⟩⟩⟩, ⟨⟨⟨⟨@kgf, ⟨@kgg, @kgh⟩⟩, ⟨@kgi, ⟨@kgj, @kgk⟩⟩⟩, ⟨⟨@kgl, ⟨@kgm, @kgn⟩⟩, ⟨@kgo, ⟨@kgp, @kgq⟩⟩⟩⟩, ⟨⟨⟨@kgr, ⟨@kgs, @kgt⟩⟩, ⟨@kgu.{0}, ⟨@kgv.{0}, @kgw.{0}⟩⟩⟩, ⟨⟨@kgx, ⟨@kgy, @kgz⟩⟩, ⟨⟨@kha, @khb⟩, ⟨@khc, @khd⟩⟩⟩⟩⟩⟩⟩⟩
end Go.Proofs.YtpllhhaeclnngaaGreat.Ev

/- What a caller need not know of memory: blocks that nothing leads to are left out; a call over some blocks is one over more. Conditions: none. -/
namespace Go.Proofs.YtpllhhaeclnngaaGreat.Ev
open Go.RowKit
variable {T : Pg}

/-- All places of a value lie below n. -/
def Scoped (n : Nat) (v : Value) : Prop := ∃ ρ v', VR n ρ v v'

theorem VR.narrow {n n' : Nat} {ρ : Nat → Place} {v v' : Value} (h : VR n' ρ v v') (hs : Scoped n v) : VR n ρ v v' := by
  obtain ⟨ρ0, v0, h0⟩ := hs
  induction h generalizing v0 with
  | bool b => exact .bool b
  | int k x => exact .int k x
  | float k x => exact .float k x
  | string s => exact .string s
  | ptrNil => exact .ptrNil
  | ptr b o h => cases h0 with | ptr _ _ hb => exact .ptr b o hb
  | slNil => exact .slNil
  | sl b o l c c' h h1 h2 h3 => cases h0 with | sl _ _ _ _ _ hb _ _ _ => exact .sl b o l c c' hb h1 h2 h3
  | slE b o k a c' => exact .slE b o k a c'
  | mapNil => exact .mapNil
  | mapSome b h => cases h0 with | mapSome _ hb => exact .mapSome b hb
  | nilFunc => exact .nilFunc
  | nilIface => exact .nilIface
  | func fn f f' c c' hf hc h1 h2 i1 i2 =>
    cases h0 with
    | func _ _ g _ d hg hd k1 k2 =>
      exact .func fn f f' c c' hf hc (fun i a b => i1 i a b _ (k1 i a (by omega))) (fun i a b => i2 i a b _ (k2 i a (by omega)))
  | yield b h => cases h0 with | yield _ hb => exact .yield b hb
  | iface t v v' h ih => cases h0 with | iface _ _ v0 k => exact .iface t v v' (ih _ k)
  | agg c c' hc h ih => cases h0 with | agg _ d hd k => exact .agg c c' hc (fun i a b => ih i a b _ (k i a (by omega)))
  | tuple c c' hc h ih => cases h0 with | tuple _ d hd k => exact .tuple c c' hc (fun i a b => ih i a b _ (k i a (by omega)))

theorem Scoped.closed {n : Nat} {v : Value} (h : closedV v = true) : Scoped n v := ⟨fun _ => ⟨0, 0, 0⟩, v, .of_closed h⟩
theorem Scoped.int {n : Nat} {k : IntKind} {x : Int} : Scoped n (.int k x) := .closed rfl
theorem Scoped.bool {n : Nat} {b : Bool} : Scoped n (.bool b) := .closed rfl
theorem Scoped.string {n : Nat} {s : ByteArray} : Scoped n (.string s) := .closed rfl
theorem Scoped.ptrNil {n : Nat} : Scoped n (.pointer none) := .closed rfl
theorem Scoped.slNil {n : Nat} : Scoped n (.slice none 0 0) := .closed rfl
theorem Scoped.ptr {n b o : Nat} (h : b < n) : Scoped n (.pointer (some ⟨b, o, none⟩)) := ⟨fun b => ⟨b, 0, 0⟩, _, .ptr b o h⟩
theorem Scoped.sl {n b o l c : Nat} (h : b < n) (hl : l ≤ c) : Scoped n (.slice (some ⟨b, o, none⟩) l c) := ⟨fun b => ⟨b, 0, 0⟩, _, .sl b o l c c h hl (Nat.le_refl _) (by simp)⟩
theorem Scoped.undef {n : Nat} : Scoped n Go.undef := ⟨fun _ => ⟨0, 0, 0⟩, _, .undef⟩
theorem Scoped.mono {n m : Nat} {v : Value} (h : Scoped n v) (hm : n ≤ m) : Scoped m v := by
  obtain ⟨ρ, v', h⟩ := h
  exact ⟨ρ, v', h.mono hm fun _ _ => rfl⟩

theorem VR.with_place {n : Nat} {ρ : Nat → Place} {v v' : Value} (h : VR n ρ v v') (ρ' : Nat → Place) : ∃ v'', VR n ρ' v v'' := by
  induction h with
  | bool b => exact ⟨_, .bool b⟩
  | int k x => exact ⟨_, .int k x⟩
  | float k x => exact ⟨_, .float k x⟩
  | string s => exact ⟨_, .string s⟩
  | ptrNil => exact ⟨_, .ptrNil⟩
  | ptr b o h => exact ⟨_, .ptr b o h⟩
  | slNil => exact ⟨_, .slNil⟩
  | sl b o l c c' h h1 h2 h3 => exact ⟨_, .sl b o l c c h h1 (Nat.le_refl _) (by omega)⟩
  | slE b o k a c' => exact ⟨_, .slE b o k a c'⟩
  | mapNil => exact ⟨_, .mapNil⟩
  | mapSome b h => exact ⟨_, .mapSome b h⟩
  | nilFunc => exact ⟨_, .nilFunc⟩
  | nilIface => exact ⟨_, .nilIface⟩
  | func fn f f' c c' hf hc h1 h2 i1 i2 =>
    refine ⟨_, .func fn f (Array.ofFn fun i : Fin f.size => (i1 i i.2 (by omega)).choose) c (Array.ofFn fun i : Fin c.size => (i2 i i.2 (by omega)).choose) (by simp) (by simp) (fun i a b => ?_) (fun i a b => ?_)⟩
    · rw [Array.getElem_ofFn]; exact (i1 i a (by omega)).choose_spec
    · rw [Array.getElem_ofFn]; exact (i2 i a (by omega)).choose_spec
  | yield b h => exact ⟨_, .yield b h⟩
  | iface t v v' h ih => exact ⟨_, .iface t v _ ih.choose_spec⟩
  | agg c c' hc h ih =>
    refine ⟨_, .agg c (Array.ofFn fun i : Fin c.size => (ih i i.2 (by omega)).choose) (by simp) (fun i a b => ?_)⟩
    rw [Array.getElem_ofFn]; exact (ih i a (by omega)).choose_spec
  | tuple c c' hc h ih =>
    refine ⟨_, .tuple c (Array.ofFn fun i : Fin c.size => (ih i i.2 (by omega)).choose) (by simp) (fun i a b => ?_)⟩
    rw [Array.getElem_ofFn]; exact (ih i a (by omega)).choose_spec

theorem scoped_list {n : Nat} (ρ : Nat → Place) : ∀ l : List Value, (∀ v ∈ l, Scoped n v) → ∃ m, VL n ρ l m
  | [], _ => ⟨[], VL.nil⟩
  | v :: l, h => by
    obtain ⟨m, hm⟩ := scoped_list ρ l fun u hu => h u (by simp [hu])
    obtain ⟨ρ0, v0, h0⟩ := h v (by simp)
    obtain ⟨v1, h1⟩ := h0.with_place ρ
    exact ⟨v1 :: m, VL.cons h1 hm⟩
theorem Scoped.agg {n : Nat} {l : List Value} (h : ∀ v ∈ l, Scoped n v) : Scoped n (.agg l.toArray) := by
  obtain ⟨m, hm⟩ := scoped_list (fun _ => ⟨0, 0, 0⟩) l h
  exact ⟨_, _, hm.agg⟩
theorem Scoped.tuple {n : Nat} {l : List Value} (h : ∀ v ∈ l, Scoped n v) : Scoped n (.tuple l.toArray) := by
  obtain ⟨m, hm⟩ := scoped_list (fun _ => ⟨0, 0, 0⟩) l h
  exact ⟨_, _, hm.tuple⟩
theorem Scoped.tup2 {n : Nat} {a b : Value} (ha : Scoped n a) (hb : Scoped n b) : Scoped n (.tuple #[a, b]) := .tuple (l := [a, b]) (by intro u hu; simp at hu; rcases hu with rfl | rfl <;> assumption)
theorem Scoped.tup3 {n : Nat} {a b c : Value} (ha : Scoped n a) (hb : Scoped n b) (hc : Scoped n c) : Scoped n (.tuple #[a, b, c]) := .tuple (l := [a, b, c]) (by intro u hu; simp at hu; rcases hu with rfl | rfl | rfl <;> assumption)
theorem Scoped.yield {n b : Nat} (h : b < n) : Scoped n (.func (.yield b) #[] #[]) := ⟨fun b => ⟨b, 0, 0⟩, _, .yield b h⟩
theorem Scoped.func {n : Nat} {fn : FuncId} {f c : List Value} (h1 : ∀ v ∈ f, Scoped n v) (h2 : ∀ v ∈ c, Scoped n v) : Scoped n (.func (.func fn) f.toArray c.toArray) := by
  obtain ⟨m, hm⟩ := scoped_list (fun _ => ⟨0, 0, 0⟩) f h1
  obtain ⟨k, hk⟩ := scoped_list (fun _ => ⟨0, 0, 0⟩) c h2
  refine ⟨fun _ => ⟨0, 0, 0⟩, .func (.func fn) m.toArray k.toArray, .func fn _ _ _ _ (by simpa using hm.1) (by simpa using hk.1) (fun i a b => hm.2 i _ _ (by simp [List.getElem?_eq_getElem (show i < f.length by simpa using a)]) (by simp [List.getElem?_eq_getElem (show i < m.length by simpa using b)])) (fun i a b => hk.2 i _ _ (by simp [List.getElem?_eq_getElem (show i < c.length by simpa using a)]) (by simp [List.getElem?_eq_getElem (show i < k.length by simpa using b)]))⟩

/-! ### A call's end, told otherwise -/

theorem WD.abs {f : FuncId} {args : List Value} {H : Heap} {R : FRes → Heap → Prop}
    (h : WD T f args H (fun r H1 => ∃ r2 H2, (∀ ρ w en w1, Rel T.G ρ H w → RetOK T.G ρ H w r H1 en w1 → RetOK T.G ρ H w r2 H2 en w1) ∧ R r2 H2)) : WD T f args H R := by
  intro ρ w args' hr ha
  rcases h ρ w args' hr ha with ⟨v', h1, r, H1, ⟨r2, H2, h2, h3⟩, h4⟩ | ⟨h1, h2⟩
  · exact .inl ⟨v', h1, r2, H2, h3, h2 _ _ _ _ hr h4⟩
  · exact .inr ⟨h1, h2.mono fun en w' ⟨r, H1, ⟨r2, H2, h3, h4⟩, h5⟩ => ⟨r2, H2, h4, h3 _ _ _ _ hr h5⟩⟩

/-- Blocks are kept: those below n, and behind them those with such numbers. -/
def sg (n : Nat) (ks : List Nat) : Nat → Nat := fun b => if b < n then b else n + ks.getD (b - n) 0

/-- A value with the kept blocks' numbers, and as it was. -/
def VS (n : Nat) (ks : List Nat) (v2 v1 : Value) : Prop := ∀ n' ρ v', n ≤ n' → VR n' ρ v1 v' → VR (n + ks.length) (fun b => ρ (sg n ks b)) v2 v'

theorem sg_lt {n b : Nat} {ks : List Nat} (h : b < n) : sg n ks b = b := if_pos h
theorem sg_ge {n i k : Nat} {ks : List Nat} (h : ks[i]? = some k) : sg n ks (n + i) = n + k := by
  unfold sg
  rw [if_neg (by omega), Nat.add_sub_cancel_left, List.getD_eq_getElem?_getD, h]
  rfl

theorem VS.old {n : Nat} {ks : List Nat} {v : Value} (h : Scoped n v) : VS n ks v v := fun n' ρ v' _ hv => (hv.narrow h).mono (by omega) fun b hb => by rw [sg_lt hb]
theorem VS.ptr {n : Nat} {ks : List Nat} {i k o : Nat} (h : ks[i]? = some k) : VS n ks (.pointer (some ⟨n + i, o, none⟩)) (.pointer (some ⟨n + k, o, none⟩)) := by
  intro n' ρ v' _ hv
  cases hv with
  | ptr _ _ hb =>
    rw [← sg_ge h]
    exact .ptr (ρ := fun b => ρ (sg n ks b)) (n + i) o (by have := (List.getElem?_eq_some_iff.1 h).1; omega)
theorem VS.sl {n : Nat} {ks : List Nat} {i k o l c : Nat} (h : ks[i]? = some k) : VS n ks (.slice (some ⟨n + i, o, none⟩) l c) (.slice (some ⟨n + k, o, none⟩) l c) := by
  intro n' ρ v' _ hv
  cases hv with
  | sl _ _ _ _ c' hb h0 h1 h2 =>
    rw [← sg_ge h] at h2 ⊢
    exact .sl (ρ := fun b => ρ (sg n ks b)) (n + i) o l c c' (by have := (List.getElem?_eq_some_iff.1 h).1; omega) h0 h1 h2

theorem VS.arrays {n : Nat} {ks : List Nat} {l2 l1 : List Value} (hl : l2.length = l1.length) (h : ∀ (i : Nat) (x y : Value), l2[i]? = some x → l1[i]? = some y → VS n ks x y) {n' : Nat} {ρ : Nat → Place} (hn : n ≤ n') {m : List Value} (hm : VL n' ρ l1 m) :
    VL (n + ks.length) (fun b => ρ (sg n ks b)) l2 m := by
  refine ⟨hl.trans hm.1, fun i x y hx hy => ?_⟩
  have h1 : i < l1.length := by rw [← hl]; exact (List.getElem?_eq_some_iff.1 hx).1
  exact h i x l1[i] hx (by simp [h1]) n' ρ y hn (hm.2 i _ y (by simp [h1]) hy)

theorem VS.agg {n : Nat} {ks : List Nat} {l2 l1 : List Value} (hl : l2.length = l1.length) (h : ∀ (i : Nat) (x y : Value), l2[i]? = some x → l1[i]? = some y → VS n ks x y) : VS n ks (.agg l2.toArray) (.agg l1.toArray) := by
  intro n' ρ v' hn hv
  cases hv with
  | agg _ c' hc hh => exact (VS.arrays hl h hn (m := c'.toList) (VL.of_arrays hc hh)).agg
theorem VS.tuple {n : Nat} {ks : List Nat} {l2 l1 : List Value} (hl : l2.length = l1.length) (h : ∀ (i : Nat) (x y : Value), l2[i]? = some x → l1[i]? = some y → VS n ks x y) : VS n ks (.tuple l2.toArray) (.tuple l1.toArray) := by
  intro n' ρ v' hn hv
  cases hv with
  | tuple _ c' hc hh => exact (VS.arrays hl h hn (m := c'.toList) (VL.of_arrays hc hh)).tuple
theorem VS.pair {n : Nat} {ks : List Nat} {a b c d : Value} (h1 : VS n ks a c) (h2 : VS n ks b d) : VS n ks (.tuple #[a, b]) (.tuple #[c, d]) := by
  refine VS.tuple (l2 := [a, b]) (l1 := [c, d]) rfl fun i x y hx hy => ?_
  match i, hx, hy with
  | 0, hx, hy => cases hx; cases hy; exact h1
  | 1, hx, hy => cases hx; cases hy; exact h2

/-- Blocks told otherwise. -/
def OS (n : Nat) (ks : List Nat) : AObj → AObj → Prop
  | .row c2 u wr, .row c1 u' wr' => u = u' ∧ wr = wr' ∧ c2.length = c1.length ∧ ∀ (i : Nat) (x y : Value), c2[i]? = some x → c1[i]? = some y → VS n ks x y
  | .iter s p, .iter s' p' => s = s' ∧ p = p'
  | .loop P G st pe e2 ps cz bd, .loop P' G' st' pe' e1 ps' cz' bd' => P = P' ∧ G = G' ∧ st = st' ∧ pe = pe' ∧ ps = ps' ∧ cz = cz' ∧ bd = bd' ∧ ∀ i, (get e1 i = undef → get e2 i = undef) ∧ VS n ks (get e2 i) (get e1 i)
  | .map e2, .map e1 => e2.length = e1.length ∧ ∀ (i : Nat) (x y : Value × Value), e2[i]? = some x → e1[i]? = some y → VS n ks x.1 y.1 ∧ VS n ks x.2 y.2
  | .dead, _ => True
  | _, _ => False

def RS (n : Nat) (ks : List Nat) : FRes → FRes → Prop
  | .ret v2, .ret v1 => VS n ks v2 v1
  | .pan v2, .pan v1 => VS n ks v2 v1
  | _, _ => False

theorem OS.same {n : Nat} {ks : List Nat} {c : List Value} {u : Nat} {wr : Bool} (h : ∀ v ∈ c, Scoped n v) : OS n ks (.row c u wr) (.row c u wr) :=
  ⟨rfl, rfl, rfl, fun i x y hx hy => by rw [hx] at hy; cases hy; exact .old (h _ (List.mem_of_getElem? hx))⟩

theorem os_or {n n' : Nat} {ks : List Nat} {ρ : Nat → Place} {w : World} {b j : Nat} {o2 o1 : AObj} (hn : n ≤ n') (h : OS n ks o2 o1) (ho : OR n' ρ w b o1) (hj : sg n ks j = b) : OR (n + ks.length) (fun b => ρ (sg n ks b)) w j o2 := by
  cases o2 with
  | row c2 u wr =>
    cases o1 with
    | row c1 u1 wr1 =>
      obtain ⟨rfl, rfl, hl, hv⟩ := h
      obtain ⟨cells, t, fr, h1, h2, h3⟩ := ho
      subst hj
      refine ⟨cells, t, fr, h1, fun i v hi => ?_, fun hw => ?_⟩
      · have hi1 : i < c1.length := by rw [← hl]; exact (List.getElem?_eq_some_iff.1 hi).1
        obtain ⟨v', hv', hr⟩ := h2 i c1[i] (by simp [hi1])
        exact ⟨v', hv', hv i v c1[i] hi (by simp [hi1]) n' ρ v' hn hr⟩
      · rw [hl]; exact h3 hw
    | iter s p => exact h.elim
    | loop _ _ _ _ _ _ _ _ => exact h.elim
    | map _ => exact h.elim
    | dead => exact h.elim
  | iter s p =>
    cases o1 with
    | row c1 u1 wr1 => exact h.elim
    | iter s1 p1 => obtain ⟨rfl, rfl⟩ := h; subst hj; exact ho
    | loop _ _ _ _ _ _ _ _ => exact h.elim
    | map _ => exact h.elim
    | dead => exact h.elim
  | loop P G st pe e2 ps cz bd =>
    cases o1 with
    | row c1 u1 wr1 => exact h.elim
    | iter s1 p1 => exact h.elim
    | loop P' G' st' pe' e1 ps' cz' bd' =>
      obtain ⟨rfl, rfl, rfl, rfl, rfl, rfl, rfl, hv⟩ := h
      subst hj
      obtain ⟨h0, N, fn, ca, cb, tmps, D, h1, h2, h3, h4, h5⟩ := ho
      exact ⟨h0, N, fn, ca, cb, tmps, D, h1, h2, h3, h4, h5.1, fun i hi => (hv i).2 n' ρ _ hn (h5.2 i hi), fun i hi => (hv i).1 (h5.3 i hi)⟩
    | map _ => exact h.elim
    | dead => exact h.elim
  | map e2 =>
    cases o1 with
    | row c1 u1 wr1 => exact h.elim
    | iter s1 p1 => exact h.elim
    | loop _ _ _ _ _ _ _ _ => exact h.elim
    | map e1 =>
      obtain ⟨hl, hv⟩ := h
      subst hj
      obtain ⟨ms, clock, h1, h2, h3⟩ := ho
      have get : ∀ (f : Value × Value → Value) (i : Nat) (x : Value), (e2.map f)[i]? = some x → ∃ p q, e2[i]? = some p ∧ e1[i]? = some q ∧ f p = x := fun f i x hx => by
        rw [List.getElem?_map] at hx
        obtain ⟨p, hp, rfl⟩ := Option.map_eq_some_iff.1 hx
        have hi : i < e1.length := by rw [← hl]; exact (List.getElem?_eq_some_iff.1 hp).1
        exact ⟨p, e1[i], hp, by simp [hi], rfl⟩
      refine ⟨ms, clock, h1, ⟨by rw [← h2.1]; simp [hl], fun i x y hx hy => ?_⟩, ⟨by rw [← h3.1]; simp [hl], fun i x y hx hy => ?_⟩⟩
      · obtain ⟨p, q, hp, hq, rfl⟩ := get _ i x hx
        exact (hv i p q hp hq).1 n' ρ y hn (h2.2 i q.1 y (by simp [hq]) hy)
      · obtain ⟨p, q, hp, hq, rfl⟩ := get _ i x hx
        exact (hv i p q hp hq).2 n' ρ y hn (h3.2 i q.2 y (by simp [hq]) hy)
    | dead => exact h.elim
  | dead => trivial

theorem os_live {n : Nat} {ks : List Nat} {o2 o1 : AObj} (h : OS n ks o2 o1) (hl : o2.live = true) : o1.live = true := by
  cases o2 <;> cases o1 <;> first | rfl | exact h.elim | cases hl
theorem os_wrt {n : Nat} {ks : List Nat} {o2 o1 : AObj} (h : OS n ks o2 o1) (hl : o2.wrt = true) : o1.wrt = true := by
  cases o2 <;> cases o1 <;> first | rfl | exact h.elim | (cases hl; done) | (obtain ⟨_, rfl, _⟩ := h; exact hl)

theorem WD.gc {f : FuncId} {args : List Value} {H : Heap} {R : FRes → Heap → Prop}
    (h : WD T f args H (fun r H1 => ∃ (K g g2 : Heap) (ks : List Nat) (r2 : FRes), H1 = K ++ g ∧ K.length = H.length ∧
      (∀ (b : Nat) (o : AObj), K[b]? = some o → H[b]? = some o ∨ OS H.length ks o o) ∧ ks.length = g2.length ∧ ks.Nodup ∧
      (∀ (i k : Nat) (o2 : AObj), ks[i]? = some k → g2[i]? = some o2 → ∃ o1, g[k]? = some o1 ∧ OS H.length ks o2 o1) ∧ RS H.length ks r2 r ∧ R r2 (K ++ g2))) : WD T f args H R := by
  refine WD.abs (h.mono fun r H1 ⟨K, g, g2, ks, r2, hH1, hK, hold, hks, hnd, hnew, hres, hR⟩ => ⟨r2, K ++ g2, fun ρ w en w1 hr hret => ?_, hR⟩)
  subst hH1
  obtain ⟨ρ1, hs, hres1⟩ := hret
  have hlen1 : H.length ≤ (K ++ g).length := hs.len
  have hlen2 : (K ++ g2).length = H.length + ks.length := by simp [hK, hks]
  have hsco : ∀ (b : Nat) (o : AObj), H[b]? = some o → OS H.length ks o o := by
    intro b o ho
    cases o with
    | row cs u wr =>
      refine OS.same fun v hv => ?_
      obtain ⟨cells, t, fr, _, h2, _⟩ := hr.obj b _ ho
      obtain ⟨i, hi, rfl⟩ := List.getElem_of_mem hv
      obtain ⟨v', _, hvr⟩ := h2 i cs[i] (by simp [hi])
      exact ⟨ρ, v', hvr⟩
    | iter s p => exact ⟨rfl, rfl⟩
    | loop P G st pe env ps cz bd =>
      refine ⟨rfl, rfl, rfl, rfl, rfl, rfl, rfl, fun i => ⟨id, .old ?_⟩⟩
      obtain ⟨_, N, _, _, _, tmps, _, _, _, _, _, h5⟩ := hr.obj b _ ho
      by_cases hi : i < N
      · exact ⟨ρ, _, h5.2 i hi⟩
      · rw [h5.3 i (by omega)]; exact .undef
    | map es =>
      refine ⟨rfl, fun i x y hx hy => ?_⟩
      rw [hx] at hy
      cases hy
      obtain ⟨ms, _, _, h2, h3⟩ := hr.obj b _ ho
      obtain ⟨k, _, hk⟩ := h2.get (i := i) (x := x.1) (by simp [hx])
      obtain ⟨v, _, hv⟩ := h3.get (i := i) (x := x.2) (by simp [hx])
      exact ⟨.old ⟨ρ, k, hk⟩, .old ⟨ρ, v, hv⟩⟩
    | dead => trivial
  have each : ∀ (j : Nat) (o2 : AObj), (K ++ g2)[j]? = some o2 → ∃ o1, (K ++ g)[sg H.length ks j]? = some o1 ∧ OS H.length ks o2 o1 := by
    intro j o2 hj
    by_cases hlt : j < H.length
    · rw [List.getElem?_append_left (by omega)] at hj
      refine ⟨o2, by rw [sg_lt hlt, List.getElem?_append_left (by omega)]; exact hj, ?_⟩
      rcases hold j o2 hj with h1 | h1
      · exact hsco j o2 h1
      · exact h1
    · rw [List.getElem?_append_right (by omega), hK] at hj
      have hi : j - H.length < ks.length := by rw [hks]; exact (List.getElem?_eq_some_iff.1 hj).1
      obtain ⟨o1, h1, h2⟩ := hnew (j - H.length) ks[j - H.length] o2 (by simp [hi]) hj
      refine ⟨o1, ?_, h2⟩
      have e : sg H.length ks j = H.length + ks[j - H.length] := by
        have := sg_ge (n := H.length) (ks := ks) (i := j - H.length) (k := ks[j - H.length]) (by simp [hi])
        rw [show H.length + (j - H.length) = j by omega] at this
        exact this
      rw [e, List.getElem?_append_right (by omega), hK, Nat.add_sub_cancel_left]
      exact h1
  have inj : ∀ j k, j < H.length + ks.length → k < H.length + ks.length → sg H.length ks j = sg H.length ks k → j = k := by
    intro j k hj hk he
    by_cases h1 : j < H.length <;> by_cases h2 : k < H.length
    · rw [sg_lt h1, sg_lt h2] at he; exact he
    · rw [sg_lt h1] at he
      simp only [sg, if_neg h2] at he
      omega
    · rw [sg_lt h2] at he
      simp only [sg, if_neg h1] at he
      omega
    · simp only [sg, if_neg h1, if_neg h2] at he
      have e1 : ks.getD (j - H.length) 0 = ks[j - H.length]'(by omega) := by rw [List.getD_eq_getElem?_getD, List.getElem?_eq_getElem (by omega)]; rfl
      have e2 : ks.getD (k - H.length) 0 = ks[k - H.length]'(by omega) := by rw [List.getD_eq_getElem?_getD, List.getElem?_eq_getElem (by omega)]; rfl
      rw [e1, e2] at he
      have hjk : j - H.length = k - H.length := by
        rcases Nat.lt_trichotomy (j - H.length) (k - H.length) with h3 | h3 | h3
        · exact absurd (by omega) (List.pairwise_iff_getElem.1 hnd (j - H.length) (k - H.length) (by omega) (by omega) h3)
        · exact h3
        · exact absurd (by omega) (List.pairwise_iff_getElem.1 hnd (k - H.length) (j - H.length) (by omega) (by omega) h3)
      omega
  have hstep : Step T.G ρ H w (fun b => ρ1 (sg H.length ks b)) (K ++ g2) w1 := by
    refine ⟨⟨fun b o ho => ?_, fun b c o u hb hc hne hw hl => ?_, fun gl hg => ?_, by rw [hlen2]; have := hr.many; omega⟩, by rw [hlen2]; omega, fun b hb => ?_, hs.os, hs.tape, hs.output, hs.size, hs.frame, fun c hc => ?_, hs.loops, fun c u hu hl => ?_⟩
    · obtain ⟨o1, h1, h2⟩ := each b o ho
      rw [hlen2]
      exact os_or hlen1 h2 (hs.rel.obj _ _ h1) rfl
    · obtain ⟨o1, h1, h2⟩ := each b o hb
      obtain ⟨u1, h3, h4⟩ := each c u hc
      refine hs.rel.inj _ _ _ _ h1 h3 (fun e => hne (inj b c ?_ ?_ e)) (os_wrt h2 hw) (os_live h4 hl)
      · rw [← hlen2]; exact (List.getElem?_eq_some_iff.1 hb).1
      · rw [← hlen2]; exact (List.getElem?_eq_some_iff.1 hc).1
    · show ρ1 (sg H.length ks gl) = _
      rw [sg_lt (Nat.lt_of_lt_of_le hg hr.many)]
      exact hs.rel.glob gl hg
    · show ρ1 (sg H.length ks b) = _
      rw [sg_lt hb]
      exact hs.same b hb
    · obtain ⟨b, o, hb, hw, rfl⟩ := hc
      obtain ⟨o1, h1, h2⟩ := each b o hb
      exact hs.fresh _ ⟨_, o1, h1, os_wrt h2 hw, rfl⟩
    · obtain ⟨o1, h1, h2⟩ := each c u hu
      rcases hs.lives _ o1 h1 (os_live h2 hl) with ⟨o, ho, hol⟩ | h | h
      · left
        by_cases hc : c < H.length
        · rw [sg_lt hc] at ho; exact ⟨o, ho, hol⟩
        · have := (List.getElem?_eq_some_iff.1 ho).1
          simp only [sg, if_neg hc] at this
          omega
      · exact .inr (.inl h)
      · exact .inr (.inr h)
  refine ⟨_, hstep, ?_⟩
  rw [hlen2]
  cases r2 with
  | ret v2 =>
    cases r with
    | ret v1 =>
      obtain ⟨v', rfl, hv⟩ := hres1
      exact ⟨v', rfl, hres _ _ _ hlen1 hv⟩
    | pan v1 => exact hres.elim
  | pan v2 =>
    cases r with
    | ret v1 => exact hres.elim
    | pan v1 =>
      obtain ⟨v', rfl, hv⟩ := hres1
      exact ⟨v', rfl, hres _ _ _ hlen1 hv⟩

/-- A call that leaves all as it was. -/
theorem WD.gc0 {f : FuncId} {args : List Value} {H : Heap} {R : FRes → Heap → Prop}
    (h : WD T f args H (fun r H1 => ∃ v, r = .ret v ∧ (∃ g, H1 = H ++ g) ∧ Scoped H.length v ∧ R (.ret v) H)) : WD T f args H R := by
  refine WD.gc (h.mono fun r H1 ⟨v, h1, ⟨g, h2⟩, h3, h4⟩ => ⟨H, g, [], [], .ret v, h2, rfl, fun b o ho => .inl ho, rfl, List.nodup_nil, fun i k o2 hk => by simp at hk, ?_, by simpa using h4⟩)
  subst h1
  exact VS.old h3

/-- A call that changes one block. -/
theorem WD.gcU {f : FuncId} {args : List Value} {H : Heap} {R : FRes → Heap → Prop} (b : Nat)
    (h : WD T f args H (fun r H1 => ∃ v cs u wr, r = .ret v ∧ (∃ g, H1 = H.set b (.row cs u wr) ++ g) ∧ (∀ v ∈ cs, Scoped H.length v) ∧ Scoped H.length v ∧ R (.ret v) (H.set b (.row cs u wr)))) : WD T f args H R := by
  refine WD.gc (h.mono fun r H1 ⟨v, cs, u, wr, h1, ⟨g, h2⟩, h5, h3, h4⟩ => ⟨H.set b (.row cs u wr), g, [], [], .ret v, h2, by simp, fun c o ho => ?_, rfl, List.nodup_nil, fun i k o2 hk => by simp at hk, ?_, by simpa using h4⟩)
  · by_cases hc : b = c
    · subst hc
      by_cases hlt : b < H.length
      · rw [List.getElem?_set_self hlt] at ho
        cases ho
        exact .inr (OS.same h5)
      · rw [List.getElem?_eq_none (by simpa using hlt)] at ho
        cases ho
    · rw [List.getElem?_set_ne hc] at ho
      exact .inl ho
  · subst h1
    exact VS.old h3

/-- A call that makes one block that is led to. -/
theorem WD.gc1 {f : FuncId} {args : List Value} {H : Heap} {R : FRes → Heap → Prop}
    (h : WD T f args H (fun r H1 => ∃ (v v2 : Value) (cs : List Value) (u : Nat) (wr : Bool) (g : Heap) (k : Nat), r = .ret v ∧ H1 = H ++ g ∧ g[k]? = some (.row cs u wr) ∧ (∀ v ∈ cs, Scoped H.length v) ∧ VS H.length [k] v2 v ∧ R (.ret v2) (H ++ [.row cs u wr]))) : WD T f args H R := by
  refine WD.gc (h.mono fun r H1 ⟨v, v2, cs, u, wr, g, k, h1, h2, h3, h4, h5, h6⟩ => ⟨H, g, [.row cs u wr], [k], .ret v2, h2, rfl, fun b o ho => .inl ho, rfl, by simp, fun i k' o2 hk ho => ?_, ?_, h6⟩)
  · match i, hk, ho with
    | 0, hk, ho =>
      simp at hk ho
      subst hk; subst ho
      exact ⟨_, h3, OS.same h4⟩
  · subst h1
    exact h5

/-- A law's answer, over blocks that nothing may write: all that stood is as it was. -/
theorem wd_true {f : FuncId} {n : Nat} {body : ACode} {rs : List AResult} (hT : Laid T f (.code n body rs)) {args : List Value} {H : Heap} {b : Bool} (h : WD T f args H (fun r _ => r = .ret (.bool b))) {ρ : Nat → Place} {w : World} {args' : Array Value}
    (hr : Rel T.G ρ H w) (ha : VL H.length ρ args args'.toList) (hro : ∀ o ∈ H, o.wrt = false) : Calls T.P f args' w fun e w' => e = .returned (.bool b) ∧ Below w.heap.size w w' := by
  have henter : (callFunc f args').run T.P w = .ok (.enter f args') w := by
    obtain ⟨_, _, hc, _⟩ := prepFn_inv hT
    exact hc.enter _ _
  rcases h ρ w args' hr ha with ⟨v', h1, _⟩ | ⟨_, h2⟩
  · rw [henter] at h1
    cases h1
  · refine h2.mono fun e w' ⟨r, H1, hq, hret⟩ => ?_
    subst hq
    obtain ⟨ρ', hs, v', rfl, hv⟩ := hret
    refine ⟨by rw [hv.inv_bool], hs.os, hs.tape, hs.output, hs.size, fun c hc => hs.frame c hc ?_⟩
    rintro ⟨b, o, hb, ho, _⟩
    have := hro o (List.mem_of_getElem? hb)
    rw [ho] at this
    cases this

/-! ### A call over some blocks -/

/-- What stands in a heap of read-only rows of plain values is not changed by a call over these alone, whatever else there is. -/
theorem WD.frame0 {f : FuncId} {args : List Value} {H0 H : Heap} {v : Value} (hp : ∃ g, H = H0 ++ g) (hG : T.G ≤ H0.length) (hro : ∀ o ∈ H0, ∃ cs, o = .row cs 0 false ∧ ∀ v ∈ cs, Scoped H0.length v)
    (hargs : ∀ a ∈ args, closedV a = true) (hv : Scoped T.G v) (h : WD T f args H0 (fun r _ => r = .ret v)) {R : FRes → Heap → Prop} (hR : R (.ret v) H) : WD T f args H R := by
  obtain ⟨g, rfl⟩ := hp
  intro ρ w args' hr ha
  have hr0 : Rel T.G ρ H0 w := by
    refine ⟨fun b o ho => ?_, fun b c o u hb hc hne hw hl => ?_, hr.glob, hG⟩
    · obtain ⟨cs, rfl, hcs⟩ := hro o (List.mem_of_getElem? ho)
      have hb : b < H0.length := (List.getElem?_eq_some_iff.1 ho).1
      obtain ⟨cells, t, fr, h1, h2, h3⟩ := hr.obj b _ (by rw [List.getElem?_append_left hb]; exact ho)
      refine ⟨cells, t, fr, h1, fun i v hi => ?_, h3⟩
      obtain ⟨v', hv', hvr⟩ := h2 i v hi
      exact ⟨v', hv', hvr.narrow (hcs v (List.mem_of_getElem? hi))⟩
    · obtain ⟨cs, rfl, _⟩ := hro o (List.mem_of_getElem? hb)
      cases hw
  have ha0 : VL H0.length ρ args args'.toList := ⟨ha.1, fun i x y hx hy => (ha.2 i x y hx hy).narrow (.closed (hargs x (List.mem_of_getElem? hx)))⟩
  have nofoot : ∀ c, ¬ Foot ρ H0 c := by
    rintro c ⟨b, o, hb, hw, _⟩
    obtain ⟨cs, rfl, _⟩ := hro o (List.mem_of_getElem? hb)
    cases hw
  have key : ∀ en w1, (∃ r H1, r = .ret v ∧ RetOK T.G ρ H0 w r H1 en w1) → ∃ r H1, R r H1 ∧ RetOK T.G ρ (H0 ++ g) w r H1 en w1 := by
    rintro en w1 ⟨r, H1, rfl, ρ1, hs, v', rfl, hvr⟩
    have hold : ∀ c, c < w.heap.size → w1.heap[c]? = w.heap[c]? := fun c hc => hs.frame c hc (nofoot c)
    refine ⟨_, _, hR, ρ, ⟨⟨fun b o ho => ?_, hr.inj, hr.glob, hr.many⟩, Nat.le_refl _, fun _ _ => rfl, hs.os, hs.tape, hs.output, hs.size, fun c hc _ => hold c hc, fun c hc => .inl hc, hs.loops, fun c u hu hl => .inl ⟨u, hu, hl⟩⟩, v', rfl, ?_⟩
    · exact (hr.obj b o ho).mono (Nat.le_refl _) rfl (fun _ _ => rfl) (fun hl => hold _ (lt_of_live (hr.obj b o ho) hl))
    · have h1 : VR T.G ρ1 v v' := hvr.narrow hv
      refine (h1.mono (Nat.le_refl _) fun b hb => ?_).mono (by have := hr.many; omega) fun _ _ => rfl
      exact (hr.glob b hb).trans (hs.rel.glob b hb).symm
  rcases h ρ w args' hr0 ha0 with ⟨v', h1, h2⟩ | ⟨h1, h2⟩
  · exact .inl ⟨v', h1, key _ _ h2⟩
  · exact .inr ⟨h1, h2.mono key⟩

/-- The same of a call that makes one list of plain values. -/
theorem WD.frame1 {f : FuncId} {args : List Value} {H0 H : Heap} {cs : List Value} {u l c : Nat} (hp : ∃ g, H = H0 ++ g) (hG : T.G ≤ H0.length) (hro : ∀ o ∈ H0, ∃ cs, o = .row cs 0 false ∧ ∀ v ∈ cs, Scoped H0.length v)
    (hargs : ∀ a ∈ args, closedV a = true) (hcs : ∀ v ∈ cs, Scoped T.G v) (h : WD T f args H0 (fun r H1 => r = .ret (.slice (some ⟨H0.length, 0, none⟩) l c) ∧ H1 = H0 ++ [.row cs u true])) {R : FRes → Heap → Prop}
    (hR : R (.ret (.slice (some ⟨H.length, 0, none⟩) l c)) (H ++ [.row cs u true])) : WD T f args H R := by
  obtain ⟨g, rfl⟩ := hp
  intro ρ w args' hr ha
  have hr0 : Rel T.G ρ H0 w := by
    refine ⟨fun b o ho => ?_, fun b c o u hb hc hne hw hl => ?_, hr.glob, hG⟩
    · obtain ⟨cs, rfl, hcs⟩ := hro o (List.mem_of_getElem? ho)
      have hb : b < H0.length := (List.getElem?_eq_some_iff.1 ho).1
      obtain ⟨cells, t, fr, h1, h2, h3⟩ := hr.obj b _ (by rw [List.getElem?_append_left hb]; exact ho)
      refine ⟨cells, t, fr, h1, fun i v hi => ?_, h3⟩
      obtain ⟨v', hv', hvr⟩ := h2 i v hi
      exact ⟨v', hv', hvr.narrow (hcs v (List.mem_of_getElem? hi))⟩
    · obtain ⟨cs, rfl, _⟩ := hro o (List.mem_of_getElem? hb)
      cases hw
  have ha0 : VL H0.length ρ args args'.toList := ⟨ha.1, fun i x y hx hy => (ha.2 i x y hx hy).narrow (.closed (hargs x (List.mem_of_getElem? hx)))⟩
  have nofoot : ∀ c, ¬ Foot ρ H0 c := by
    rintro c ⟨b, o, hb, hw, _⟩
    obtain ⟨cs, rfl, _⟩ := hro o (List.mem_of_getElem? hb)
    cases hw
  have key : ∀ en w1, (∃ r H1, (r = .ret (.slice (some ⟨H0.length, 0, none⟩) l c) ∧ H1 = H0 ++ [.row cs u true]) ∧ RetOK T.G ρ H0 w r H1 en w1) → ∃ r H1, R r H1 ∧ RetOK T.G ρ (H0 ++ g) w r H1 en w1 := by
    rintro en w1 ⟨r, H1, ⟨rfl, rfl⟩, ρ1, hs, v', rfl, hvr⟩
    have hold : ∀ c, c < w.heap.size → w1.heap[c]? = w.heap[c]? := fun c hc => hs.frame c hc (nofoot c)
    have hnew : (H0 ++ [AObj.row cs u true])[H0.length]? = some (.row cs u true) := by simp
    have hfresh : w.heap.size ≤ (ρ1 H0.length).blk := (hs.fresh _ ⟨_, _, hnew, rfl, rfl⟩).resolve_left (nofoot _)
    have hglob : ∀ b, b < T.G → Ev.ext ρ (H0 ++ g).length (ρ1 H0.length) b = ρ1 b := fun b hb => by
      rw [Ev.ext_lt (Nat.lt_of_lt_of_le hb hr.many)]
      exact (hr.glob b hb).trans (hs.rel.glob b hb).symm
    have cases_ : ∀ (b : Nat) (o : AObj), (H0 ++ g ++ [AObj.row cs u true])[b]? = some o → (b < (H0 ++ g).length ∧ (H0 ++ g)[b]? = some o) ∨ (b = (H0 ++ g).length ∧ o = .row cs u true) := fun b o hb => by
      by_cases h1 : b < (H0 ++ g).length
      · rw [List.getElem?_append_left h1] at hb; exact .inl ⟨h1, hb⟩
      · rw [List.getElem?_append_right (by omega)] at hb
        obtain ⟨h2, h3⟩ := List.getElem?_eq_some_iff.1 hb
        have : b = (H0 ++ g).length := by rw [List.length_singleton] at h2; omega
        subst this
        simp at h3
        exact .inr ⟨rfl, h3.symm⟩
    refine ⟨_, _, hR, Ev.ext ρ (H0 ++ g).length (ρ1 H0.length), ⟨⟨fun b o ho => ?_, fun b c o u' hb hc hne hw hl => ?_, fun b hb => ?_, by simp; have := hr.many; simp at this; omega⟩, by simp, fun b hb => Ev.ext_lt hb, hs.os, hs.tape, hs.output, hs.size, fun c hc _ => hold c hc, fun c hc => ?_, hs.loops, fun c u hu hl => ?_⟩, v', rfl, ?_⟩
    · rcases cases_ b o ho with ⟨hb, ho⟩ | ⟨rfl, rfl⟩
      · exact (hr.obj b o ho).mono (by simp) (Ev.ext_lt hb) (fun c hc => Ev.ext_lt hc) (fun hl => hold _ (lt_of_live (hr.obj b o ho) hl))
      · obtain ⟨cells, t, fr, h1, h2, h3⟩ := hs.rel.obj _ _ hnew
        rw [OR, Ev.ext_same]
        refine ⟨cells, t, fr, h1, fun i v hi => ?_, h3⟩
        obtain ⟨v', hv', hv⟩ := h2 i v hi
        refine ⟨v', hv', ((hv.narrow (hcs v (List.mem_of_getElem? hi))).mono (Nat.le_refl _) hglob).mono ?_ fun _ _ => rfl⟩
        have := hr.many
        simp at this ⊢
        omega
    · rcases cases_ b o hb with ⟨hb, hb2⟩ | ⟨rfl, rfl⟩ <;> rcases cases_ c u' hc with ⟨hc, hc2⟩ | ⟨rfl, rfl⟩
      · rw [Ev.ext_lt hb, Ev.ext_lt hc]; exact hr.inj b c o u' hb2 hc2 hne hw hl
      · rw [Ev.ext_lt hb, Ev.ext_same]
        exact Nat.ne_of_lt (Nat.lt_of_lt_of_le (lt_of_live (hr.obj b o hb2) (live_of_wrt hw)) hfresh)
      · rw [Ev.ext_lt hc, Ev.ext_same]
        exact Nat.ne_of_gt (Nat.lt_of_lt_of_le (lt_of_live (hr.obj c u' hc2) hl) hfresh)
      · exact absurd rfl hne
    · rw [Ev.ext_lt (Nat.lt_of_lt_of_le hb hr.many)]; exact hr.glob b hb
    · obtain ⟨b, o, hb, hw, rfl⟩ := hc
      rcases cases_ b o hb with ⟨hb, hb2⟩ | ⟨rfl, rfl⟩
      · rw [Ev.ext_lt hb]; exact .inl ⟨b, o, hb2, hw, rfl⟩
      · rw [Ev.ext_same]; exact .inr hfresh
    · rcases cases_ c u hu with ⟨hc, hu2⟩ | ⟨rfl, rfl⟩
      · exact .inl ⟨u, hu2, hl⟩
      · rw [Ev.ext_same]; exact .inr (.inr hfresh)
    · cases hvr with
      | sl _ _ _ _ c' hb h0 h1 h2 =>
        have e : Ev.ext ρ (H0 ++ g).length (ρ1 H0.length) (H0 ++ g).length = ρ1 H0.length := Ev.ext_same
        have h2' : c' ≤ c + (Ev.ext ρ (H0 ++ g).length (ρ1 H0.length) (H0 ++ g).length).ext := by rw [e]; exact h2
        have hlt : (H0 ++ g).length < (H0 ++ g ++ [AObj.row cs u true]).length := by rw [List.length_append (bs := [AObj.row cs u true]), List.length_singleton]; omega
        have q := VR.sl (ρ := Ev.ext ρ (H0 ++ g).length (ρ1 H0.length)) (H0 ++ g).length 0 l c c' hlt h0 h1 h2'
        rw [e] at q
        exact q
  rcases h ρ w args' hr0 ha0 with ⟨v', h1, h2⟩ | ⟨h1, h2⟩
  · exact .inl ⟨v', h1, key _ _ h2⟩
  · exact .inr ⟨h1, h2.mono key⟩

end Go.Proofs.YtpllhhaeclnngaaGreat.Ev

/- Functions without a body, as the model runs them. Conditions: none. -/
namespace Go.Proofs.YtpllhhaeclnngaaGreat.Ev

variable {P : Program}

def add64 : List Value → Option Value
  | [.int .u64 x, .int .u64 y, .int .u64 c] =>
    if 0 ≤ x ∧ 0 ≤ y ∧ 0 ≤ c ∧ c ≤ 1 then some (.tuple #[.int .u64 ((x + y + c) % 18446744073709551616), .int .u64 ((x + y + c) / 18446744073709551616)]) else none
  | _ => none

theorem vl_three {n : Nat} {ρ : Nat → Place} {a b c : Value} {args' : Array Value} (h : VL n ρ [a, b, c] args'.toList) : ∃ a' b' c', args' = #[a', b', c'] ∧ VR n ρ a a' ∧ VR n ρ b b' ∧ VR n ρ c c' := by
  obtain ⟨l⟩ := args'
  rcases l with _ | ⟨a', _ | ⟨b', _ | ⟨c', _ | ⟨d, l⟩⟩⟩⟩ <;> first | (have := h.1; simp at this; done) | skip
  exact ⟨a', b', c', rfl, h.head, h.tail.head, h.tail.tail.head⟩

theorem add64_ok {f : FuncId} {fn : Func} (hf : P.funcs[f]? = some fn) (hb : fn.body.isNone = true) (hn : (fn.name == "runtime.NumGoroutine") = false)
    (hnext : Extern.findNext fn = none) (hfind : Extern.find fn = some add64Entry) :
    ∀ (args : List Value) (v : Value), add64 args = some v → closedV v = true ∧ ∀ (n : Nat) (ρ : Nat → Place) (args' : Array Value), VL n ρ args args'.toList → ∀ w, (callFunc f args').run P w = .ok (.value v) w := by
  intro args v h
  unfold add64 at h
  split at h
  · rename_i x y c
    split at h
    · rename_i hc
      cases h
      refine ⟨by simp [closedV, closed1], ?_⟩
      intro n ρ args' hl w
      obtain ⟨a', b', c', rfl, ha, hb', hc'⟩ := vl_three hl
      cases ha; cases hb'; cases hc'
      rw [run_callFunc_extern hf hn hb hnext hfind, run_add64 x y c hc.1 hc.2.1 hc.2.2.1 hc.2.2.2 w]
      rfl
    · cases h
  · cases h

def sub64Entry : Array Value → Sem Value := fun args => do
  let (x, y, b) ← Extern.MathBitsCarry.three "Sub64" args
  pure (Extern.MathBitsCarry.pair ((x + Extern.MathBitsCarry.m64 - y - b) % Extern.MathBitsCarry.m64) (if x < y + b then 1 else 0))

theorem run_sub64 (x y c : Nat) (hc : c ≤ 1) (w : World) : (sub64Entry #[.int .u64 x, .int .u64 y, .int .u64 c]).run P w =
    .ok (.tuple #[.int .u64 (((x + 18446744073709551616 - y - c) % 18446744073709551616 : Nat) : Int), .int .u64 (((if x < y + c then 1 else 0 : Nat)) : Int)]) w := by
  have : c = 0 ∨ c = 1 := by omega
  rcases this with rfl | rfl <;> rfl

def sub64 : List Value → Option Value
  | [.int .u64 x, .int .u64 y, .int .u64 c] =>
    if 0 ≤ x ∧ 0 ≤ y ∧ 0 ≤ c ∧ c ≤ 1 then some (.tuple #[.int .u64 (((x.toNat + 18446744073709551616 - y.toNat - c.toNat) % 18446744073709551616 : Nat) : Int), .int .u64 (((if x.toNat < y.toNat + c.toNat then 1 else 0 : Nat)) : Int)]) else none
  | _ => none

theorem sub64_ok {f : FuncId} {fn : Func} (hf : P.funcs[f]? = some fn) (hb : fn.body.isNone = true) (hn : (fn.name == "runtime.NumGoroutine") = false)
    (hnext : Extern.findNext fn = none) (hfind : Extern.find fn = some sub64Entry) :
    ∀ (args : List Value) (v : Value), sub64 args = some v → closedV v = true ∧ ∀ (n : Nat) (ρ : Nat → Place) (args' : Array Value), VL n ρ args args'.toList → ∀ w, (callFunc f args').run P w = .ok (.value v) w := by
  intro args v h
  unfold sub64 at h
  split at h
  · rename_i x y c
    split at h
    · rename_i hc
      cases h
      refine ⟨by simp [closedV, closed1], ?_⟩
      intro n ρ args' hl w
      obtain ⟨a', b', c', rfl, ha, hb', hc'⟩ := vl_three hl
      cases ha; cases hb'; cases hc'
      obtain ⟨x, rfl⟩ := Int.eq_ofNat_of_zero_le hc.1
      obtain ⟨y, rfl⟩ := Int.eq_ofNat_of_zero_le hc.2.1
      obtain ⟨c, rfl⟩ := Int.eq_ofNat_of_zero_le hc.2.2.1
      rw [run_callFunc_extern hf hn hb hnext hfind, run_sub64 x y c (by omega) w]
      rfl
    · cases h
  · cases h

/-- The place of a byte in a text. -/
def ixb : List Value → Option Value
  | [.string s, .int .u8 c] => some (.int .i64 (firstIdx s c.toNat.toUInt8))
  | _ => none

theorem vl_pair {n : Nat} {ρ : Nat → Place} {a b : Value} {args' : Array Value} (h : VL n ρ [a, b] args'.toList) : ∃ a' b', args' = #[a', b'] ∧ VR n ρ a a' ∧ VR n ρ b b' := by
  obtain ⟨l⟩ := args'
  rcases l with _ | ⟨a', _ | ⟨b', _ | ⟨c', l⟩⟩⟩ <;> first | (have := h.1; simp at this; done) | skip
  exact ⟨a', b', rfl, h.head, h.tail.head⟩

theorem ixb_ok {f : FuncId} {fn : Func} (hf : P.funcs[f]? = some fn) (hb : fn.body.isNone = true) (hn : (fn.name == "runtime.NumGoroutine") = false)
    (hnext : Extern.findNext fn = none) (hfind : Extern.find fn = some Extern.BytealgIndexByte.indexByte) :
    ∀ (args : List Value) (v : Value), ixb args = some v → closedV v = true ∧ ∀ (n : Nat) (ρ : Nat → Place) (args' : Array Value), VL n ρ args args'.toList → ∀ w, (callFunc f args').run P w = .ok (.value v) w := by
  intro args v h
  unfold ixb at h
  split at h
  · rename_i s c
    cases h
    refine ⟨rfl, ?_⟩
    intro n ρ args' hl w
    obtain ⟨a', b', rfl, ha, hb'⟩ := vl_pair hl
    cases ha; cases hb'
    rw [run_callFunc_extern hf hn hb hnext hfind, run_indexByte_string s c w]
    rfl
  · cases h

end Go.Proofs.YtpllhhaeclnngaaGreat.Ev

/- The functions of the program in the evaluator's form, as its own look-up lays them (part 0). Conditions: none; these are definitions. -/
namespace Go.Proofs.YtpllhhaeclnngaaGreat.Ev
set_option maxRecDepth 100000
def g4 : AFunc := (.code 48 (.seq (.ops [⟨(some 2), (.box (.tmp 0)), none, []⟩, ⟨(some 3), (.box (.tmp 1)), none, []⟩, ⟨(some 4), (.mov (.const (.bool false))), none, []⟩]) (.seq (.seq (.ops [⟨(some 8), (.callv (.func 9) []), none, []⟩, ⟨(some 9), (.un .not (.tmp 8)), none, []⟩]) (.cond (.tmp 9) (.seq (.ops [⟨(some 4), (.mov (.const (.bool false))), none, []⟩]) .ret) .skip)) (.seq (.ops [⟨(some 10), (.loadN 6 (.tmp 2)), none, []⟩, ⟨(some 11), (.callv (.func 12) [(.tmp 10)]), none, []⟩, ⟨(some 5), (.mov (.tmp 11)), none, []⟩]) (.seq (.ops [⟨(some 12), (.loadN 6 (.tmp 3)), none, []⟩, ⟨(some 13), (.callv (.func 12) [(.tmp 12)]), none, []⟩, ⟨(some 6), (.mov (.tmp 13)), none, []⟩]) (.seq (.seq (.ops [⟨(some 14), (.mov (.tmp 5)), none, []⟩, ⟨(some 15), (.un .not (.tmp 14)), none, []⟩, ⟨(some 16), (.mov (.tmp 15)), none, []⟩, ⟨(some 17), (.mov (.tmp 6)), (some (16, false)), []⟩, ⟨(some 18), (.un .not (.tmp 17)), (some (16, false)), []⟩, ⟨(some 19), (.pick (.tmp 16) (.const (.bool true)) (.tmp 18)), none, []⟩]) (.cond (.tmp 19) (.seq (.ops [⟨(some 4), (.mov (.const (.bool true))), none, []⟩]) .ret) .skip)) (.seq (.ops [⟨(some 20), (.loadN 6 (.tmp 2)), none, []⟩, ⟨(some 21), (.callv (.func 13) [(.tmp 20)]), none, []⟩, ⟨(some 7), (.alloc [(.slice none 0 0), (.slice none 0 0), (.slice none 0 0), (.slice none 0 0), (.slice none 0 0), (.slice none 0 0)]), none, []⟩, ⟨none, (.store 6 (.tmp 7) (.tmp 21)), none, []⟩]) (.seq (.ops [⟨(some 22), (.loadN 6 (.tmp 7)), none, []⟩, ⟨(some 23), (.loadN 6 (.tmp 2)), none, []⟩, ⟨(some 24), (.callv (.func 14) [(.tmp 22), (.tmp 23)]), none, []⟩, ⟨(some 25), (.mov (.tmp 24)), none, []⟩, ⟨(some 26), (.loadN 6 (.tmp 2)), (some (25, true)), []⟩, ⟨(some 27), (.loadN 6 (.tmp 3)), (some (25, true)), []⟩, ⟨(some 29), (.loadN 6 (.tmp 2)), (some (25, true)), []⟩, ⟨(some 30), (.loadN 6 (.tmp 3)), (some (25, true)), []⟩, ⟨(some 28), (.callv (.func 15) [(.tmp 26), (.tmp 27)]), (some (25, true)), [(2, 1), (3, 1)]⟩, ⟨(some 31), (.callv (.func 14) [(.tmp 29), (.tmp 30)]), (some (25, true)), []⟩, ⟨(some 32), (.eqb false (.tmp 28) (.tmp 31)), (some (25, true)), []⟩, ⟨(some 33), (.pick (.tmp 25) (.tmp 32) (.const (.bool false))), none, []⟩, ⟨(some 34), (.mov (.tmp 33)), none, []⟩, ⟨(some 35), (.loadN 6 (.tmp 3)), (some (34, true)), []⟩, ⟨(some 36), (.loadN 6 (.tmp 2)), (some (34, true)), []⟩, ⟨(some 38), (.loadN 6 (.tmp 2)), (some (34, true)), []⟩, ⟨(some 39), (.loadN 6 (.tmp 3)), (some (34, true)), []⟩, ⟨(some 37), (.callv (.func 15) [(.tmp 35), (.tmp 36)]), (some (34, true)), [(2, 1), (3, 1)]⟩, ⟨(some 40), (.callv (.func 14) [(.tmp 38), (.tmp 39)]), (some (34, true)), []⟩, ⟨(some 41), (.eqb false (.tmp 37) (.tmp 40)), (some (34, true)), []⟩, ⟨(some 42), (.pick (.tmp 34) (.tmp 41) (.const (.bool false))), none, []⟩, ⟨(some 43), (.mov (.tmp 42)), none, []⟩, ⟨(some 44), (.loadN 6 (.tmp 2)), (some (43, true)), []⟩, ⟨(some 45), (.loadN 6 (.tmp 7)), (some (43, true)), []⟩, ⟨(some 46), (.callv (.func 15) [(.tmp 44), (.tmp 45)]), (some (43, true)), []⟩, ⟨(some 47), (.pick (.tmp 43) (.tmp 46) (.const (.bool false))), none, []⟩, ⟨(some 4), (.mov (.tmp 47)), none, []⟩]) .ret))))))) [(.tmp 4)])
def g9 : AFunc := (.code 118 (.seq (.ops [⟨(some 0), (.mov (.const (.bool false))), none, []⟩]) (.seq (.ops [⟨(some 12), (.callv (.func 49) [(.const (.bool false))]), none, []⟩, ⟨(some 1), (.alloc [(.slice none 0 0), (.slice none 0 0), (.slice none 0 0), (.slice none 0 0), (.slice none 0 0), (.slice none 0 0)]), none, []⟩, ⟨none, (.store 6 (.tmp 1) (.tmp 12)), none, []⟩]) (.seq (.ops [⟨(some 14), (.loadN 6 (.tmp 1)), none, []⟩, ⟨(some 15), (.callv (.func 10) [(.tmp 14)]), none, []⟩, ⟨(some 13), (.mov (.tmp 15)), none, []⟩, ⟨(some 16), (.extract (.tmp 13) 0), none, []⟩, ⟨(some 17), (.extract (.tmp 13) 1), none, []⟩, ⟨(some 2), (.mov (.tmp 16)), none, []⟩, ⟨(some 3), (.mov (.tmp 17)), none, []⟩]) (.seq (.ops [⟨(some 19), (.callv (.func 49) [(.const (.bool true))]), none, []⟩, ⟨(some 20), (.callv (.func 10) [(.tmp 19)]), none, []⟩, ⟨(some 18), (.mov (.tmp 20)), none, []⟩, ⟨(some 21), (.extract (.tmp 18) 0), none, []⟩, ⟨(some 22), (.extract (.tmp 18) 1), none, []⟩, ⟨(some 4), (.mov (.tmp 21)), none, []⟩, ⟨(some 5), (.mov (.tmp 22)), none, []⟩]) (.seq (.ops [⟨(some 24), (.loadN 6 (.tmp 1)), none, []⟩, ⟨(some 25), (.callv (.func 28) [(.tmp 24), (.const (.string (bs [114, 111, 117, 116, 101])))]), none, []⟩, ⟨(some 23), (.mov (.tmp 25)), none, []⟩, ⟨(some 26), (.extract (.tmp 23) 0), none, []⟩, ⟨(some 27), (.extract (.tmp 23) 1), none, []⟩, ⟨(some 6), (.mov (.tmp 26)), none, []⟩, ⟨(some 7), (.mov (.tmp 27)), none, []⟩]) (.seq (.ops [⟨(some 28), (.loadN 6 (.tmp 1)), none, []⟩, ⟨(some 29), (.callv (.func 19) [(.tmp 28)]), none, []⟩, ⟨(some 8), (.mov (.tmp 29)), none, []⟩]) (.seq (.ops [⟨(some 31), (.loadN 6 (.tmp 1)), none, []⟩, ⟨(some 32), (.callv (.func 27) [(.tmp 31), (.const (.string (bs [114, 111, 117, 116, 101])))]), none, []⟩, ⟨(some 30), (.mov (.tmp 32)), none, []⟩, ⟨(some 33), (.extract (.tmp 30) 0), none, []⟩, ⟨(some 34), (.extract (.tmp 30) 1), none, []⟩, ⟨(some 35), (.extract (.tmp 30) 2), none, []⟩, ⟨(some 9), (.alloc [(.string (bs [])), (.slice none 0 0), (.slice none 0 0), (.int .i64 0), (.string (bs [])), (.slice none 0 0), (.bool false)]), none, []⟩, ⟨none, (.store 7 (.tmp 9) (.tmp 33)), none, []⟩, ⟨(some 10), (.mov (.tmp 34)), none, []⟩, ⟨(some 11), (.mov (.tmp 35)), none, []⟩]) (.seq (.seq (.ops [⟨(some 36), (.mov (.tmp 2)), none, []⟩, ⟨(some 37), (.bin .neq (.tmp 36) (.const (.int .i64 0))), none, []⟩, ⟨(some 38), (.mov (.tmp 37)), none, []⟩, ⟨(some 39), (.mov (.tmp 3)), (some (38, false)), []⟩, ⟨(some 40), (.bin .neq (.tmp 39) (.const (.string (bs [])))), (some (38, false)), []⟩, ⟨(some 41), (.pick (.tmp 38) (.const (.bool true)) (.tmp 40)), none, []⟩, ⟨(some 42), (.mov (.tmp 41)), none, []⟩, ⟨(some 43), (.mov (.tmp 4)), (some (42, false)), []⟩, ⟨(some 44), (.bin .neq (.tmp 43) (.const (.int .i64 76))), (some (42, false)), []⟩, ⟨(some 45), (.pick (.tmp 42) (.const (.bool true)) (.tmp 44)), none, []⟩, ⟨(some 46), (.mov (.tmp 45)), none, []⟩, ⟨(some 47), (.mov (.tmp 5)), (some (46, false)), []⟩, ⟨(some 48), (.bin .neq (.tmp 47) (.const (.string (bs [116, 97, 98, 108, 101, 32, 114, 111, 117, 116, 101])))), (some (46, false)), []⟩, ⟨(some 49), (.pick (.tmp 46) (.const (.bool true)) (.tmp 48)), none, []⟩, ⟨(some 50), (.mov (.tmp 49)), none, []⟩, ⟨(some 51), (.mov (.tmp 7)), (some (50, false)), []⟩, ⟨(some 52), (.bin .neq (.tmp 51) (.const (.int .i64 0))), (some (50, false)), []⟩, ⟨(some 53), (.pick (.tmp 50) (.const (.bool true)) (.tmp 52)), none, []⟩, ⟨(some 54), (.mov (.tmp 53)), none, []⟩, ⟨(some 55), (.mov (.tmp 6)), (some (54, false)), []⟩, ⟨(some 56), (.lenSl (.tmp 55)), (some (54, false)), []⟩, ⟨(some 57), (.bin .neq (.tmp 56) (.const (.int .i64 1))), (some (54, false)), []⟩, ⟨(some 58), (.pick (.tmp 54) (.const (.bool true)) (.tmp 57)), none, []⟩, ⟨(some 59), (.mov (.tmp 58)), none, []⟩, ⟨(some 60), (.mov (.tmp 6)), (some (59, false)), []⟩, ⟨(some 61), (.iAddrSl 1 (.tmp 60) (.const (.int .i64 0))), (some (59, false)), []⟩, ⟨(some 62), (.load1 (.tmp 61)), (some (59, false)), []⟩, ⟨(some 63), (.bin .neq (.tmp 62) (.const (.int .i64 32))), (some (59, false)), []⟩, ⟨(some 64), (.pick (.tmp 59) (.const (.bool true)) (.tmp 63)), none, []⟩, ⟨(some 65), (.mov (.tmp 64)), none, []⟩, ⟨(some 66), (.mov (.tmp 8)), (some (65, false)), []⟩, ⟨(some 67), (.lenSl (.tmp 66)), (some (65, false)), []⟩, ⟨(some 68), (.bin .neq (.tmp 67) (.const (.int .i64 1))), (some (65, false)), []⟩, ⟨(some 69), (.pick (.tmp 65) (.const (.bool true)) (.tmp 68)), none, []⟩, ⟨(some 70), (.mov (.tmp 69)), none, []⟩, ⟨(some 71), (.mov (.tmp 8)), (some (70, false)), []⟩, ⟨(some 72), (.iAddrSl 1 (.tmp 71) (.const (.int .i64 0))), (some (70, false)), []⟩, ⟨(some 73), (.load1 (.tmp 72)), (some (70, false)), []⟩, ⟨(some 74), (.bin .neq (.tmp 73) (.const (.string (bs [114, 111, 117, 116, 101])))), (some (70, false)), []⟩, ⟨(some 75), (.pick (.tmp 70) (.const (.bool true)) (.tmp 74)), none, []⟩, ⟨(some 76), (.mov (.tmp 75)), none, []⟩, ⟨(some 77), (.mov (.tmp 11)), (some (76, false)), []⟩, ⟨(some 78), (.un .not (.tmp 77)), (some (76, false)), []⟩, ⟨(some 79), (.pick (.tmp 76) (.const (.bool true)) (.tmp 78)), none, []⟩, ⟨(some 80), (.mov (.tmp 79)), none, []⟩, ⟨(some 81), (.mov (.tmp 10)), (some (80, false)), []⟩, ⟨(some 82), (.bin .neq (.tmp 81) (.const (.int .i64 0))), (some (80, false)), []⟩, ⟨(some 83), (.pick (.tmp 80) (.const (.bool true)) (.tmp 82)), none, []⟩, ⟨(some 84), (.mov (.tmp 83)), none, []⟩, ⟨(some 85), (.fAddr 3 (.tmp 9)), (some (84, false)), []⟩, ⟨(some 86), (.load1 (.tmp 85)), (some (84, false)), []⟩, ⟨(some 87), (.bin .neq (.tmp 86) (.const (.int .i64 4))), (some (84, false)), []⟩, ⟨(some 88), (.pick (.tmp 84) (.const (.bool true)) (.tmp 87)), none, []⟩]) (.cond (.tmp 88) (.seq (.ops [⟨(some 0), (.mov (.const (.bool false))), none, []⟩]) .ret) .skip)) (.seq (.ops [⟨(some 89), (.loadN 6 (.tmp 1)), none, []⟩, ⟨(some 90), (.callv (.func 20) [(.tmp 89)]), none, []⟩, ⟨(some 91), (.bin .eql (.tmp 90) (.const (.int .i64 1))), none, []⟩, ⟨(some 92), (.mov (.tmp 91)), none, []⟩, ⟨(some 93), (.loadN 7 (.tmp 9)), (some (92, true)), []⟩, ⟨(some 94), (.callv (.func 22) [(.tmp 93)]), (some (92, true)), []⟩, ⟨(some 95), (.bin .eql (.tmp 94) (.const (.int .i64 2))), (some (92, true)), []⟩, ⟨(some 96), (.pick (.tmp 92) (.tmp 95) (.const (.bool false))), none, []⟩, ⟨(some 97), (.mov (.tmp 96)), none, []⟩, ⟨(some 98), (.callv (.func 48) [(.const (.string (bs [114, 111, 117, 116, 101])))]), (some (97, true)), []⟩, ⟨(some 99), (.pick (.tmp 97) (.tmp 98) (.const (.bool false))), none, []⟩, ⟨(some 100), (.mov (.tmp 99)), none, []⟩, ⟨(some 102), (.build [(.string (bs [])), (.string (bs []))] [(0, (1, (.const (.string (bs [109, 101, 116, 97]))))), (1, (1, (.const (.string (bs [112, 111, 114, 116])))))]), (some (100, true)), []⟩, ⟨(some 101), (.loadN 6 (.tmp 1)), (some (100, true)), []⟩, ⟨(some 103), (.callv (.func 50) [(.tmp 101), (.tmp 102)]), (some (100, true)), []⟩, ⟨(some 104), (.bin .eql (.tmp 103) (.const (.int .i64 9))), (some (100, true)), []⟩, ⟨(some 105), (.pick (.tmp 100) (.tmp 104) (.const (.bool false))), none, []⟩, ⟨(some 106), (.mov (.tmp 105)), none, []⟩, ⟨(some 107), (.loadN 6 (.tmp 1)), (some (106, true)), []⟩, ⟨(some 108), (.loadN 6 (.tmp 1)), (some (106, true)), []⟩, ⟨(some 109), (.callv (.func 13) [(.tmp 108)]), (some (106, true)), [(1, 1)]⟩, ⟨(some 110), (.callv (.func 15) [(.tmp 107), (.tmp 109)]), (some (106, true)), []⟩, ⟨(some 111), (.pick (.tmp 106) (.tmp 110) (.const (.bool false))), none, []⟩, ⟨(some 112), (.mov (.tmp 111)), none, []⟩, ⟨(some 113), (.loadN 6 (.tmp 1)), (some (112, true)), []⟩, ⟨(some 114), (.callv (.func 49) [(.const (.bool true))]), (some (112, true)), [(1, 1)]⟩, ⟨(some 115), (.callv (.func 15) [(.tmp 113), (.tmp 114)]), (some (112, true)), []⟩, ⟨(some 116), (.un .not (.tmp 115)), (some (112, true)), []⟩, ⟨(some 117), (.pick (.tmp 112) (.tmp 116) (.const (.bool false))), none, []⟩, ⟨(some 0), (.mov (.tmp 117)), none, []⟩]) .ret))))))))) [(.tmp 0)])
def g10 : AFunc := (.dfr 35 (.pre (.ops [⟨(some 1), (.box (.tmp 0)), none, []⟩, ⟨(some 2), (.alloc [(.int .i64 0)]), none, []⟩, ⟨(some 3), (.alloc [(.string (bs []))]), none, []⟩]) (.here 7 51 [(.tmp 2), (.tmp 3)] (.seq (.ops [⟨(some 8), (.loadN 6 (.tmp 1)), none, []⟩, ⟨(some 9), (.build [(.slice none 0 0), (.slice none 0 0), (.slice none 0 0), (.slice none 0 0), (.slice none 0 0), (.slice none 0 0), (.string (bs []))] [(0, (6, (.tmp 8)))]), none, []⟩, ⟨(some 4), (.alloc [(.slice none 0 0), (.slice none 0 0), (.slice none 0 0), (.slice none 0 0), (.slice none 0 0), (.slice none 0 0), (.string (bs []))]), none, []⟩, ⟨none, (.store 7 (.tmp 4) (.tmp 9)), none, []⟩]) (.seq (.ops [⟨(some 10), (.callv (.func 52) [(.tmp 4)]), none, []⟩]) (.seq (.ops [⟨(some 11), (.fAddr 6 (.tmp 4)), none, []⟩, ⟨none, (.store 1 (.tmp 11) (.const (.string (bs [109, 101, 116, 97])))), none, []⟩]) (.seq (.ops [⟨(some 12), (.fAddr 1 (.tmp 1)), none, []⟩, ⟨(some 13), (.load1 (.tmp 12)), none, []⟩, ⟨(some 14), (.lenSl (.tmp 13)), none, []⟩, ⟨(some 15), (.bin .leq (.tmp 14) (.const (.int .i64 32))), none, []⟩, ⟨(some 16), (.callv (.func 53) [(.tmp 4), (.tmp 15), (.const (.int .i64 74))]), none, []⟩]) (.seq (.ops [⟨(some 17), (.fAddr 1 (.tmp 1)), none, []⟩, ⟨(some 18), (.load1 (.tmp 17)), none, []⟩, ⟨(some 19), (.callv (.func 54) [(.tmp 4), (.tmp 18)]), none, []⟩]) (.seq (.ops [⟨(some 20), (.callv (.func 55) [(.tmp 4)]), none, []⟩]) (.seq (.ops [⟨(some 21), (.callv (.func 56) [(.tmp 4)]), none, []⟩]) (.seq (.ops [⟨(some 22), (.callv (.func 57) [(.tmp 4)]), none, []⟩]) (.seq (.ops [⟨(some 23), (.fAddr 6 (.tmp 4)), none, []⟩, ⟨none, (.store 1 (.tmp 23) (.const (.string (bs [99, 111, 110, 116, 114, 111, 108])))), none, []⟩]) (.seq (.seq (.ops [⟨(some 24), (.loadN 6 (.tmp 1)), none, []⟩, ⟨(some 25), (.callv (.func 58) [(.tmp 24)]), none, []⟩, ⟨(some 5), (.mov (.tmp 25)), none, []⟩]) (.seq (.ops [⟨(some 26), (.mov (.tmp 5)), none, []⟩, ⟨(some 27), (.bin .neq (.tmp 26) (.const (.int .i64 0))), none, []⟩]) (.cond (.tmp 27) (.ops [⟨(some 28), (.mov (.tmp 5)), none, []⟩, ⟨(some 29), (.callv (.func 53) [(.tmp 4), (.const (.bool false)), (.tmp 28)]), none, []⟩]) .skip))) (.seq (.ops [⟨(some 30), .mkMap, none, []⟩, ⟨(some 6), (.alloc [(.map none)]), none, []⟩, ⟨none, (.store 1 (.tmp 6) (.tmp 30)), none, []⟩]) (.seq (.ops [⟨(some 31), (.fAddr 5 (.tmp 1)), none, []⟩, ⟨(some 32), (.load1 (.tmp 31)), none, []⟩, ⟨(some 33), (.mkFunc 60 [] [(.tmp 4), (.tmp 6)]), none, []⟩, ⟨(some 34), (.callv (.func 59) [(.tmp 32), (.const (.int .i64 1)), (.tmp 33)]), none, []⟩]) (.seq (.ops [⟨none, (.store 1 (.tmp 2) (.const (.int .i64 0))), none, []⟩, ⟨none, (.store 1 (.tmp 3) (.const (.string (bs [])))), none, []⟩]) .ret))))))))))))))) [(.cell1 2), (.cell1 3)])
def g12 : AFunc := (.code 10 (.seq (.ops [⟨(some 1), (.box (.tmp 0)), none, []⟩, ⟨(some 2), (.mov (.const (.bool false))), none, []⟩]) (.seq (.ops [⟨(some 4), (.callv (.func 68) []), none, []⟩, ⟨(some 3), (.mov (.tmp 4)), none, []⟩]) (.seq (.ops [⟨(some 5), (.mov (.tmp 3)), none, []⟩, ⟨(some 6), (.loadN 6 (.tmp 1)), none, []⟩, ⟨(some 7), (.callv (.func 69) [(.tmp 5), (.tmp 6)]), none, []⟩]) (.seq (.ops [⟨(some 8), (.mov (.tmp 3)), none, []⟩, ⟨(some 9), (.callv (.func 70) [(.tmp 8)]), none, []⟩, ⟨(some 2), (.mov (.tmp 9)), none, []⟩]) .ret)))) [(.tmp 2)])
def g13 : AFunc := (.code 104 (.seq (.ops [⟨(some 1), (.box (.tmp 0)), none, []⟩, ⟨(some 2), (.alloc [(.slice none 0 0), (.slice none 0 0), (.slice none 0 0), (.slice none 0 0), (.slice none 0 0), (.slice none 0 0)]), none, []⟩]) (.seq (.ops [⟨(some 7), (.fAddr 0 (.tmp 1)), none, []⟩, ⟨(some 8), (.load1 (.tmp 7)), none, []⟩, ⟨(some 9), (.callv (.func 71) [(.tmp 8)]), none, []⟩, ⟨(some 10), (.fAddr 0 (.tmp 1)), none, []⟩, ⟨none, (.store 1 (.tmp 10) (.tmp 9)), none, []⟩]) (.seq (.seq (.ops [⟨(some 11), (.fAddr 0 (.tmp 1)), none, []⟩, ⟨(some 12), (.load1 (.tmp 11)), none, []⟩, ⟨(some 13), (.lenSl (.tmp 12)), none, []⟩, ⟨(some 14), (.mov (.const (.int .i64 0))), none, []⟩]) (.block 0 (.loop (.seq (.ops [⟨(some 15), (.bin .lss (.tmp 14) (.tmp 13)), none, []⟩]) (.seq (.cond (.tmp 15) .skip (.exit 0)) (.seq (.block 1 (.seq (.ops [⟨(some 16), (.mov (.tmp 14)), none, []⟩, ⟨(some 3), (.mov (.tmp 16)), none, []⟩]) (.ops [⟨(some 17), (.fAddr 0 (.tmp 1)), none, []⟩, ⟨(some 19), (.mov (.tmp 3)), none, []⟩, ⟨(some 20), (.fAddr 0 (.tmp 1)), none, []⟩, ⟨(some 22), (.mov (.tmp 3)), none, []⟩, ⟨(some 18), (.load1 (.tmp 17)), none, []⟩, ⟨(some 21), (.load1 (.tmp 20)), none, []⟩, ⟨(some 23), (.iAddrSl 2 (.tmp 21) (.tmp 22)), none, []⟩, ⟨(some 24), (.fAddr 1 (.tmp 23)), none, []⟩, ⟨(some 25), (.load1 (.tmp 24)), none, []⟩, ⟨(some 26), (.callv (.func 72) [(.tmp 25)]), none, [(17, 1)]⟩, ⟨(some 27), (.iAddrSl 2 (.tmp 18) (.tmp 19)), none, []⟩, ⟨(some 28), (.fAddr 1 (.tmp 27)), none, []⟩, ⟨none, (.store 1 (.tmp 28) (.tmp 26)), none, []⟩]))) (.ops [⟨(some 29), (.bin .add (.tmp 14) (.const (.int .i64 1))), none, []⟩, ⟨(some 14), (.mov (.tmp 29)), none, []⟩]))))))) (.seq (.ops [⟨(some 30), (.fAddr 1 (.tmp 1)), none, []⟩, ⟨(some 31), (.load1 (.tmp 30)), none, []⟩, ⟨(some 32), (.callv (.func 72) [(.tmp 31)]), none, []⟩, ⟨(some 33), (.fAddr 1 (.tmp 1)), none, []⟩, ⟨none, (.store 1 (.tmp 33) (.tmp 32)), none, []⟩]) (.seq (.ops [⟨(some 34), (.fAddr 2 (.tmp 1)), none, []⟩, ⟨(some 35), (.load1 (.tmp 34)), none, []⟩, ⟨(some 36), (.callv (.func 73) [(.tmp 35)]), none, []⟩, ⟨(some 37), (.fAddr 2 (.tmp 1)), none, []⟩, ⟨none, (.store 1 (.tmp 37) (.tmp 36)), none, []⟩]) (.seq (.seq (.ops [⟨(some 38), (.fAddr 2 (.tmp 1)), none, []⟩, ⟨(some 39), (.load1 (.tmp 38)), none, []⟩, ⟨(some 40), (.lenSl (.tmp 39)), none, []⟩, ⟨(some 41), (.mov (.const (.int .i64 0))), none, []⟩]) (.block 2 (.loop (.seq (.ops [⟨(some 42), (.bin .lss (.tmp 41) (.tmp 40)), none, []⟩]) (.seq (.cond (.tmp 42) .skip (.exit 2)) (.seq (.block 3 (.seq (.ops [⟨(some 43), (.mov (.tmp 41)), none, []⟩, ⟨(some 4), (.mov (.tmp 43)), none, []⟩]) (.ops [⟨(some 44), (.fAddr 2 (.tmp 1)), none, []⟩, ⟨(some 46), (.mov (.tmp 4)), none, []⟩, ⟨(some 47), (.fAddr 2 (.tmp 1)), none, []⟩, ⟨(some 49), (.mov (.tmp 4)), none, []⟩, ⟨(some 45), (.load1 (.tmp 44)), none, []⟩, ⟨(some 48), (.load1 (.tmp 47)), none, []⟩, ⟨(some 50), (.iAddrSl 6 (.tmp 48) (.tmp 49)), none, []⟩, ⟨(some 51), (.fAddr 4 (.tmp 50)), none, []⟩, ⟨(some 52), (.load1 (.tmp 51)), none, []⟩, ⟨(some 53), (.callv (.func 74) [(.tmp 52)]), none, [(44, 1)]⟩, ⟨(some 54), (.iAddrSl 6 (.tmp 45) (.tmp 46)), none, []⟩, ⟨(some 55), (.fAddr 4 (.tmp 54)), none, []⟩, ⟨none, (.store 1 (.tmp 55) (.tmp 53)), none, []⟩]))) (.ops [⟨(some 56), (.bin .add (.tmp 41) (.const (.int .i64 1))), none, []⟩, ⟨(some 41), (.mov (.tmp 56)), none, []⟩]))))))) (.seq (.ops [⟨(some 57), (.fAddr 3 (.tmp 1)), none, []⟩, ⟨(some 58), (.load1 (.tmp 57)), none, []⟩, ⟨(some 59), (.callv (.func 75) [(.tmp 58)]), none, []⟩, ⟨(some 60), (.fAddr 3 (.tmp 1)), none, []⟩, ⟨none, (.store 1 (.tmp 60) (.tmp 59)), none, []⟩]) (.seq (.seq (.ops [⟨(some 61), (.fAddr 3 (.tmp 1)), none, []⟩, ⟨(some 62), (.load1 (.tmp 61)), none, []⟩, ⟨(some 63), (.lenSl (.tmp 62)), none, []⟩, ⟨(some 64), (.mov (.const (.int .i64 0))), none, []⟩]) (.block 4 (.loop (.seq (.ops [⟨(some 65), (.bin .lss (.tmp 64) (.tmp 63)), none, []⟩]) (.seq (.cond (.tmp 65) .skip (.exit 4)) (.seq (.block 5 (.seq (.ops [⟨(some 66), (.mov (.tmp 64)), none, []⟩, ⟨(some 5), (.mov (.tmp 66)), none, []⟩]) (.ops [⟨(some 67), (.fAddr 3 (.tmp 1)), none, []⟩, ⟨(some 69), (.mov (.tmp 5)), none, []⟩, ⟨(some 70), (.fAddr 3 (.tmp 1)), none, []⟩, ⟨(some 72), (.mov (.tmp 5)), none, []⟩, ⟨(some 68), (.load1 (.tmp 67)), none, []⟩, ⟨(some 71), (.load1 (.tmp 70)), none, []⟩, ⟨(some 73), (.iAddrSl 3 (.tmp 71) (.tmp 72)), none, []⟩, ⟨(some 74), (.loadN 3 (.tmp 73)), none, []⟩, ⟨(some 75), (.callv (.func 76) [(.tmp 74)]), none, [(67, 1)]⟩, ⟨(some 76), (.iAddrSl 3 (.tmp 68) (.tmp 69)), none, []⟩, ⟨none, (.store 3 (.tmp 76) (.tmp 75)), none, []⟩]))) (.ops [⟨(some 77), (.bin .add (.tmp 64) (.const (.int .i64 1))), none, []⟩, ⟨(some 64), (.mov (.tmp 77)), none, []⟩]))))))) (.seq (.ops [⟨(some 78), (.fAddr 4 (.tmp 1)), none, []⟩, ⟨(some 79), (.load1 (.tmp 78)), none, []⟩, ⟨(some 80), (.callv (.func 77) [(.tmp 79)]), none, []⟩, ⟨(some 81), (.fAddr 4 (.tmp 1)), none, []⟩, ⟨none, (.store 1 (.tmp 81) (.tmp 80)), none, []⟩]) (.seq (.seq (.ops [⟨(some 82), (.fAddr 4 (.tmp 1)), none, []⟩, ⟨(some 83), (.load1 (.tmp 82)), none, []⟩, ⟨(some 84), (.lenSl (.tmp 83)), none, []⟩, ⟨(some 85), (.mov (.const (.int .i64 0))), none, []⟩]) (.block 6 (.loop (.seq (.ops [⟨(some 86), (.bin .lss (.tmp 85) (.tmp 84)), none, []⟩]) (.seq (.cond (.tmp 86) .skip (.exit 6)) (.seq (.block 7 (.seq (.ops [⟨(some 87), (.mov (.tmp 85)), none, []⟩, ⟨(some 6), (.mov (.tmp 87)), none, []⟩]) (.ops [⟨(some 88), (.fAddr 4 (.tmp 1)), none, []⟩, ⟨(some 90), (.mov (.tmp 6)), none, []⟩, ⟨(some 91), (.fAddr 4 (.tmp 1)), none, []⟩, ⟨(some 93), (.mov (.tmp 6)), none, []⟩, ⟨(some 89), (.load1 (.tmp 88)), none, []⟩, ⟨(some 92), (.load1 (.tmp 91)), none, []⟩, ⟨(some 94), (.iAddrSl 7 (.tmp 92) (.tmp 93)), none, []⟩, ⟨(some 95), (.loadN 7 (.tmp 94)), none, []⟩, ⟨(some 96), (.callv (.func 78) [(.tmp 95)]), none, [(88, 1)]⟩, ⟨(some 97), (.iAddrSl 7 (.tmp 89) (.tmp 90)), none, []⟩, ⟨none, (.store 7 (.tmp 97) (.tmp 96)), none, []⟩]))) (.ops [⟨(some 98), (.bin .add (.tmp 85) (.const (.int .i64 1))), none, []⟩, ⟨(some 85), (.mov (.tmp 98)), none, []⟩]))))))) (.seq (.ops [⟨(some 99), (.fAddr 5 (.tmp 1)), none, []⟩, ⟨(some 100), (.load1 (.tmp 99)), none, []⟩, ⟨(some 101), (.callv (.func 79) [(.tmp 100)]), none, []⟩, ⟨(some 102), (.fAddr 5 (.tmp 1)), none, []⟩, ⟨none, (.store 1 (.tmp 102) (.tmp 101)), none, []⟩]) (.seq (.ops [⟨(some 103), (.loadN 6 (.tmp 1)), none, []⟩, ⟨none, (.store 6 (.tmp 2) (.tmp 103)), none, []⟩]) .ret)))))))))))) [(.cellN 2 6)])
def g14 : AFunc := (.code 144 (.seq (.ops [⟨(some 2), (.box (.tmp 0)), none, []⟩, ⟨(some 3), (.box (.tmp 1)), none, []⟩, ⟨(some 4), (.mov (.const (.bool false))), none, []⟩]) (.seq (.ops [⟨(some 15), (.fAddr 1 (.tmp 2)), none, []⟩, ⟨(some 16), (.load1 (.tmp 15)), none, []⟩, ⟨(some 17), (.fAddr 1 (.tmp 3)), none, []⟩, ⟨(some 18), (.load1 (.tmp 17)), none, []⟩, ⟨(some 19), (.callv (.func 80) [(.tmp 16), (.tmp 18)]), none, []⟩, ⟨(some 5), (.mov (.tmp 19)), none, []⟩]) (.seq (.seq (.ops [⟨(some 20), (.mov (.tmp 5)), none, []⟩, ⟨(some 21), (.un .not (.tmp 20)), none, []⟩, ⟨(some 22), (.mov (.tmp 21)), none, []⟩, ⟨(some 23), (.fAddr 0 (.tmp 2)), (some (22, false)), []⟩, ⟨(some 24), (.load1 (.tmp 23)), (some (22, false)), []⟩, ⟨(some 25), (.lenSl (.tmp 24)), (some (22, false)), []⟩, ⟨(some 26), (.fAddr 0 (.tmp 3)), (some (22, false)), []⟩, ⟨(some 27), (.load1 (.tmp 26)), (some (22, false)), []⟩, ⟨(some 28), (.lenSl (.tmp 27)), (some (22, false)), []⟩, ⟨(some 29), (.bin .neq (.tmp 25) (.tmp 28)), (some (22, false)), []⟩, ⟨(some 30), (.pick (.tmp 22) (.const (.bool true)) (.tmp 29)), none, []⟩, ⟨(some 31), (.mov (.tmp 30)), none, []⟩, ⟨(some 32), (.fAddr 2 (.tmp 2)), (some (31, false)), []⟩, ⟨(some 33), (.load1 (.tmp 32)), (some (31, false)), []⟩, ⟨(some 34), (.lenSl (.tmp 33)), (some (31, false)), []⟩, ⟨(some 35), (.fAddr 2 (.tmp 3)), (some (31, false)), []⟩, ⟨(some 36), (.load1 (.tmp 35)), (some (31, false)), []⟩, ⟨(some 37), (.lenSl (.tmp 36)), (some (31, false)), []⟩, ⟨(some 38), (.bin .neq (.tmp 34) (.tmp 37)), (some (31, false)), []⟩, ⟨(some 39), (.pick (.tmp 31) (.const (.bool true)) (.tmp 38)), none, []⟩, ⟨(some 40), (.mov (.tmp 39)), none, []⟩, ⟨(some 41), (.fAddr 3 (.tmp 2)), (some (40, false)), []⟩, ⟨(some 42), (.load1 (.tmp 41)), (some (40, false)), []⟩, ⟨(some 43), (.lenSl (.tmp 42)), (some (40, false)), []⟩, ⟨(some 44), (.fAddr 3 (.tmp 3)), (some (40, false)), []⟩, ⟨(some 45), (.load1 (.tmp 44)), (some (40, false)), []⟩, ⟨(some 46), (.lenSl (.tmp 45)), (some (40, false)), []⟩, ⟨(some 47), (.bin .neq (.tmp 43) (.tmp 46)), (some (40, false)), []⟩, ⟨(some 48), (.pick (.tmp 40) (.const (.bool true)) (.tmp 47)), none, []⟩, ⟨(some 49), (.mov (.tmp 48)), none, []⟩, ⟨(some 50), (.fAddr 4 (.tmp 2)), (some (49, false)), []⟩, ⟨(some 51), (.load1 (.tmp 50)), (some (49, false)), []⟩, ⟨(some 52), (.lenSl (.tmp 51)), (some (49, false)), []⟩, ⟨(some 53), (.fAddr 4 (.tmp 3)), (some (49, false)), []⟩, ⟨(some 54), (.load1 (.tmp 53)), (some (49, false)), []⟩, ⟨(some 55), (.lenSl (.tmp 54)), (some (49, false)), []⟩, ⟨(some 56), (.bin .neq (.tmp 52) (.tmp 55)), (some (49, false)), []⟩, ⟨(some 57), (.pick (.tmp 49) (.const (.bool true)) (.tmp 56)), none, []⟩]) (.cond (.tmp 57) (.seq (.ops [⟨(some 4), (.mov (.const (.bool false))), none, []⟩]) .ret) .skip)) (.seq (.seq (.ops [⟨(some 6), (.mov (.const (.int .i64 0))), none, []⟩]) (.block 0 (.loop (.seq (.seq (.ops [⟨(some 58), (.mov (.tmp 6)), none, []⟩, ⟨(some 59), (.fAddr 0 (.tmp 2)), none, []⟩, ⟨(some 60), (.load1 (.tmp 59)), none, []⟩, ⟨(some 61), (.lenSl (.tmp 60)), none, []⟩, ⟨(some 62), (.bin .lss (.tmp 58) (.tmp 61)), none, []⟩]) (.cond (.tmp 62) .skip (.exit 0))) (.seq (.block 1 (.seq (.ops [⟨(some 65), (.fAddr 0 (.tmp 2)), none, []⟩, ⟨(some 67), (.mov (.tmp 6)), none, []⟩, ⟨(some 70), (.fAddr 0 (.tmp 3)), none, []⟩, ⟨(some 72), (.mov (.tmp 6)), none, []⟩, ⟨(some 66), (.load1 (.tmp 65)), none, []⟩, ⟨(some 68), (.iAddrSl 2 (.tmp 66) (.tmp 67)), none, []⟩, ⟨(some 69), (.loadN 2 (.tmp 68)), none, []⟩, ⟨(some 71), (.load1 (.tmp 70)), none, []⟩, ⟨(some 73), (.iAddrSl 2 (.tmp 71) (.tmp 72)), none, []⟩, ⟨(some 74), (.loadN 2 (.tmp 73)), none, []⟩, ⟨(some 75), (.callv (.func 38) [(.tmp 69), (.tmp 74)]), none, []⟩, ⟨(some 7), (.mov (.tmp 75)), none, []⟩]) (.seq (.ops [⟨(some 76), (.mov (.tmp 7)), none, []⟩, ⟨(some 77), (.un .not (.tmp 76)), none, []⟩]) (.cond (.tmp 77) (.seq (.ops [⟨(some 4), (.mov (.const (.bool false))), none, []⟩]) .ret) .skip)))) (.ops [⟨(some 63), (.mov (.tmp 6)), none, []⟩, ⟨(some 64), (.bin .add (.tmp 63) (.const (.int .i64 1))), none, []⟩, ⟨(some 6), (.mov (.tmp 64)), none, []⟩])))))) (.seq (.seq (.ops [⟨(some 8), (.mov (.const (.int .i64 0))), none, []⟩]) (.block 2 (.loop (.seq (.seq (.ops [⟨(some 78), (.mov (.tmp 8)), none, []⟩, ⟨(some 79), (.fAddr 2 (.tmp 2)), none, []⟩, ⟨(some 80), (.load1 (.tmp 79)), none, []⟩, ⟨(some 81), (.lenSl (.tmp 80)), none, []⟩, ⟨(some 82), (.bin .lss (.tmp 78) (.tmp 81)), none, []⟩]) (.cond (.tmp 82) .skip (.exit 2))) (.seq (.block 3 (.seq (.ops [⟨(some 85), (.fAddr 2 (.tmp 2)), none, []⟩, ⟨(some 87), (.mov (.tmp 8)), none, []⟩, ⟨(some 90), (.fAddr 2 (.tmp 3)), none, []⟩, ⟨(some 92), (.mov (.tmp 8)), none, []⟩, ⟨(some 86), (.load1 (.tmp 85)), none, []⟩, ⟨(some 88), (.iAddrSl 6 (.tmp 86) (.tmp 87)), none, []⟩, ⟨(some 89), (.loadN 6 (.tmp 88)), none, []⟩, ⟨(some 91), (.load1 (.tmp 90)), none, []⟩, ⟨(some 93), (.iAddrSl 6 (.tmp 91) (.tmp 92)), none, []⟩, ⟨(some 94), (.loadN 6 (.tmp 93)), none, []⟩, ⟨(some 95), (.callv (.func 81) [(.tmp 89), (.tmp 94)]), none, []⟩, ⟨(some 9), (.mov (.tmp 95)), none, []⟩]) (.seq (.ops [⟨(some 96), (.mov (.tmp 9)), none, []⟩, ⟨(some 97), (.un .not (.tmp 96)), none, []⟩]) (.cond (.tmp 97) (.seq (.ops [⟨(some 4), (.mov (.const (.bool false))), none, []⟩]) .ret) .skip)))) (.ops [⟨(some 83), (.mov (.tmp 8)), none, []⟩, ⟨(some 84), (.bin .add (.tmp 83) (.const (.int .i64 1))), none, []⟩, ⟨(some 8), (.mov (.tmp 84)), none, []⟩])))))) (.seq (.seq (.ops [⟨(some 10), (.mov (.const (.int .i64 0))), none, []⟩]) (.block 4 (.loop (.seq (.seq (.ops [⟨(some 98), (.mov (.tmp 10)), none, []⟩, ⟨(some 99), (.fAddr 3 (.tmp 2)), none, []⟩, ⟨(some 100), (.load1 (.tmp 99)), none, []⟩, ⟨(some 101), (.lenSl (.tmp 100)), none, []⟩, ⟨(some 102), (.bin .lss (.tmp 98) (.tmp 101)), none, []⟩]) (.cond (.tmp 102) .skip (.exit 4))) (.seq (.block 5 (.seq (.ops [⟨(some 105), (.fAddr 3 (.tmp 2)), none, []⟩, ⟨(some 107), (.mov (.tmp 10)), none, []⟩, ⟨(some 110), (.fAddr 3 (.tmp 3)), none, []⟩, ⟨(some 112), (.mov (.tmp 10)), none, []⟩, ⟨(some 106), (.load1 (.tmp 105)), none, []⟩, ⟨(some 108), (.iAddrSl 3 (.tmp 106) (.tmp 107)), none, []⟩, ⟨(some 109), (.loadN 3 (.tmp 108)), none, []⟩, ⟨(some 111), (.load1 (.tmp 110)), none, []⟩, ⟨(some 113), (.iAddrSl 3 (.tmp 111) (.tmp 112)), none, []⟩, ⟨(some 114), (.loadN 3 (.tmp 113)), none, []⟩, ⟨(some 115), (.callv (.func 39) [(.tmp 109), (.tmp 114)]), none, []⟩, ⟨(some 11), (.mov (.tmp 115)), none, []⟩]) (.seq (.ops [⟨(some 116), (.mov (.tmp 11)), none, []⟩, ⟨(some 117), (.un .not (.tmp 116)), none, []⟩]) (.cond (.tmp 117) (.seq (.ops [⟨(some 4), (.mov (.const (.bool false))), none, []⟩]) .ret) .skip)))) (.ops [⟨(some 103), (.mov (.tmp 10)), none, []⟩, ⟨(some 104), (.bin .add (.tmp 103) (.const (.int .i64 1))), none, []⟩, ⟨(some 10), (.mov (.tmp 104)), none, []⟩])))))) (.seq (.seq (.ops [⟨(some 12), (.mov (.const (.int .i64 0))), none, []⟩]) (.block 6 (.loop (.seq (.seq (.ops [⟨(some 118), (.mov (.tmp 12)), none, []⟩, ⟨(some 119), (.fAddr 4 (.tmp 2)), none, []⟩, ⟨(some 120), (.load1 (.tmp 119)), none, []⟩, ⟨(some 121), (.lenSl (.tmp 120)), none, []⟩, ⟨(some 122), (.bin .lss (.tmp 118) (.tmp 121)), none, []⟩]) (.cond (.tmp 122) .skip (.exit 6))) (.seq (.block 7 (.seq (.ops [⟨(some 125), (.fAddr 4 (.tmp 2)), none, []⟩, ⟨(some 127), (.mov (.tmp 12)), none, []⟩, ⟨(some 130), (.fAddr 4 (.tmp 3)), none, []⟩, ⟨(some 132), (.mov (.tmp 12)), none, []⟩, ⟨(some 126), (.load1 (.tmp 125)), none, []⟩, ⟨(some 128), (.iAddrSl 7 (.tmp 126) (.tmp 127)), none, []⟩, ⟨(some 129), (.loadN 7 (.tmp 128)), none, []⟩, ⟨(some 131), (.load1 (.tmp 130)), none, []⟩, ⟨(some 133), (.iAddrSl 7 (.tmp 131) (.tmp 132)), none, []⟩, ⟨(some 134), (.loadN 7 (.tmp 133)), none, []⟩, ⟨(some 135), (.callv (.func 40) [(.tmp 129), (.tmp 134)]), none, []⟩, ⟨(some 13), (.mov (.tmp 135)), none, []⟩]) (.seq (.ops [⟨(some 136), (.mov (.tmp 13)), none, []⟩, ⟨(some 137), (.un .not (.tmp 136)), none, []⟩]) (.cond (.tmp 137) (.seq (.ops [⟨(some 4), (.mov (.const (.bool false))), none, []⟩]) .ret) .skip)))) (.ops [⟨(some 123), (.mov (.tmp 12)), none, []⟩, ⟨(some 124), (.bin .add (.tmp 123) (.const (.int .i64 1))), none, []⟩, ⟨(some 12), (.mov (.tmp 124)), none, []⟩])))))) (.seq (.ops [⟨(some 138), (.fAddr 5 (.tmp 2)), none, []⟩, ⟨(some 139), (.load1 (.tmp 138)), none, []⟩, ⟨(some 140), (.fAddr 5 (.tmp 3)), none, []⟩, ⟨(some 141), (.load1 (.tmp 140)), none, []⟩, ⟨(some 142), (.callv (.func 82) [(.tmp 139), (.tmp 141)]), none, []⟩, ⟨(some 14), (.mov (.tmp 142)), none, []⟩]) (.seq (.ops [⟨(some 143), (.mov (.tmp 14)), none, []⟩, ⟨(some 4), (.mov (.tmp 143)), none, []⟩]) .ret))))))))) [(.tmp 4)])
def g15 : AFunc := (.code 45 (.seq (.ops [⟨(some 2), (.box (.tmp 0)), none, []⟩, ⟨(some 3), (.box (.tmp 1)), none, []⟩, ⟨(some 4), (.mov (.const (.bool false))), none, []⟩]) (.seq (.ops [⟨(some 5), (.fAddr 1 (.tmp 2)), none, []⟩, ⟨(some 6), (.load1 (.tmp 5)), none, []⟩, ⟨(some 7), (.fAddr 1 (.tmp 3)), none, []⟩, ⟨(some 8), (.load1 (.tmp 7)), none, []⟩, ⟨(some 9), (.callv (.func 83) [(.tmp 6), (.tmp 8)]), none, []⟩, ⟨(some 10), (.mov (.tmp 9)), none, []⟩, ⟨(some 11), (.fAddr 0 (.tmp 2)), (some (10, true)), []⟩, ⟨(some 12), (.load1 (.tmp 11)), (some (10, true)), []⟩, ⟨(some 13), (.fAddr 0 (.tmp 3)), (some (10, true)), []⟩, ⟨(some 14), (.load1 (.tmp 13)), (some (10, true)), []⟩, ⟨(some 15), (.callv (.func 84) [(.tmp 12), (.tmp 14), (.func 85)]), (some (10, true)), []⟩, ⟨(some 16), (.pick (.tmp 10) (.tmp 15) (.const (.bool false))), none, []⟩, ⟨(some 17), (.mov (.tmp 16)), none, []⟩, ⟨(some 18), (.fAddr 2 (.tmp 2)), (some (17, true)), []⟩, ⟨(some 19), (.load1 (.tmp 18)), (some (17, true)), []⟩, ⟨(some 20), (.fAddr 2 (.tmp 3)), (some (17, true)), []⟩, ⟨(some 21), (.load1 (.tmp 20)), (some (17, true)), []⟩, ⟨(some 22), (.callv (.func 86) [(.tmp 19), (.tmp 21), (.func 87)]), (some (17, true)), []⟩, ⟨(some 23), (.pick (.tmp 17) (.tmp 22) (.const (.bool false))), none, []⟩, ⟨(some 24), (.mov (.tmp 23)), none, []⟩, ⟨(some 25), (.fAddr 3 (.tmp 2)), (some (24, true)), []⟩, ⟨(some 26), (.load1 (.tmp 25)), (some (24, true)), []⟩, ⟨(some 27), (.fAddr 3 (.tmp 3)), (some (24, true)), []⟩, ⟨(some 28), (.load1 (.tmp 27)), (some (24, true)), []⟩, ⟨(some 29), (.callv (.func 89) [(.tmp 26), (.tmp 28), (.func 90)]), (some (24, true)), []⟩, ⟨(some 30), (.pick (.tmp 24) (.tmp 29) (.const (.bool false))), none, []⟩, ⟨(some 31), (.mov (.tmp 30)), none, []⟩, ⟨(some 32), (.fAddr 4 (.tmp 2)), (some (31, true)), []⟩, ⟨(some 33), (.load1 (.tmp 32)), (some (31, true)), []⟩, ⟨(some 34), (.fAddr 4 (.tmp 3)), (some (31, true)), []⟩, ⟨(some 35), (.load1 (.tmp 34)), (some (31, true)), []⟩, ⟨(some 36), (.callv (.func 92) [(.tmp 33), (.tmp 35), (.func 93)]), (some (31, true)), []⟩, ⟨(some 37), (.pick (.tmp 31) (.tmp 36) (.const (.bool false))), none, []⟩, ⟨(some 38), (.mov (.tmp 37)), none, []⟩, ⟨(some 39), (.fAddr 5 (.tmp 2)), (some (38, true)), []⟩, ⟨(some 40), (.load1 (.tmp 39)), (some (38, true)), []⟩, ⟨(some 41), (.fAddr 5 (.tmp 3)), (some (38, true)), []⟩, ⟨(some 42), (.load1 (.tmp 41)), (some (38, true)), []⟩, ⟨(some 43), (.callv (.func 94) [(.tmp 40), (.tmp 42)]), (some (38, true)), []⟩, ⟨(some 44), (.pick (.tmp 38) (.tmp 43) (.const (.bool false))), none, []⟩, ⟨(some 4), (.mov (.tmp 44)), none, []⟩]) .ret)) [(.tmp 4)])
def g19 : AFunc := (.code 12 (.seq (.ops [⟨(some 1), (.box (.tmp 0)), none, []⟩, ⟨(some 2), (.mov (.const (.slice none 0 0))), none, []⟩]) (.seq (.seq (.ops [⟨(some 4), (.loadN 6 (.tmp 1)), none, []⟩, ⟨(some 5), (.callv (.func 58) [(.tmp 4)]), none, []⟩, ⟨(some 6), (.bin .neq (.tmp 5) (.const (.int .i64 0))), none, []⟩]) (.cond (.tmp 6) (.seq (.ops [⟨(some 2), (.mov (.const (.slice none 0 0))), none, []⟩]) .ret) .skip)) (.seq (.ops [⟨(some 3), (.alloc [(.slice none 0 0)]), none, []⟩]) (.seq (.ops [⟨(some 7), (.fAddr 5 (.tmp 1)), none, []⟩, ⟨(some 8), (.load1 (.tmp 7)), none, []⟩, ⟨(some 9), (.mkFunc 99 [] [(.tmp 3)]), none, []⟩, ⟨(some 10), (.callv (.func 59) [(.tmp 8), (.const (.int .i64 1)), (.tmp 9)]), none, []⟩]) (.seq (.ops [⟨(some 11), (.load1 (.tmp 3)), none, []⟩, ⟨(some 2), (.mov (.tmp 11)), none, []⟩]) .ret))))) [(.tmp 2)])
def g20 : AFunc := (.code 27 (.seq (.ops [⟨(some 1), (.box (.tmp 0)), none, []⟩, ⟨(some 2), (.mov (.const (.int .i64 0))), none, []⟩]) (.seq (.seq (.ops [⟨(some 7), (.loadN 6 (.tmp 1)), none, []⟩, ⟨(some 8), (.callv (.func 58) [(.tmp 7)]), none, []⟩, ⟨(some 9), (.bin .neq (.tmp 8) (.const (.int .i64 0))), none, []⟩]) (.cond (.tmp 9) (.seq (.ops [⟨(some 2), (.mov (.const (.int .i64 0))), none, []⟩]) .ret) .skip)) (.seq (.ops [⟨(some 11), (.fAddr 5 (.tmp 1)), none, []⟩, ⟨(some 12), (.load1 (.tmp 11)), none, []⟩, ⟨(some 13), (.callv (.func 101) [(.tmp 12)]), none, []⟩, ⟨(some 10), (.mov (.tmp 13)), none, []⟩, ⟨(some 14), (.extract (.tmp 10) 0), none, []⟩, ⟨(some 15), (.extract (.tmp 10) 1), none, []⟩, ⟨(some 3), (.mov (.tmp 14)), none, []⟩, ⟨(some 4), (.mov (.tmp 15)), none, []⟩]) (.seq (.seq (.ops [⟨(some 16), (.mov (.tmp 4)), none, []⟩, ⟨(some 17), (.lenSl (.tmp 16)), none, []⟩, ⟨(some 18), (.mov (.const (.int .i64 0))), none, []⟩]) (.block 0 (.loop (.seq (.ops [⟨(some 19), (.bin .lss (.tmp 18) (.tmp 17)), none, []⟩]) (.seq (.cond (.tmp 19) .skip (.exit 0)) (.seq (.block 1 (.seq (.ops [⟨(some 20), (.iAddrSl 1 (.tmp 16) (.tmp 18)), none, []⟩, ⟨(some 21), (.load1 (.tmp 20)), none, []⟩, ⟨(some 6), (.mov (.tmp 21)), none, []⟩]) (.ops [⟨(some 22), (.mov (.tmp 3)), none, []⟩, ⟨(some 23), (.mov (.tmp 6)), none, []⟩, ⟨(some 24), (.mm true [(.tmp 22), (.tmp 23)]), none, []⟩, ⟨(some 3), (.mov (.tmp 24)), none, []⟩]))) (.ops [⟨(some 25), (.bin .add (.tmp 18) (.const (.int .i64 1))), none, []⟩, ⟨(some 18), (.mov (.tmp 25)), none, []⟩]))))))) (.seq (.ops [⟨(some 26), (.mov (.tmp 3)), none, []⟩, ⟨(some 2), (.mov (.tmp 26)), none, []⟩]) .ret))))) [(.tmp 2)])
def g22 : AFunc := (.code 15 (.seq (.ops [⟨(some 1), (.box (.tmp 0)), none, []⟩, ⟨(some 2), (.mov (.const (.int .i64 0))), none, []⟩]) (.seq (.ops [⟨(some 4), (.mkFunc 105 [] [(.tmp 1)]), none, []⟩, ⟨(some 3), (.mov (.tmp 4)), none, []⟩]) (.seq (.block 0 (.seq (.ops [⟨(some 6), (.mov (.tmp 3)), none, []⟩, ⟨(some 7), (.callv (.tmp 6) [(.const (.int .i64 3))]), none, []⟩, ⟨(some 8), (.mov (.tmp 7)), none, []⟩, ⟨(some 9), (.mov (.tmp 3)), (some (8, false)), []⟩, ⟨(some 10), (.callv (.tmp 9) [(.const (.int .i64 4))]), (some (8, false)), []⟩, ⟨(some 11), (.pick (.tmp 8) (.const (.bool true)) (.tmp 10)), none, []⟩, ⟨(some 5), (.mov (.tmp 11)), none, []⟩]) (.cond (.tmp 5) (.seq (.ops [⟨(some 2), (.mov (.const (.int .i64 3))), none, []⟩]) .ret) (.seq (.ops [⟨(some 13), (.mov (.tmp 3)), none, []⟩, ⟨(some 14), (.callv (.tmp 13) [(.const (.int .i64 2))]), none, []⟩, ⟨(some 12), (.mov (.tmp 14)), none, []⟩]) (.cond (.tmp 12) (.seq (.ops [⟨(some 2), (.mov (.const (.int .i64 2))), none, []⟩]) .ret) .skip))))) (.seq (.ops [⟨(some 2), (.mov (.const (.int .i64 1))), none, []⟩]) .ret)))) [(.tmp 2)])
def g27 : AFunc := (.code 21 (.seq (.ops [⟨(some 2), (.box (.tmp 0)), none, []⟩, ⟨(some 4), (.alloc [(.string (bs [])), (.slice none 0 0), (.slice none 0 0), (.int .i64 0), (.string (bs [])), (.slice none 0 0), (.bool false)]), none, []⟩, ⟨(some 5), (.mov (.const (.int .i64 0))), none, []⟩, ⟨(some 6), (.mov (.const (.bool false))), none, []⟩]) (.seq (.seq (.ops [⟨(some 8), (.loadN 6 (.tmp 2)), none, []⟩, ⟨(some 9), (.mov (.tmp 1)), none, []⟩, ⟨(some 10), (.callv (.func 113) [(.tmp 8), (.tmp 9)]), none, []⟩, ⟨(some 7), (.mov (.tmp 10)), none, []⟩]) (.seq (.ops [⟨(some 11), (.mov (.tmp 7)), none, []⟩, ⟨(some 12), (.bin .geq (.tmp 11) (.const (.int .i64 0))), none, []⟩]) (.cond (.tmp 12) (.seq (.ops [⟨(some 13), (.fAddr 4 (.tmp 2)), none, []⟩, ⟨(some 14), (.load1 (.tmp 13)), none, []⟩, ⟨(some 15), (.mov (.tmp 7)), none, []⟩, ⟨(some 16), (.iAddrSl 7 (.tmp 14) (.tmp 15)), none, []⟩, ⟨(some 17), (.loadN 7 (.tmp 16)), none, []⟩, ⟨(some 18), (.callv (.func 78) [(.tmp 17)]), none, []⟩, ⟨(some 19), (.mov (.tmp 7)), none, []⟩, ⟨none, (.store 7 (.tmp 4) (.tmp 18)), none, []⟩, ⟨(some 5), (.mov (.tmp 19)), none, []⟩, ⟨(some 6), (.mov (.const (.bool true))), none, []⟩]) .ret) .skip))) (.seq (.ops [⟨(some 20), (.build [(.string (bs [])), (.slice none 0 0), (.slice none 0 0), (.int .i64 0), (.string (bs [])), (.slice none 0 0), (.bool false)] []), none, []⟩, ⟨none, (.store 7 (.tmp 4) (.tmp 20)), none, []⟩, ⟨(some 5), (.mov (.const (.int .i64 0))), none, []⟩, ⟨(some 6), (.mov (.const (.bool false))), none, []⟩]) .ret))) [(.cellN 4 7), (.tmp 5), (.tmp 6)])
def g28 : AFunc := (.code 35 (.seq (.ops [⟨(some 2), (.box (.tmp 0)), none, []⟩, ⟨(some 4), (.mov (.const (.slice none 0 0))), none, []⟩, ⟨(some 5), (.mov (.const (.int .i64 0))), none, []⟩]) (.seq (.ops [⟨(some 10), (.loadN 6 (.tmp 2)), none, []⟩, ⟨(some 11), (.mov (.tmp 1)), none, []⟩, ⟨(some 12), (.callv (.func 113) [(.tmp 10), (.tmp 11)]), none, []⟩, ⟨(some 6), (.mov (.tmp 12)), none, []⟩]) (.seq (.seq (.ops [⟨(some 13), (.mov (.tmp 6)), none, []⟩, ⟨(some 14), (.bin .lss (.tmp 13) (.const (.int .i64 0))), none, []⟩]) (.cond (.tmp 14) (.seq (.ops [⟨(some 4), (.mov (.const (.slice none 0 0))), none, []⟩, ⟨(some 5), (.mov (.const (.int .i64 110))), none, []⟩]) .ret) .skip)) (.seq (.ops [⟨(some 7), (.mov (.const (.slice none 0 0))), none, []⟩]) (.seq (.seq (.ops [⟨(some 15), (.fAddr 4 (.tmp 2)), none, []⟩, ⟨(some 16), (.load1 (.tmp 15)), none, []⟩, ⟨(some 17), (.mov (.tmp 6)), none, []⟩, ⟨(some 18), (.iAddrSl 7 (.tmp 16) (.tmp 17)), none, []⟩, ⟨(some 19), (.fAddr 1 (.tmp 18)), none, []⟩, ⟨(some 20), (.load1 (.tmp 19)), none, []⟩, ⟨(some 21), (.lenSl (.tmp 20)), none, []⟩, ⟨(some 22), (.mov (.const (.int .i64 0))), none, []⟩]) (.block 0 (.loop (.seq (.ops [⟨(some 23), (.bin .lss (.tmp 22) (.tmp 21)), none, []⟩]) (.seq (.cond (.tmp 23) .skip (.exit 0)) (.seq (.block 1 (.seq (.ops [⟨(some 24), (.iAddrSl 3 (.tmp 20) (.tmp 22)), none, []⟩, ⟨(some 25), (.loadN 3 (.tmp 24)), none, []⟩, ⟨(some 9), (.alloc [(.string (bs [])), (.string (bs [])), (.int .i64 0)]), none, []⟩, ⟨none, (.store 3 (.tmp 9) (.tmp 25)), none, []⟩]) (.ops [⟨(some 26), (.mov (.tmp 7)), none, []⟩, ⟨(some 27), (.loadN 6 (.tmp 2)), none, []⟩, ⟨(some 28), (.fAddr 0 (.tmp 9)), none, []⟩, ⟨(some 29), (.loadN 2 (.tmp 28)), none, []⟩, ⟨(some 30), (.callv (.func 50) [(.tmp 27), (.tmp 29)]), none, []⟩, ⟨(some 31), (.buildSlice 1 1 [(.int .i64 0)] [(0, (1, (.tmp 30)))]), none, []⟩, ⟨(some 32), (.append 1 8 (.tmp 26) (.tmp 31)), none, []⟩, ⟨(some 7), (.mov (.tmp 32)), none, []⟩]))) (.ops [⟨(some 33), (.bin .add (.tmp 22) (.const (.int .i64 1))), none, []⟩, ⟨(some 22), (.mov (.tmp 33)), none, []⟩]))))))) (.seq (.ops [⟨(some 34), (.mov (.tmp 7)), none, []⟩, ⟨(some 4), (.mov (.tmp 34)), none, []⟩, ⟨(some 5), (.mov (.const (.int .i64 0))), none, []⟩]) .ret)))))) [(.tmp 4), (.tmp 5)])
end Go.Proofs.YtpllhhaeclnngaaGreat.Ev

/- The functions of the program in the evaluator's form, as its own look-up lays them (part 1). Conditions: none; these are definitions. -/
namespace Go.Proofs.YtpllhhaeclnngaaGreat.Ev
set_option maxRecDepth 100000
def g38 : AFunc := (.code 19 (.seq (.ops [⟨(some 2), (.box (.tmp 0)), none, []⟩, ⟨(some 3), (.box (.tmp 1)), none, []⟩, ⟨(some 4), (.mov (.const (.bool false))), none, []⟩]) (.seq (.ops [⟨(some 6), (.fAddr 1 (.tmp 2)), none, []⟩, ⟨(some 7), (.load1 (.tmp 6)), none, []⟩, ⟨(some 8), (.fAddr 1 (.tmp 3)), none, []⟩, ⟨(some 9), (.load1 (.tmp 8)), none, []⟩, ⟨(some 10), (.callv (.func 80) [(.tmp 7), (.tmp 9)]), none, []⟩, ⟨(some 5), (.mov (.tmp 10)), none, []⟩]) (.seq (.ops [⟨(some 11), (.fAddr 0 (.tmp 2)), none, []⟩, ⟨(some 12), (.load1 (.tmp 11)), none, []⟩, ⟨(some 13), (.fAddr 0 (.tmp 3)), none, []⟩, ⟨(some 14), (.load1 (.tmp 13)), none, []⟩, ⟨(some 15), (.bin .eql (.tmp 12) (.tmp 14)), none, []⟩, ⟨(some 16), (.mov (.tmp 15)), none, []⟩, ⟨(some 17), (.mov (.tmp 5)), (some (16, true)), []⟩, ⟨(some 18), (.pick (.tmp 16) (.tmp 17) (.const (.bool false))), none, []⟩, ⟨(some 4), (.mov (.tmp 18)), none, []⟩]) .ret))) [(.tmp 4)])
def g39 : AFunc := (.code 48 (.seq (.ops [⟨(some 2), (.box (.tmp 0)), none, []⟩, ⟨(some 3), (.box (.tmp 1)), none, []⟩, ⟨(some 4), (.mov (.const (.bool false))), none, []⟩]) (.seq (.ops [⟨(some 7), (.fAddr 1 (.tmp 2)), none, []⟩, ⟨(some 8), (.load1 (.tmp 7)), none, []⟩, ⟨(some 9), (.fAddr 1 (.tmp 3)), none, []⟩, ⟨(some 10), (.load1 (.tmp 9)), none, []⟩, ⟨(some 11), (.callv (.func 80) [(.tmp 8), (.tmp 10)]), none, []⟩, ⟨(some 5), (.mov (.tmp 11)), none, []⟩]) (.seq (.seq (.ops [⟨(some 12), (.mov (.tmp 5)), none, []⟩, ⟨(some 13), (.un .not (.tmp 12)), none, []⟩, ⟨(some 14), (.mov (.tmp 13)), none, []⟩, ⟨(some 15), (.fAddr 0 (.tmp 2)), (some (14, false)), []⟩, ⟨(some 16), (.load1 (.tmp 15)), (some (14, false)), []⟩, ⟨(some 17), (.fAddr 0 (.tmp 3)), (some (14, false)), []⟩, ⟨(some 18), (.load1 (.tmp 17)), (some (14, false)), []⟩, ⟨(some 19), (.bin .neq (.tmp 16) (.tmp 18)), (some (14, false)), []⟩, ⟨(some 20), (.pick (.tmp 14) (.const (.bool true)) (.tmp 19)), none, []⟩, ⟨(some 21), (.mov (.tmp 20)), none, []⟩, ⟨(some 22), (.fAddr 2 (.tmp 2)), (some (21, false)), []⟩, ⟨(some 23), (.load1 (.tmp 22)), (some (21, false)), []⟩, ⟨(some 24), (.lenSl (.tmp 23)), (some (21, false)), []⟩, ⟨(some 25), (.fAddr 2 (.tmp 3)), (some (21, false)), []⟩, ⟨(some 26), (.load1 (.tmp 25)), (some (21, false)), []⟩, ⟨(some 27), (.lenSl (.tmp 26)), (some (21, false)), []⟩, ⟨(some 28), (.bin .neq (.tmp 24) (.tmp 27)), (some (21, false)), []⟩, ⟨(some 29), (.pick (.tmp 21) (.const (.bool true)) (.tmp 28)), none, []⟩]) (.cond (.tmp 29) (.seq (.ops [⟨(some 4), (.mov (.const (.bool false))), none, []⟩]) .ret) .skip)) (.seq (.seq (.ops [⟨(some 6), (.mov (.const (.int .i64 0))), none, []⟩]) (.block 0 (.loop (.seq (.seq (.ops [⟨(some 30), (.mov (.tmp 6)), none, []⟩, ⟨(some 31), (.fAddr 2 (.tmp 2)), none, []⟩, ⟨(some 32), (.load1 (.tmp 31)), none, []⟩, ⟨(some 33), (.lenSl (.tmp 32)), none, []⟩, ⟨(some 34), (.bin .lss (.tmp 30) (.tmp 33)), none, []⟩]) (.cond (.tmp 34) .skip (.exit 0))) (.seq (.block 1 (.seq (.ops [⟨(some 37), (.fAddr 2 (.tmp 2)), none, []⟩, ⟨(some 39), (.mov (.tmp 6)), none, []⟩, ⟨(some 42), (.fAddr 2 (.tmp 3)), none, []⟩, ⟨(some 44), (.mov (.tmp 6)), none, []⟩, ⟨(some 38), (.load1 (.tmp 37)), none, []⟩, ⟨(some 40), (.iAddrSl 12 (.tmp 38) (.tmp 39)), none, []⟩, ⟨(some 41), (.loadN 12 (.tmp 40)), none, []⟩, ⟨(some 43), (.load1 (.tmp 42)), none, []⟩, ⟨(some 45), (.iAddrSl 12 (.tmp 43) (.tmp 44)), none, []⟩, ⟨(some 46), (.loadN 12 (.tmp 45)), none, []⟩, ⟨(some 47), (.eqs true 12 [(0, 1), (1, 2), (2, 2), (3, 1), (4, 2), (5, 2), (6, 1), (7, 1), (8, 2), (9, 2), (10, 1), (11, 1)] (.tmp 41) (.tmp 46)), none, []⟩]) (.cond (.tmp 47) (.seq (.ops [⟨(some 4), (.mov (.const (.bool false))), none, []⟩]) .ret) .skip))) (.ops [⟨(some 35), (.mov (.tmp 6)), none, []⟩, ⟨(some 36), (.bin .add (.tmp 35) (.const (.int .i64 1))), none, []⟩, ⟨(some 6), (.mov (.tmp 36)), none, []⟩])))))) (.seq (.ops [⟨(some 4), (.mov (.const (.bool true))), none, []⟩]) .ret))))) [(.tmp 4)])
def g40 : AFunc := (.code 72 (.seq (.ops [⟨(some 2), (.box (.tmp 0)), none, []⟩, ⟨(some 3), (.box (.tmp 1)), none, []⟩, ⟨(some 4), (.mov (.const (.bool false))), none, []⟩]) (.seq (.ops [⟨(some 8), (.fAddr 2 (.tmp 2)), none, []⟩, ⟨(some 9), (.load1 (.tmp 8)), none, []⟩, ⟨(some 10), (.fAddr 2 (.tmp 3)), none, []⟩, ⟨(some 11), (.load1 (.tmp 10)), none, []⟩, ⟨(some 12), (.callv (.func 42) [(.tmp 9), (.tmp 11)]), none, []⟩, ⟨(some 5), (.mov (.tmp 12)), none, []⟩]) (.seq (.ops [⟨(some 13), (.fAddr 4 (.tmp 2)), none, []⟩, ⟨(some 14), (.loadN 2 (.tmp 13)), none, []⟩, ⟨(some 15), (.fAddr 4 (.tmp 3)), none, []⟩, ⟨(some 16), (.loadN 2 (.tmp 15)), none, []⟩, ⟨(some 17), (.callv (.func 119) [(.tmp 14), (.tmp 16)]), none, []⟩, ⟨(some 6), (.mov (.tmp 17)), none, []⟩]) (.seq (.seq (.ops [⟨(some 18), (.mov (.tmp 5)), none, []⟩, ⟨(some 19), (.un .not (.tmp 18)), none, []⟩, ⟨(some 20), (.mov (.tmp 19)), none, []⟩, ⟨(some 21), (.mov (.tmp 6)), (some (20, false)), []⟩, ⟨(some 22), (.un .not (.tmp 21)), (some (20, false)), []⟩, ⟨(some 23), (.pick (.tmp 20) (.const (.bool true)) (.tmp 22)), none, []⟩, ⟨(some 24), (.mov (.tmp 23)), none, []⟩, ⟨(some 25), (.fAddr 0 (.tmp 2)), (some (24, false)), []⟩, ⟨(some 26), (.load1 (.tmp 25)), (some (24, false)), []⟩, ⟨(some 27), (.fAddr 0 (.tmp 3)), (some (24, false)), []⟩, ⟨(some 28), (.load1 (.tmp 27)), (some (24, false)), []⟩, ⟨(some 29), (.bin .neq (.tmp 26) (.tmp 28)), (some (24, false)), []⟩, ⟨(some 30), (.pick (.tmp 24) (.const (.bool true)) (.tmp 29)), none, []⟩, ⟨(some 31), (.mov (.tmp 30)), none, []⟩, ⟨(some 32), (.fAddr 3 (.tmp 2)), (some (31, false)), []⟩, ⟨(some 33), (.load1 (.tmp 32)), (some (31, false)), []⟩, ⟨(some 34), (.fAddr 3 (.tmp 3)), (some (31, false)), []⟩, ⟨(some 35), (.load1 (.tmp 34)), (some (31, false)), []⟩, ⟨(some 36), (.bin .neq (.tmp 33) (.tmp 35)), (some (31, false)), []⟩, ⟨(some 37), (.pick (.tmp 31) (.const (.bool true)) (.tmp 36)), none, []⟩, ⟨(some 38), (.mov (.tmp 37)), none, []⟩, ⟨(some 39), (.fAddr 6 (.tmp 2)), (some (38, false)), []⟩, ⟨(some 40), (.load1 (.tmp 39)), (some (38, false)), []⟩, ⟨(some 41), (.fAddr 6 (.tmp 3)), (some (38, false)), []⟩, ⟨(some 42), (.load1 (.tmp 41)), (some (38, false)), []⟩, ⟨(some 43), (.eqb true (.tmp 40) (.tmp 42)), (some (38, false)), []⟩, ⟨(some 44), (.pick (.tmp 38) (.const (.bool true)) (.tmp 43)), none, []⟩, ⟨(some 45), (.mov (.tmp 44)), none, []⟩, ⟨(some 46), (.fAddr 1 (.tmp 2)), (some (45, false)), []⟩, ⟨(some 47), (.load1 (.tmp 46)), (some (45, false)), []⟩, ⟨(some 48), (.lenSl (.tmp 47)), (some (45, false)), []⟩, ⟨(some 49), (.fAddr 1 (.tmp 3)), (some (45, false)), []⟩, ⟨(some 50), (.load1 (.tmp 49)), (some (45, false)), []⟩, ⟨(some 51), (.lenSl (.tmp 50)), (some (45, false)), []⟩, ⟨(some 52), (.bin .neq (.tmp 48) (.tmp 51)), (some (45, false)), []⟩, ⟨(some 53), (.pick (.tmp 45) (.const (.bool true)) (.tmp 52)), none, []⟩]) (.cond (.tmp 53) (.seq (.ops [⟨(some 4), (.mov (.const (.bool false))), none, []⟩]) .ret) .skip)) (.seq (.seq (.ops [⟨(some 7), (.mov (.const (.int .i64 0))), none, []⟩]) (.block 0 (.loop (.seq (.seq (.ops [⟨(some 54), (.mov (.tmp 7)), none, []⟩, ⟨(some 55), (.fAddr 1 (.tmp 2)), none, []⟩, ⟨(some 56), (.load1 (.tmp 55)), none, []⟩, ⟨(some 57), (.lenSl (.tmp 56)), none, []⟩, ⟨(some 58), (.bin .lss (.tmp 54) (.tmp 57)), none, []⟩]) (.cond (.tmp 58) .skip (.exit 0))) (.seq (.block 1 (.seq (.ops [⟨(some 61), (.fAddr 1 (.tmp 2)), none, []⟩, ⟨(some 63), (.mov (.tmp 7)), none, []⟩, ⟨(some 66), (.fAddr 1 (.tmp 3)), none, []⟩, ⟨(some 68), (.mov (.tmp 7)), none, []⟩, ⟨(some 62), (.load1 (.tmp 61)), none, []⟩, ⟨(some 64), (.iAddrSl 3 (.tmp 62) (.tmp 63)), none, []⟩, ⟨(some 65), (.loadN 3 (.tmp 64)), none, []⟩, ⟨(some 67), (.load1 (.tmp 66)), none, []⟩, ⟨(some 69), (.iAddrSl 3 (.tmp 67) (.tmp 68)), none, []⟩, ⟨(some 70), (.loadN 3 (.tmp 69)), none, []⟩, ⟨(some 71), (.eqs true 3 [(0, 2), (1, 2), (2, 1)] (.tmp 65) (.tmp 70)), none, []⟩]) (.cond (.tmp 71) (.seq (.ops [⟨(some 4), (.mov (.const (.bool false))), none, []⟩]) .ret) .skip))) (.ops [⟨(some 59), (.mov (.tmp 7)), none, []⟩, ⟨(some 60), (.bin .add (.tmp 59) (.const (.int .i64 1))), none, []⟩, ⟨(some 7), (.mov (.tmp 60)), none, []⟩])))))) (.seq (.ops [⟨(some 4), (.mov (.const (.bool true))), none, []⟩]) .ret)))))) [(.tmp 4)])
def g41 : AFunc := (.code 26 (.seq (.ops [⟨(some 4), (.mov (.const (.bool false))), none, []⟩]) (.seq (.seq (.ops [⟨(some 6), (.mov (.tmp 0)), none, []⟩, ⟨(some 7), (.lenSl (.tmp 6)), none, []⟩, ⟨(some 8), (.mov (.tmp 1)), none, []⟩, ⟨(some 9), (.lenSl (.tmp 8)), none, []⟩, ⟨(some 10), (.bin .neq (.tmp 7) (.tmp 9)), none, []⟩]) (.cond (.tmp 10) (.seq (.ops [⟨(some 4), (.mov (.const (.bool false))), none, []⟩]) .ret) .skip)) (.seq (.seq (.ops [⟨(some 5), (.mov (.const (.int .i64 0))), none, []⟩]) (.block 0 (.loop (.seq (.seq (.ops [⟨(some 11), (.mov (.tmp 5)), none, []⟩, ⟨(some 12), (.mov (.tmp 0)), none, []⟩, ⟨(some 13), (.lenSl (.tmp 12)), none, []⟩, ⟨(some 14), (.bin .lss (.tmp 11) (.tmp 13)), none, []⟩]) (.cond (.tmp 14) .skip (.exit 0))) (.seq (.block 1 (.seq (.ops [⟨(some 17), (.mov (.tmp 0)), none, []⟩, ⟨(some 18), (.mov (.tmp 5)), none, []⟩, ⟨(some 19), (.iAddrSl 1 (.tmp 17) (.tmp 18)), none, []⟩, ⟨(some 21), (.mov (.tmp 1)), none, []⟩, ⟨(some 22), (.mov (.tmp 5)), none, []⟩, ⟨(some 23), (.iAddrSl 1 (.tmp 21) (.tmp 22)), none, []⟩, ⟨(some 20), (.load1 (.tmp 19)), none, []⟩, ⟨(some 24), (.load1 (.tmp 23)), none, []⟩, ⟨(some 25), (.bin .neq (.tmp 20) (.tmp 24)), none, []⟩]) (.cond (.tmp 25) (.seq (.ops [⟨(some 4), (.mov (.const (.bool false))), none, []⟩]) .ret) .skip))) (.ops [⟨(some 15), (.mov (.tmp 5)), none, []⟩, ⟨(some 16), (.bin .add (.tmp 15) (.const (.int .i64 1))), none, []⟩, ⟨(some 5), (.mov (.tmp 16)), none, []⟩])))))) (.seq (.ops [⟨(some 4), (.mov (.const (.bool true))), none, []⟩]) .ret)))) [(.tmp 4)])
def g42 : AFunc := (.code 26 (.seq (.ops [⟨(some 4), (.mov (.const (.bool false))), none, []⟩]) (.seq (.seq (.ops [⟨(some 6), (.mov (.tmp 0)), none, []⟩, ⟨(some 7), (.lenSl (.tmp 6)), none, []⟩, ⟨(some 8), (.mov (.tmp 1)), none, []⟩, ⟨(some 9), (.lenSl (.tmp 8)), none, []⟩, ⟨(some 10), (.bin .neq (.tmp 7) (.tmp 9)), none, []⟩]) (.cond (.tmp 10) (.seq (.ops [⟨(some 4), (.mov (.const (.bool false))), none, []⟩]) .ret) .skip)) (.seq (.seq (.ops [⟨(some 5), (.mov (.const (.int .i64 0))), none, []⟩]) (.block 0 (.loop (.seq (.seq (.ops [⟨(some 11), (.mov (.tmp 5)), none, []⟩, ⟨(some 12), (.mov (.tmp 0)), none, []⟩, ⟨(some 13), (.lenSl (.tmp 12)), none, []⟩, ⟨(some 14), (.bin .lss (.tmp 11) (.tmp 13)), none, []⟩]) (.cond (.tmp 14) .skip (.exit 0))) (.seq (.block 1 (.seq (.ops [⟨(some 17), (.mov (.tmp 0)), none, []⟩, ⟨(some 18), (.mov (.tmp 5)), none, []⟩, ⟨(some 19), (.iAddrSl 1 (.tmp 17) (.tmp 18)), none, []⟩, ⟨(some 21), (.mov (.tmp 1)), none, []⟩, ⟨(some 22), (.mov (.tmp 5)), none, []⟩, ⟨(some 23), (.iAddrSl 1 (.tmp 21) (.tmp 22)), none, []⟩, ⟨(some 20), (.load1 (.tmp 19)), none, []⟩, ⟨(some 24), (.load1 (.tmp 23)), none, []⟩, ⟨(some 25), (.bin .neq (.tmp 20) (.tmp 24)), none, []⟩]) (.cond (.tmp 25) (.seq (.ops [⟨(some 4), (.mov (.const (.bool false))), none, []⟩]) .ret) .skip))) (.ops [⟨(some 15), (.mov (.tmp 5)), none, []⟩, ⟨(some 16), (.bin .add (.tmp 15) (.const (.int .i64 1))), none, []⟩, ⟨(some 5), (.mov (.tmp 16)), none, []⟩])))))) (.seq (.ops [⟨(some 4), (.mov (.const (.bool true))), none, []⟩]) .ret)))) [(.tmp 4)])
def g48 : AFunc := (.code 51 (.seq (.ops [⟨(some 2), (.mov (.const (.bool false))), none, []⟩]) (.seq (.seq (.ops [⟨(some 6), (.mov (.tmp 0)), none, []⟩, ⟨(some 7), (.bin .eql (.tmp 6) (.const (.string (bs [])))), none, []⟩, ⟨(some 8), (.mov (.tmp 7)), none, []⟩, ⟨(some 9), (.mov (.tmp 0)), (some (8, false)), []⟩, ⟨(some 10), (.lenStr (.tmp 9)), (some (8, false)), []⟩, ⟨(some 11), (.bin .gtr (.tmp 10) (.const (.int .i64 32))), (some (8, false)), []⟩, ⟨(some 12), (.pick (.tmp 8) (.const (.bool true)) (.tmp 11)), none, []⟩]) (.cond (.tmp 12) (.seq (.ops [⟨(some 2), (.mov (.const (.bool false))), none, []⟩]) .ret) .skip)) (.seq (.seq (.ops [⟨(some 13), (.mov (.tmp 0)), none, []⟩, ⟨(some 14), (.s2b (.tmp 13)), none, []⟩, ⟨(some 15), (.lenSl (.tmp 14)), none, []⟩, ⟨(some 16), (.mov (.const (.int .i64 0))), none, []⟩]) (.block 0 (.loop (.seq (.ops [⟨(some 17), (.bin .lss (.tmp 16) (.tmp 15)), none, []⟩]) (.seq (.cond (.tmp 17) .skip (.exit 0)) (.seq (.block 1 (.seq (.ops [⟨(some 18), (.mov (.tmp 16)), none, []⟩, ⟨(some 19), (.iAddrSl 1 (.tmp 14) (.tmp 16)), none, []⟩, ⟨(some 20), (.load1 (.tmp 19)), none, []⟩, ⟨(some 3), (.mov (.tmp 18)), none, []⟩, ⟨(some 4), (.mov (.tmp 20)), none, []⟩]) (.seq (.ops [⟨(some 21), (.mov (.tmp 4)), none, []⟩, ⟨(some 22), (.bin .leq (.const (.int .u8 97)) (.tmp 21)), none, []⟩, ⟨(some 23), (.mov (.tmp 22)), none, []⟩, ⟨(some 24), (.mov (.tmp 4)), (some (23, true)), []⟩, ⟨(some 25), (.bin .leq (.tmp 24) (.const (.int .u8 122))), (some (23, true)), []⟩, ⟨(some 26), (.pick (.tmp 23) (.tmp 25) (.const (.bool false))), none, []⟩, ⟨(some 5), (.mov (.tmp 26)), none, []⟩]) (.seq (.ops [⟨(some 27), (.mov (.tmp 5)), none, []⟩, ⟨(some 28), (.un .not (.tmp 27)), none, []⟩, ⟨(some 29), (.mov (.tmp 28)), none, []⟩, ⟨(some 30), (.mov (.tmp 3)), (some (29, true)), []⟩, ⟨(some 31), (.bin .eql (.tmp 30) (.const (.int .i64 0))), (some (29, true)), []⟩, ⟨(some 32), (.mov (.tmp 31)), (some (29, true)), []⟩, ⟨(some 33), (.mov (.tmp 4)), (some (32, false)), []⟩, ⟨(some 34), (.bin .neq (.tmp 33) (.const (.int .u8 95))), (some (32, false)), []⟩, ⟨(some 35), (.mov (.tmp 34)), (some (32, false)), []⟩, ⟨(some 36), (.mov (.tmp 4)), (some (35, true)), []⟩, ⟨(some 37), (.bin .lss (.tmp 36) (.const (.int .u8 48))), (some (35, true)), []⟩, ⟨(some 38), (.mov (.tmp 37)), (some (35, true)), []⟩, ⟨(some 39), (.mov (.tmp 4)), (some (38, false)), []⟩, ⟨(some 40), (.bin .gtr (.tmp 39) (.const (.int .u8 57))), (some (38, false)), []⟩, ⟨(some 41), (.pick (.tmp 38) (.const (.bool true)) (.tmp 40)), (some (35, true)), []⟩, ⟨(some 42), (.pick (.tmp 35) (.tmp 41) (.const (.bool false))), (some (32, false)), []⟩, ⟨(some 43), (.pick (.tmp 32) (.const (.bool true)) (.tmp 42)), (some (29, true)), []⟩, ⟨(some 44), (.pick (.tmp 29) (.tmp 43) (.const (.bool false))), none, []⟩]) (.cond (.tmp 44) (.seq (.ops [⟨(some 2), (.mov (.const (.bool false))), none, []⟩]) .ret) .skip))))) (.ops [⟨(some 45), (.bin .add (.tmp 16) (.const (.int .i64 1))), none, []⟩, ⟨(some 16), (.mov (.tmp 45)), none, []⟩]))))))) (.seq (.ops [⟨(some 46), (.mov (.tmp 0)), none, []⟩, ⟨(some 47), (.bin .add (.const (.string (bs [32]))) (.tmp 46)), none, []⟩, ⟨(some 48), (.bin .add (.tmp 47) (.const (.string (bs [32])))), none, []⟩, ⟨(some 49), (.callv (.func 125) [(.const (.string (bs [32, 97, 99, 99, 101, 112, 116, 32, 97, 99, 116, 105, 111, 110, 32, 97, 100, 100, 32, 97, 103, 97, 105, 110, 32, 97, 112, 112, 108, 121, 32, 99, 97, 110, 32, 99, 111, 110, 116, 114, 111, 108, 32, 100, 101, 102, 97, 117, 108, 116, 32, 100, 114, 111, 112, 32, 101, 108, 115, 101, 32, 101, 120, 97, 99, 116, 32, 101, 120, 105, 116, 32, 102, 105, 120, 101, 100, 32, 104, 101, 97, 100, 101, 114, 32, 105, 102, 32, 107, 101, 121, 32, 109, 101, 116, 97, 32, 111, 110, 32, 112, 114, 101, 102, 105, 120, 32, 114, 97, 110, 103, 101, 32, 114, 101, 106, 101, 99, 116, 32, 114, 101, 109, 111, 118, 101, 32, 115, 105, 122, 101, 32, 115, 116, 97, 116, 101, 32, 115, 117, 109, 32, 116, 97, 98, 108, 101, 32, 116, 97, 107, 101, 32, 116, 101, 114, 110, 97, 114, 121, 32, 118, 97, 108, 105, 100, 32]))), (.tmp 48)]), none, []⟩, ⟨(some 50), (.un .not (.tmp 49)), none, []⟩, ⟨(some 2), (.mov (.tmp 50)), none, []⟩]) .ret)))) [(.tmp 2)])
def g49 : AFunc := (.code 59 (.seq (.ops [⟨(some 2), (.alloc [(.slice none 0 0), (.slice none 0 0), (.slice none 0 0), (.slice none 0 0), (.slice none 0 0), (.slice none 0 0)]), none, []⟩]) (.seq (.ops [⟨(some 3), (.alloc [(.slice none 0 0), (.slice none 0 0), (.slice none 0 0), (.slice none 0 0), (.slice none 0 0), (.slice none 0 0)]), none, []⟩]) (.seq (.ops [⟨(some 4), (.build [(.string (bs [])), (.int .i64 0)] [(0, (1, (.const (.string (bs [116, 116, 108]))))), (1, (1, (.const (.int .i64 8))))]), none, []⟩, ⟨(some 5), (.build [(.string (bs [])), (.int .i64 0)] [(0, (1, (.const (.string (bs [115, 114, 99]))))), (1, (1, (.const (.int .i64 32))))]), none, []⟩, ⟨(some 6), (.buildSlice 2 2 [(.string (bs [])), (.int .i64 0), (.string (bs [])), (.int .i64 0)] [(0, (2, (.tmp 4))), (2, (2, (.tmp 5)))]), none, []⟩, ⟨(some 7), (.build [(.string (bs [])), (.slice none 0 0)] [(0, (1, (.const (.string (bs [105, 112]))))), (1, (1, (.tmp 6)))]), none, []⟩, ⟨(some 8), (.buildSlice 2 1 [(.string (bs [])), (.slice none 0 0)] [(0, (2, (.tmp 7)))]), none, []⟩, ⟨(some 9), (.fAddr 0 (.tmp 3)), none, []⟩, ⟨none, (.store 1 (.tmp 9) (.tmp 8)), none, []⟩]) (.seq (.ops [⟨(some 10), (.build [(.string (bs [])), (.int .i64 0)] [(0, (1, (.const (.string (bs [112, 111, 114, 116]))))), (1, (1, (.const (.int .i64 9))))]), none, []⟩, ⟨(some 11), (.buildSlice 2 1 [(.string (bs [])), (.int .i64 0)] [(0, (2, (.tmp 10)))]), none, []⟩, ⟨(some 12), (.fAddr 1 (.tmp 3)), none, []⟩, ⟨none, (.store 1 (.tmp 12) (.tmp 11)), none, []⟩]) (.seq (.ops [⟨(some 13), (.build [(.string (bs [])), (.string (bs []))] [(0, (1, (.const (.string (bs [105, 112]))))), (1, (1, (.const (.string (bs [116, 116, 108])))))]), none, []⟩, ⟨(some 14), (.build [(.int .u64 0), (.int .u64 0)] [(1, (1, (.const (.int .u64 255))))]), none, []⟩, ⟨(some 15), (.build [(.int .u64 0), (.int .u64 0), (.int .u64 0), (.int .u64 0), (.string (bs []))] [(2, (2, (.tmp 14))), (4, (1, (.const (.string (bs [114, 101, 106, 101, 99, 116])))))]), none, []⟩, ⟨(some 16), (.buildSlice 5 1 [(.int .u64 0), (.int .u64 0), (.int .u64 0), (.int .u64 0), (.string (bs []))] [(0, (5, (.tmp 15)))]), none, []⟩, ⟨(some 17), (.build [(.string (bs [])), (.string (bs [])), (.string (bs [])), (.string (bs [])), (.slice none 0 0), (.string (bs []))] [(0, (1, (.const (.string (bs [98, 101, 103, 105, 110]))))), (1, (1, (.const (.string (bs [105, 112]))))), (2, (2, (.tmp 13))), (4, (1, (.tmp 16))), (5, (1, (.const (.string (bs [97, 99, 99, 101, 112, 116])))))]), none, []⟩, ⟨(some 18), (.buildSlice 6 1 [(.string (bs [])), (.string (bs [])), (.string (bs [])), (.string (bs [])), (.slice none 0 0), (.string (bs []))] [(0, (6, (.tmp 17)))]), none, []⟩, ⟨(some 19), (.fAddr 2 (.tmp 3)), none, []⟩, ⟨none, (.store 1 (.tmp 19) (.tmp 18)), none, []⟩]) (.seq (.ops [⟨(some 20), (.build [(.string (bs [])), (.int .i64 0)] [(0, (1, (.const (.string (bs [112]))))), (1, (1, (.const (.int .i64 9))))]), none, []⟩, ⟨(some 21), (.buildSlice 2 1 [(.string (bs [])), (.int .i64 0)] [(0, (2, (.tmp 20)))]), none, []⟩, ⟨(some 22), (.build [(.string (bs [])), (.string (bs []))] [(0, (1, (.const (.string (bs [109, 101, 116, 97]))))), (1, (1, (.const (.string (bs [112, 111, 114, 116])))))]), none, []⟩, ⟨(some 23), (.build [(.string (bs [])), (.string (bs []))] [(1, (1, (.const (.string (bs [112])))))]), none, []⟩, ⟨(some 24), (.build [(.string (bs [])), (.string (bs [])), (.int .u64 0), (.int .u64 0)] [(0, (2, (.tmp 23)))]), none, []⟩, ⟨(some 25), (.build [(.int .i64 0), (.string (bs [])), (.string (bs [])), (.int .i64 0), (.string (bs [])), (.string (bs [])), (.int .u64 0), (.int .u64 0), (.string (bs [])), (.string (bs [])), (.int .u64 0), (.int .u64 0)] [(0, (1, (.const (.int .i64 1)))), (1, (2, (.tmp 22))), (4, (4, (.tmp 24)))]), none, []⟩, ⟨(some 26), (.buildSlice 12 1 [(.int .i64 0), (.string (bs [])), (.string (bs [])), (.int .i64 0), (.string (bs [])), (.string (bs [])), (.int .u64 0), (.int .u64 0), (.string (bs [])), (.string (bs [])), (.int .u64 0), (.int .u64 0)] [(0, (12, (.tmp 25)))]), none, []⟩, ⟨(some 27), (.build [(.string (bs [])), (.slice none 0 0), (.slice none 0 0)] [(0, (1, (.const (.string (bs [111, 117, 116]))))), (1, (1, (.tmp 21))), (2, (1, (.tmp 26)))]), none, []⟩, ⟨(some 28), (.buildSlice 3 1 [(.string (bs [])), (.slice none 0 0), (.slice none 0 0)] [(0, (3, (.tmp 27)))]), none, []⟩, ⟨(some 29), (.fAddr 3 (.tmp 3)), none, []⟩, ⟨none, (.store 1 (.tmp 29) (.tmp 28)), none, []⟩]) (.seq (.ops [⟨(some 30), (.build [(.string (bs [])), (.string (bs []))] [(0, (1, (.const (.string (bs [105, 112]))))), (1, (1, (.const (.string (bs [115, 114, 99])))))]), none, []⟩, ⟨(some 31), (.build [(.string (bs [])), (.string (bs [])), (.int .i64 0)] [(0, (2, (.tmp 30))), (2, (1, (.const (.int .i64 2))))]), none, []⟩, ⟨(some 32), (.buildSlice 3 1 [(.string (bs [])), (.string (bs [])), (.int .i64 0)] [(0, (3, (.tmp 31)))]), none, []⟩, ⟨(some 33), (.buildSlice 1 1 [(.string (bs []))] [(0, (1, (.const (.string (bs [111, 117, 116])))))]), none, []⟩, ⟨(some 34), (.build [(.int .u64 0), (.int .u64 0)] [(1, (1, (.const (.int .u64 511))))]), none, []⟩, ⟨(some 35), (.buildSlice 2 1 [(.int .u64 0), (.int .u64 0)] [(0, (2, (.tmp 34)))]), none, []⟩, ⟨(some 36), (.build [(.string (bs [])), (.slice none 0 0)] [(0, (1, (.const (.string (bs [111, 117, 116]))))), (1, (1, (.tmp 35)))]), none, []⟩, ⟨(some 37), (.build [(.string (bs [])), (.slice none 0 0), (.slice none 0 0), (.int .i64 0), (.string (bs [])), (.slice none 0 0), (.bool false)] [(0, (1, (.const (.string (bs [114, 111, 117, 116, 101]))))), (1, (1, (.tmp 32))), (2, (1, (.tmp 33))), (3, (1, (.const (.int .i64 4)))), (4, (2, (.tmp 36)))]), none, []⟩, ⟨(some 38), (.buildSlice 7 1 [(.string (bs [])), (.slice none 0 0), (.slice none 0 0), (.int .i64 0), (.string (bs [])), (.slice none 0 0), (.bool false)] [(0, (7, (.tmp 37)))]), none, []⟩, ⟨(some 39), (.fAddr 4 (.tmp 3)), none, []⟩, ⟨none, (.store 1 (.tmp 39) (.tmp 38)), none, []⟩]) (.seq (.seq (.ops [⟨(some 40), (.mov (.tmp 0)), none, []⟩]) (.cond (.tmp 40) (.ops [⟨(some 41), (.fAddr 4 (.tmp 3)), none, []⟩, ⟨(some 43), (.fAddr 4 (.tmp 3)), none, []⟩, ⟨(some 49), (.build [(.int .u64 0), (.int .u64 0)] []), none, []⟩, ⟨(some 42), (.load1 (.tmp 41)), none, []⟩, ⟨(some 44), (.load1 (.tmp 43)), none, []⟩, ⟨(some 45), (.iAddrSl 7 (.tmp 44) (.const (.int .i64 0))), none, []⟩, ⟨(some 46), (.fAddr 4 (.tmp 45)), none, []⟩, ⟨(some 47), (.fAddr 1 (.tmp 46)), none, []⟩, ⟨(some 48), (.load1 (.tmp 47)), none, []⟩, ⟨(some 50), (.buildSlice 2 1 [(.int .u64 0), (.int .u64 0)] [(0, (2, (.tmp 49)))]), none, []⟩, ⟨(some 51), (.append 2 16 (.tmp 48) (.tmp 50)), none, [(41, 1)]⟩, ⟨(some 52), (.iAddrSl 7 (.tmp 42) (.const (.int .i64 0))), none, []⟩, ⟨(some 53), (.fAddr 4 (.tmp 52)), none, []⟩, ⟨(some 54), (.fAddr 1 (.tmp 53)), none, []⟩, ⟨none, (.store 1 (.tmp 54) (.tmp 51)), none, []⟩]) .skip)) (.seq (.ops [⟨(some 55), (.build [(.int .i64 0), (.string (bs [])), (.int .i64 0), (.string (bs [])), (.string (bs [])), (.int .u64 0), (.int .u64 0), (.string (bs [])), (.string (bs [])), (.int .u64 0), (.int .u64 0), (.slice none 0 0), (.slice none 0 0)] [(0, (1, (.const (.int .i64 1)))), (1, (1, (.const (.string (bs [114, 111, 117, 116, 101])))))]), none, []⟩, ⟨(some 56), (.buildSlice 13 1 [(.int .i64 0), (.string (bs [])), (.int .i64 0), (.string (bs [])), (.string (bs [])), (.int .u64 0), (.int .u64 0), (.string (bs [])), (.string (bs [])), (.int .u64 0), (.int .u64 0), (.slice none 0 0), (.slice none 0 0)] [(0, (13, (.tmp 55)))]), none, []⟩, ⟨(some 57), (.fAddr 5 (.tmp 3)), none, []⟩, ⟨none, (.store 1 (.tmp 57) (.tmp 56)), none, []⟩]) (.seq (.ops [⟨(some 58), (.loadN 6 (.tmp 3)), none, []⟩, ⟨none, (.store 6 (.tmp 2) (.tmp 58)), none, []⟩]) .ret)))))))))) [(.cellN 2 6)])
def g50 : AFunc := (.code 23 (.seq (.ops [⟨(some 2), (.box (.tmp 0)), none, []⟩, ⟨(some 3), (.box (.tmp 1)), none, []⟩, ⟨(some 4), (.mov (.const (.int .i64 0))), none, []⟩]) (.seq (.ops [⟨(some 8), (.loadN 6 (.tmp 2)), none, []⟩, ⟨(some 9), (.loadN 2 (.tmp 3)), none, []⟩, ⟨(some 10), (.callv (.func 126) [(.tmp 8), (.tmp 9)]), none, []⟩, ⟨(some 7), (.mov (.tmp 10)), none, []⟩, ⟨(some 11), (.extract (.tmp 7) 0), none, []⟩, ⟨(some 12), (.extract (.tmp 7) 1), none, []⟩, ⟨(some 5), (.alloc [(.string (bs [])), (.int .i64 0)]), none, []⟩, ⟨none, (.store 2 (.tmp 5) (.tmp 11)), none, []⟩, ⟨(some 6), (.mov (.tmp 12)), none, []⟩]) (.seq (.seq (.ops [⟨(some 13), (.fAddr 1 (.tmp 5)), none, []⟩, ⟨(some 14), (.load1 (.tmp 13)), none, []⟩, ⟨(some 15), (.bin .lss (.tmp 14) (.const (.int .i64 1))), none, []⟩, ⟨(some 16), (.mov (.tmp 15)), none, []⟩, ⟨(some 17), (.fAddr 1 (.tmp 5)), (some (16, false)), []⟩, ⟨(some 18), (.load1 (.tmp 17)), (some (16, false)), []⟩, ⟨(some 19), (.bin .gtr (.tmp 18) (.const (.int .i64 128))), (some (16, false)), []⟩, ⟨(some 20), (.pick (.tmp 16) (.const (.bool true)) (.tmp 19)), none, []⟩]) (.cond (.tmp 20) (.seq (.ops [⟨(some 4), (.mov (.const (.int .i64 0))), none, []⟩]) .ret) .skip)) (.seq (.ops [⟨(some 21), (.fAddr 1 (.tmp 5)), none, []⟩, ⟨(some 22), (.load1 (.tmp 21)), none, []⟩, ⟨(some 4), (.mov (.tmp 22)), none, []⟩]) .ret)))) [(.tmp 4)])
def g51 : AFunc := (.rcv 14 5 [⟨(some 6), (.tAssert2 91 (.agg #[(.int .i64 0), (.string (bs []))]) (.tmp 5)), none, []⟩, ⟨(some 4), (.mov (.tmp 6)), none, []⟩, ⟨(some 7), (.extract (.tmp 4) 0), none, []⟩, ⟨(some 8), (.extract (.tmp 4) 1), none, []⟩, ⟨(some 2), (.alloc [(.int .i64 0), (.string (bs []))]), none, []⟩, ⟨none, (.store 2 (.tmp 2) (.tmp 7)), none, []⟩, ⟨(some 3), (.mov (.tmp 8)), none, []⟩] (.seq (.ops [⟨(some 9), (.mov (.tmp 3)), none, []⟩]) (.cond (.tmp 9) (.ops [⟨(some 10), (.fAddr 0 (.tmp 2)), none, []⟩, ⟨(some 12), (.fAddr 1 (.tmp 2)), none, []⟩, ⟨(some 11), (.load1 (.tmp 10)), none, []⟩, ⟨(some 13), (.load1 (.tmp 12)), none, [(0, 1)]⟩, ⟨none, (.store 1 (.tmp 0) (.tmp 11)), none, []⟩, ⟨none, (.store 1 (.tmp 1) (.tmp 13)), none, []⟩]) .skip)))
def g52 : AFunc := (.code 76 (.seq (.ops [⟨(some 8), (.mov (.tmp 0)), none, []⟩, ⟨(some 9), (.nilChk (.tmp 8)), none, []⟩, ⟨(some 10), (.fAddr 6 (.tmp 9)), none, []⟩, ⟨none, (.store 1 (.tmp 10) (.const (.string (bs [104, 101, 97, 100, 101, 114])))), none, []⟩]) (.seq (.ops [⟨(some 11), (.mov (.tmp 0)), none, []⟩, ⟨(some 12), (.mov (.tmp 0)), none, []⟩, ⟨(some 13), (.nilChk (.tmp 12)), none, []⟩, ⟨(some 14), (.fAddr 0 (.tmp 13)), none, []⟩, ⟨(some 15), (.fAddr 0 (.tmp 14)), none, []⟩, ⟨(some 16), (.load1 (.tmp 15)), none, []⟩, ⟨(some 17), (.lenSl (.tmp 16)), none, []⟩, ⟨(some 18), (.bin .leq (.tmp 17) (.const (.int .i64 32))), none, []⟩, ⟨(some 19), (.callv (.func 53) [(.tmp 11), (.tmp 18), (.const (.int .i64 74))]), none, []⟩]) (.seq (.ops [⟨(some 20), .mkMap, none, []⟩, ⟨(some 2), (.mov (.tmp 20)), none, []⟩]) (.seq (.ops [⟨(some 21), (.mov (.tmp 0)), none, []⟩, ⟨(some 22), (.nilChk (.tmp 21)), none, []⟩, ⟨(some 23), (.fAddr 0 (.tmp 22)), none, []⟩, ⟨(some 24), (.fAddr 0 (.tmp 23)), none, []⟩, ⟨(some 25), (.load1 (.tmp 24)), none, []⟩, ⟨(some 26), (.lenSl (.tmp 25)), none, []⟩, ⟨(some 27), (.mov (.const (.int .i64 0))), none, []⟩]) (.block 0 (.loop (.seq (.ops [⟨(some 28), (.bin .lss (.tmp 27) (.tmp 26)), none, []⟩]) (.seq (.cond (.tmp 28) .skip (.exit 0)) (.seq (.block 1 (.seq (.ops [⟨(some 29), (.iAddrSl 2 (.tmp 25) (.tmp 27)), none, []⟩, ⟨(some 30), (.loadN 2 (.tmp 29)), none, []⟩, ⟨(some 4), (.alloc [(.string (bs [])), (.slice none 0 0)]), none, []⟩, ⟨none, (.store 2 (.tmp 4) (.tmp 30)), none, []⟩]) (.seq (.ops [⟨(some 31), (.mov (.tmp 0)), none, []⟩, ⟨(some 32), (.fAddr 0 (.tmp 4)), none, []⟩, ⟨(some 33), (.load1 (.tmp 32)), none, []⟩, ⟨(some 34), (.bin .add (.const (.string (bs [104, 101, 97, 100, 101, 114, 32]))) (.tmp 33)), none, []⟩, ⟨(some 35), (.nilChk (.tmp 31)), none, []⟩, ⟨(some 36), (.fAddr 6 (.tmp 35)), none, []⟩, ⟨none, (.store 1 (.tmp 36) (.tmp 34)), none, []⟩]) (.seq (.ops [⟨(some 37), (.mov (.tmp 0)), none, []⟩, ⟨(some 38), (.fAddr 0 (.tmp 4)), none, []⟩, ⟨(some 39), (.load1 (.tmp 38)), none, []⟩, ⟨(some 40), (.mov (.tmp 2)), none, []⟩, ⟨(some 41), (.callv (.func 127) [(.tmp 37), (.tmp 39), (.tmp 40)]), none, []⟩]) (.seq (.ops [⟨(some 42), (.mov (.tmp 0)), none, []⟩, ⟨(some 43), (.fAddr 1 (.tmp 4)), none, []⟩, ⟨(some 44), (.load1 (.tmp 43)), none, []⟩, ⟨(some 45), (.lenSl (.tmp 44)), none, []⟩, ⟨(some 46), (.bin .gtr (.tmp 45) (.const (.int .i64 0))), none, []⟩, ⟨(some 47), (.mov (.tmp 46)), none, []⟩, ⟨(some 48), (.fAddr 1 (.tmp 4)), (some (47, true)), []⟩, ⟨(some 49), (.load1 (.tmp 48)), (some (47, true)), []⟩, ⟨(some 50), (.lenSl (.tmp 49)), (some (47, true)), []⟩, ⟨(some 51), (.bin .leq (.tmp 50) (.const (.int .i64 32))), (some (47, true)), []⟩, ⟨(some 52), (.pick (.tmp 47) (.tmp 51) (.const (.bool false))), none, []⟩, ⟨(some 53), (.callv (.func 53) [(.tmp 42), (.tmp 52), (.const (.int .i64 74))]), none, []⟩]) (.seq (.ops [⟨(some 54), (.mov (.tmp 0)), none, []⟩, ⟨(some 55), (.fAddr 1 (.tmp 4)), none, []⟩, ⟨(some 56), (.load1 (.tmp 55)), none, []⟩, ⟨(some 57), (.callv (.func 54) [(.tmp 54), (.tmp 56)]), none, []⟩]) (.seq (.ops [⟨(some 5), (.mov (.const (.int .i64 0))), none, []⟩]) (.seq (.seq (.ops [⟨(some 58), (.fAddr 1 (.tmp 4)), none, []⟩, ⟨(some 59), (.load1 (.tmp 58)), none, []⟩, ⟨(some 60), (.lenSl (.tmp 59)), none, []⟩, ⟨(some 61), (.mov (.const (.int .i64 0))), none, []⟩]) (.block 2 (.loop (.seq (.ops [⟨(some 62), (.bin .lss (.tmp 61) (.tmp 60)), none, []⟩]) (.seq (.cond (.tmp 62) .skip (.exit 2)) (.seq (.block 3 (.seq (.ops [⟨(some 63), (.iAddrSl 2 (.tmp 59) (.tmp 61)), none, []⟩, ⟨(some 64), (.loadN 2 (.tmp 63)), none, []⟩, ⟨(some 7), (.alloc [(.string (bs [])), (.int .i64 0)]), none, []⟩, ⟨none, (.store 2 (.tmp 7) (.tmp 64)), none, []⟩]) (.ops [⟨(some 65), (.mov (.tmp 5)), none, []⟩, ⟨(some 66), (.fAddr 1 (.tmp 7)), none, []⟩, ⟨(some 67), (.load1 (.tmp 66)), none, []⟩, ⟨(some 68), (.bin .add (.tmp 65) (.tmp 67)), none, []⟩, ⟨(some 5), (.mov (.tmp 68)), none, []⟩]))) (.ops [⟨(some 69), (.bin .add (.tmp 61) (.const (.int .i64 1))), none, []⟩, ⟨(some 61), (.mov (.tmp 69)), none, []⟩]))))))) (.ops [⟨(some 70), (.mov (.tmp 0)), none, []⟩, ⟨(some 71), (.mov (.tmp 5)), none, []⟩, ⟨(some 72), (.bin .rem (.tmp 71) (.const (.int .i64 8))), none, []⟩, ⟨(some 73), (.bin .eql (.tmp 72) (.const (.int .i64 0))), none, []⟩, ⟨(some 74), (.callv (.func 53) [(.tmp 70), (.tmp 73), (.const (.int .i64 73))]), none, []⟩]))))))))) (.ops [⟨(some 75), (.bin .add (.tmp 27) (.const (.int .i64 1))), none, []⟩, ⟨(some 27), (.mov (.tmp 75)), none, []⟩])))))))))) [])
def g53 : AFunc := (.code 15 (.seq (.ops [⟨(some 6), (.mov (.tmp 1)), none, []⟩, ⟨(some 7), (.un .not (.tmp 6)), none, []⟩]) (.cond (.tmp 7) (.ops [⟨(some 8), (.mov (.tmp 2)), none, []⟩, ⟨(some 9), (.mov (.tmp 0)), none, []⟩, ⟨(some 10), (.nilChk (.tmp 9)), none, []⟩, ⟨(some 11), (.fAddr 6 (.tmp 10)), none, []⟩, ⟨(some 12), (.load1 (.tmp 11)), none, []⟩, ⟨(some 13), (.build [(.int .i64 0), (.string (bs []))] [(0, (1, (.tmp 8))), (1, (1, (.tmp 12)))]), none, []⟩, ⟨(some 14), (.mkIface 91 (.tmp 13)), none, []⟩, ⟨none, (.panic (.tmp 14)), none, []⟩]) .skip)) [])
def g54 : AFunc := (.code 30 (.seq (.ops [⟨(some 7), .mkMap, none, []⟩, ⟨(some 4), (.mov (.tmp 7)), none, []⟩]) (.seq (.ops [⟨(some 8), (.mov (.tmp 1)), none, []⟩, ⟨(some 9), (.lenSl (.tmp 8)), none, []⟩, ⟨(some 10), (.mov (.const (.int .i64 0))), none, []⟩]) (.block 0 (.loop (.seq (.ops [⟨(some 11), (.bin .lss (.tmp 10) (.tmp 9)), none, []⟩]) (.seq (.cond (.tmp 11) .skip (.exit 0)) (.seq (.block 1 (.seq (.ops [⟨(some 12), (.iAddrSl 2 (.tmp 8) (.tmp 10)), none, []⟩, ⟨(some 13), (.loadN 2 (.tmp 12)), none, []⟩, ⟨(some 6), (.alloc [(.string (bs [])), (.int .i64 0)]), none, []⟩, ⟨none, (.store 2 (.tmp 6) (.tmp 13)), none, []⟩]) (.seq (.ops [⟨(some 14), (.mov (.tmp 0)), none, []⟩, ⟨(some 15), (.fAddr 0 (.tmp 6)), none, []⟩, ⟨(some 16), (.load1 (.tmp 15)), none, []⟩, ⟨(some 17), (.mov (.tmp 4)), none, []⟩, ⟨(some 18), (.callv (.func 127) [(.tmp 14), (.tmp 16), (.tmp 17)]), none, []⟩]) (.ops [⟨(some 19), (.mov (.tmp 0)), none, []⟩, ⟨(some 20), (.fAddr 1 (.tmp 6)), none, []⟩, ⟨(some 21), (.load1 (.tmp 20)), none, []⟩, ⟨(some 22), (.bin .geq (.tmp 21) (.const (.int .i64 1))), none, []⟩, ⟨(some 23), (.mov (.tmp 22)), none, []⟩, ⟨(some 24), (.fAddr 1 (.tmp 6)), (some (23, true)), []⟩, ⟨(some 25), (.load1 (.tmp 24)), (some (23, true)), []⟩, ⟨(some 26), (.bin .leq (.tmp 25) (.const (.int .i64 128))), (some (23, true)), []⟩, ⟨(some 27), (.pick (.tmp 23) (.tmp 26) (.const (.bool false))), none, []⟩, ⟨(some 28), (.callv (.func 53) [(.tmp 19), (.tmp 27), (.const (.int .i64 73))]), none, []⟩])))) (.ops [⟨(some 29), (.bin .add (.tmp 10) (.const (.int .i64 1))), none, []⟩, ⟨(some 10), (.mov (.tmp 29)), none, []⟩])))))))) [])
def g55 : AFunc := (.code 191 (.seq (.ops [⟨(some 15), (.mov (.tmp 0)), none, []⟩, ⟨(some 16), (.nilChk (.tmp 15)), none, []⟩, ⟨(some 17), (.fAddr 6 (.tmp 16)), none, []⟩, ⟨none, (.store 1 (.tmp 17) (.const (.string (bs [115, 116, 97, 116, 101])))), none, []⟩]) (.seq (.ops [⟨(some 18), (.mov (.tmp 0)), none, []⟩, ⟨(some 19), (.mov (.tmp 0)), none, []⟩, ⟨(some 20), (.nilChk (.tmp 19)), none, []⟩, ⟨(some 21), (.fAddr 0 (.tmp 20)), none, []⟩, ⟨(some 22), (.fAddr 2 (.tmp 21)), none, []⟩, ⟨(some 23), (.load1 (.tmp 22)), none, []⟩, ⟨(some 24), (.lenSl (.tmp 23)), none, []⟩, ⟨(some 25), (.bin .leq (.tmp 24) (.const (.int .i64 32))), none, []⟩, ⟨(some 26), (.callv (.func 53) [(.tmp 18), (.tmp 25), (.const (.int .i64 74))]), none, []⟩]) (.seq (.ops [⟨(some 27), .mkMap, none, []⟩, ⟨none, (.mapUpd (.prim 2) (.tmp 27) (.const (.string (bs [97, 99, 99, 101, 112, 116]))) (.const (.int .i64 1))), none, []⟩, ⟨none, (.mapUpd (.prim 2) (.tmp 27) (.const (.string (bs [114, 101, 106, 101, 99, 116]))) (.const (.int .i64 1))), none, []⟩, ⟨(some 28), (.mov (.tmp 27)), none, []⟩, ⟨(some 2), (.mov (.tmp 28)), none, []⟩]) (.seq (.seq (.ops [⟨(some 29), (.mov (.tmp 0)), none, []⟩, ⟨(some 30), (.nilChk (.tmp 29)), none, []⟩, ⟨(some 31), (.fAddr 0 (.tmp 30)), none, []⟩, ⟨(some 32), (.fAddr 2 (.tmp 31)), none, []⟩, ⟨(some 33), (.load1 (.tmp 32)), none, []⟩, ⟨(some 34), (.lenSl (.tmp 33)), none, []⟩, ⟨(some 35), (.mov (.const (.int .i64 0))), none, []⟩]) (.block 0 (.loop (.seq (.ops [⟨(some 36), (.bin .lss (.tmp 35) (.tmp 34)), none, []⟩]) (.seq (.cond (.tmp 36) .skip (.exit 0)) (.seq (.block 1 (.seq (.ops [⟨(some 37), (.iAddrSl 6 (.tmp 33) (.tmp 35)), none, []⟩, ⟨(some 38), (.loadN 6 (.tmp 37)), none, []⟩, ⟨(some 4), (.alloc [(.string (bs [])), (.string (bs [])), (.string (bs [])), (.string (bs [])), (.slice none 0 0), (.string (bs []))]), none, []⟩, ⟨none, (.store 6 (.tmp 4) (.tmp 38)), none, []⟩]) (.ops [⟨(some 39), (.mov (.tmp 2)), none, []⟩, ⟨(some 40), (.fAddr 0 (.tmp 4)), none, []⟩, ⟨(some 41), (.load1 (.tmp 40)), none, []⟩, ⟨none, (.mapUpd (.prim 2) (.tmp 39) (.tmp 41) (.const (.int .i64 1))), none, []⟩]))) (.ops [⟨(some 42), (.bin .add (.tmp 35) (.const (.int .i64 1))), none, []⟩, ⟨(some 35), (.mov (.tmp 42)), none, []⟩]))))))) (.seq (.ops [⟨(some 43), .mkMap, none, []⟩, ⟨(some 5), (.mov (.tmp 43)), none, []⟩]) (.seq (.seq (.ops [⟨(some 44), (.mov (.tmp 0)), none, []⟩, ⟨(some 45), (.nilChk (.tmp 44)), none, []⟩, ⟨(some 46), (.fAddr 0 (.tmp 45)), none, []⟩, ⟨(some 47), (.fAddr 2 (.tmp 46)), none, []⟩, ⟨(some 48), (.load1 (.tmp 47)), none, []⟩, ⟨(some 49), (.lenSl (.tmp 48)), none, []⟩, ⟨(some 50), (.mov (.const (.int .i64 0))), none, []⟩]) (.block 2 (.loop (.seq (.ops [⟨(some 51), (.bin .lss (.tmp 50) (.tmp 49)), none, []⟩]) (.seq (.cond (.tmp 51) .skip (.exit 2)) (.seq (.block 3 (.seq (.ops [⟨(some 52), (.iAddrSl 6 (.tmp 48) (.tmp 50)), none, []⟩, ⟨(some 53), (.loadN 6 (.tmp 52)), none, []⟩, ⟨(some 7), (.alloc [(.string (bs [])), (.string (bs [])), (.string (bs [])), (.string (bs [])), (.slice none 0 0), (.string (bs []))]), none, []⟩, ⟨none, (.store 6 (.tmp 7) (.tmp 53)), none, []⟩]) (.seq (.ops [⟨(some 54), (.mov (.tmp 0)), none, []⟩, ⟨(some 55), (.fAddr 0 (.tmp 7)), none, []⟩, ⟨(some 56), (.load1 (.tmp 55)), none, []⟩, ⟨(some 57), (.bin .add (.const (.string (bs [115, 116, 97, 116, 101, 32]))) (.tmp 56)), none, []⟩, ⟨(some 58), (.nilChk (.tmp 54)), none, []⟩, ⟨(some 59), (.fAddr 6 (.tmp 58)), none, []⟩, ⟨none, (.store 1 (.tmp 59) (.tmp 57)), none, []⟩]) (.seq (.ops [⟨(some 60), (.mov (.tmp 0)), none, []⟩, ⟨(some 61), (.fAddr 0 (.tmp 7)), none, []⟩, ⟨(some 62), (.load1 (.tmp 61)), none, []⟩, ⟨(some 63), (.mov (.tmp 5)), none, []⟩, ⟨(some 64), (.callv (.func 127) [(.tmp 60), (.tmp 62), (.tmp 63)]), none, []⟩]) (.seq (.ops [⟨(some 65), (.mov (.tmp 0)), none, []⟩, ⟨(some 66), (.mov (.tmp 0)), none, []⟩, ⟨(some 67), (.nilChk (.tmp 66)), none, []⟩, ⟨(some 68), (.fAddr 0 (.tmp 67)), none, []⟩, ⟨(some 70), (.fAddr 1 (.tmp 7)), none, []⟩, ⟨(some 69), (.loadN 6 (.tmp 68)), none, []⟩, ⟨(some 71), (.load1 (.tmp 70)), none, []⟩, ⟨(some 72), (.callv (.func 111) [(.tmp 69), (.tmp 71)]), none, []⟩, ⟨(some 73), (.bin .geq (.tmp 72) (.const (.int .i64 0))), none, []⟩, ⟨(some 74), (.callv (.func 53) [(.tmp 65), (.tmp 73), (.const (.int .i64 72))]), none, []⟩]) (.seq (.ops [⟨(some 76), (.mov (.tmp 0)), none, []⟩, ⟨(some 77), (.nilChk (.tmp 76)), none, []⟩, ⟨(some 78), (.fAddr 0 (.tmp 77)), none, []⟩, ⟨(some 80), (.fAddr 2 (.tmp 7)), none, []⟩, ⟨(some 79), (.loadN 6 (.tmp 78)), none, []⟩, ⟨(some 81), (.loadN 2 (.tmp 80)), none, []⟩, ⟨(some 82), (.callv (.func 126) [(.tmp 79), (.tmp 81)]), none, []⟩, ⟨(some 75), (.mov (.tmp 82)), none, []⟩, ⟨(some 83), (.extract (.tmp 75) 0), none, []⟩, ⟨(some 84), (.extract (.tmp 75) 1), none, []⟩, ⟨(some 8), (.alloc [(.string (bs [])), (.int .i64 0)]), none, []⟩, ⟨none, (.store 2 (.tmp 8) (.tmp 83)), none, []⟩, ⟨(some 9), (.mov (.tmp 84)), none, []⟩]) (.seq (.ops [⟨(some 85), (.fAddr 2 (.tmp 7)), none, []⟩, ⟨(some 86), (.loadN 2 (.tmp 85)), none, []⟩, ⟨(some 87), (.build [(.string (bs [])), (.string (bs []))] []), none, []⟩, ⟨(some 88), (.eqs false 2 [(0, 2), (1, 2)] (.tmp 86) (.tmp 87)), none, []⟩, ⟨(some 10), (.mov (.tmp 88)), none, []⟩]) (.seq (.ops [⟨(some 89), (.mov (.tmp 0)), none, []⟩, ⟨(some 90), (.mov (.tmp 10)), none, []⟩, ⟨(some 91), (.mov (.tmp 90)), none, []⟩, ⟨(some 92), (.mov (.tmp 9)), (some (91, false)), []⟩, ⟨(some 93), (.pick (.tmp 91) (.const (.bool true)) (.tmp 92)), none, []⟩, ⟨(some 94), (.callv (.func 53) [(.tmp 89), (.tmp 93), (.const (.int .i64 72))]), none, []⟩]) (.seq (.ops [⟨(some 95), (.mov (.tmp 0)), none, []⟩, ⟨(some 96), (.fAddr 4 (.tmp 7)), none, []⟩, ⟨(some 97), (.load1 (.tmp 96)), none, []⟩, ⟨(some 98), (.lenSl (.tmp 97)), none, []⟩, ⟨(some 99), (.bin .leq (.tmp 98) (.const (.int .i64 32))), none, []⟩, ⟨(some 100), (.callv (.func 53) [(.tmp 95), (.tmp 99), (.const (.int .i64 74))]), none, []⟩]) (.seq (.ops [⟨(some 101), (.mov (.tmp 0)), none, []⟩, ⟨(some 102), (.mov (.tmp 10)), none, []⟩, ⟨(some 103), (.un .not (.tmp 102)), none, []⟩, ⟨(some 104), (.mov (.tmp 103)), none, []⟩, ⟨(some 105), (.fAddr 4 (.tmp 7)), (some (104, false)), []⟩, ⟨(some 106), (.load1 (.tmp 105)), (some (104, false)), []⟩, ⟨(some 107), (.lenSl (.tmp 106)), (some (104, false)), []⟩, ⟨(some 108), (.bin .eql (.tmp 107) (.const (.int .i64 0))), (some (104, false)), []⟩, ⟨(some 109), (.pick (.tmp 104) (.const (.bool true)) (.tmp 108)), none, []⟩, ⟨(some 110), (.callv (.func 53) [(.tmp 101), (.tmp 109), (.const (.int .i64 75))]), none, []⟩]) (.seq (.ops [⟨(some 111), .mkMap, none, []⟩, ⟨(some 11), (.mov (.tmp 111)), none, []⟩]) (.seq (.seq (.ops [⟨(some 112), (.fAddr 4 (.tmp 7)), none, []⟩, ⟨(some 113), (.load1 (.tmp 112)), none, []⟩, ⟨(some 114), (.lenSl (.tmp 113)), none, []⟩, ⟨(some 115), (.mov (.const (.int .i64 0))), none, []⟩]) (.block 4 (.loop (.seq (.ops [⟨(some 116), (.bin .lss (.tmp 115) (.tmp 114)), none, []⟩]) (.seq (.cond (.tmp 116) .skip (.exit 4)) (.seq (.block 5 (.seq (.ops [⟨(some 117), (.iAddrSl 5 (.tmp 113) (.tmp 115)), none, []⟩, ⟨(some 118), (.loadN 5 (.tmp 117)), none, []⟩, ⟨(some 13), (.alloc [(.int .u64 0), (.int .u64 0), (.int .u64 0), (.int .u64 0), (.string (bs []))]), none, []⟩, ⟨none, (.store 5 (.tmp 13) (.tmp 118)), none, []⟩]) (.seq (.ops [⟨(some 119), (.mov (.tmp 0)), none, []⟩, ⟨(some 120), (.fAddr 2 (.tmp 13)), none, []⟩, ⟨(some 121), (.loadN 2 (.tmp 120)), none, []⟩, ⟨(some 122), (.fAddr 1 (.tmp 8)), none, []⟩, ⟨(some 123), (.load1 (.tmp 122)), none, []⟩, ⟨(some 124), (.callv (.func 128) [(.tmp 121), (.tmp 123)]), none, []⟩, ⟨(some 125), (.mov (.tmp 124)), none, []⟩, ⟨(some 126), (.fAddr 0 (.tmp 13)), (some (125, true)), []⟩, ⟨(some 127), (.fAddr 0 (.tmp 126)), (some (125, true)), []⟩, ⟨(some 128), (.load1 (.tmp 127)), (some (125, true)), []⟩, ⟨(some 129), (.fAddr 2 (.tmp 13)), (some (125, true)), []⟩, ⟨(some 130), (.fAddr 0 (.tmp 129)), (some (125, true)), []⟩, ⟨(some 131), (.load1 (.tmp 130)), (some (125, true)), []⟩, ⟨(some 132), (.bin .or (.tmp 128) (.tmp 131)), (some (125, true)), []⟩, ⟨(some 133), (.fAddr 2 (.tmp 13)), (some (125, true)), []⟩, ⟨(some 134), (.fAddr 0 (.tmp 133)), (some (125, true)), []⟩, ⟨(some 135), (.load1 (.tmp 134)), (some (125, true)), []⟩, ⟨(some 136), (.bin .eql (.tmp 132) (.tmp 135)), (some (125, true)), []⟩, ⟨(some 137), (.pick (.tmp 125) (.tmp 136) (.const (.bool false))), none, []⟩, ⟨(some 138), (.mov (.tmp 137)), none, []⟩, ⟨(some 139), (.fAddr 0 (.tmp 13)), (some (138, true)), []⟩, ⟨(some 140), (.fAddr 1 (.tmp 139)), (some (138, true)), []⟩, ⟨(some 141), (.load1 (.tmp 140)), (some (138, true)), []⟩, ⟨(some 142), (.fAddr 2 (.tmp 13)), (some (138, true)), []⟩, ⟨(some 143), (.fAddr 1 (.tmp 142)), (some (138, true)), []⟩, ⟨(some 144), (.load1 (.tmp 143)), (some (138, true)), []⟩, ⟨(some 145), (.bin .or (.tmp 141) (.tmp 144)), (some (138, true)), []⟩, ⟨(some 146), (.fAddr 2 (.tmp 13)), (some (138, true)), []⟩, ⟨(some 147), (.fAddr 1 (.tmp 146)), (some (138, true)), []⟩, ⟨(some 148), (.load1 (.tmp 147)), (some (138, true)), []⟩, ⟨(some 149), (.bin .eql (.tmp 145) (.tmp 148)), (some (138, true)), []⟩, ⟨(some 150), (.pick (.tmp 138) (.tmp 149) (.const (.bool false))), none, []⟩, ⟨(some 151), (.callv (.func 53) [(.tmp 119), (.tmp 150), (.const (.int .i64 73))]), none, []⟩]) (.seq (.ops [⟨(some 152), (.fAddr 0 (.tmp 13)), none, []⟩, ⟨(some 153), (.fAddr 0 (.tmp 152)), none, []⟩, ⟨(some 154), (.load1 (.tmp 153)), none, []⟩, ⟨(some 155), (.fAddr 0 (.tmp 13)), none, []⟩, ⟨(some 156), (.fAddr 1 (.tmp 155)), none, []⟩, ⟨(some 157), (.load1 (.tmp 156)), none, []⟩, ⟨(some 158), (.fAddr 2 (.tmp 13)), none, []⟩, ⟨(some 159), (.fAddr 0 (.tmp 158)), none, []⟩, ⟨(some 160), (.load1 (.tmp 159)), none, []⟩, ⟨(some 161), (.fAddr 2 (.tmp 13)), none, []⟩, ⟨(some 162), (.fAddr 1 (.tmp 161)), none, []⟩, ⟨(some 163), (.load1 (.tmp 162)), none, []⟩, ⟨(some 164), (.build [(.int .u64 0), (.int .u64 0), (.int .u64 0), (.int .u64 0)] [(0, (1, (.tmp 154))), (1, (1, (.tmp 157))), (2, (1, (.tmp 160))), (3, (1, (.tmp 163)))]), none, []⟩, ⟨(some 14), (.alloc [(.int .u64 0), (.int .u64 0), (.int .u64 0), (.int .u64 0)]), none, []⟩, ⟨none, (.store 4 (.tmp 14) (.tmp 164)), none, []⟩]) (.seq (.ops [⟨(some 165), (.mov (.tmp 0)), none, []⟩, ⟨(some 166), (.mov (.tmp 11)), none, []⟩, ⟨(some 167), (.loadN 4 (.tmp 14)), none, []⟩, ⟨(some 168), (.lookup (.flat 4 [(0, 1), (1, 1), (2, 1), (3, 1)]) (.int .i64 0) false (.tmp 166) (.tmp 167)), none, []⟩, ⟨(some 169), (.bin .eql (.tmp 168) (.const (.int .i64 0))), none, []⟩, ⟨(some 170), (.callv (.func 53) [(.tmp 165), (.tmp 169), (.const (.int .i64 71))]), none, []⟩]) (.seq (.ops [⟨(some 171), (.mov (.tmp 11)), none, []⟩, ⟨(some 172), (.loadN 4 (.tmp 14)), none, []⟩, ⟨none, (.mapUpd (.flat 4 [(0, 1), (1, 1), (2, 1), (3, 1)]) (.tmp 171) (.tmp 172) (.const (.int .i64 1))), none, []⟩]) (.ops [⟨(some 173), (.mov (.tmp 0)), none, []⟩, ⟨(some 174), (.mov (.tmp 2)), none, []⟩, ⟨(some 175), (.fAddr 4 (.tmp 13)), none, []⟩, ⟨(some 176), (.load1 (.tmp 175)), none, []⟩, ⟨(some 177), (.lookup (.prim 2) (.int .i64 0) false (.tmp 174) (.tmp 176)), none, []⟩, ⟨(some 178), (.bin .eql (.tmp 177) (.const (.int .i64 1))), none, []⟩, ⟨(some 179), (.callv (.func 53) [(.tmp 173), (.tmp 178), (.const (.int .i64 72))]), none, []⟩]))))))) (.ops [⟨(some 180), (.bin .add (.tmp 115) (.const (.int .i64 1))), none, []⟩, ⟨(some 115), (.mov (.tmp 180)), none, []⟩]))))))) (.ops [⟨(some 181), (.mov (.tmp 0)), none, []⟩, ⟨(some 182), (.mov (.tmp 2)), none, []⟩, ⟨(some 183), (.fAddr 5 (.tmp 7)), none, []⟩, ⟨(some 184), (.load1 (.tmp 183)), none, []⟩, ⟨(some 185), (.lookup (.prim 2) (.int .i64 0) false (.tmp 182) (.tmp 184)), none, []⟩, ⟨(some 186), (.bin .eql (.tmp 185) (.const (.int .i64 1))), none, []⟩, ⟨(some 187), (.callv (.func 53) [(.tmp 181), (.tmp 186), (.const (.int .i64 72))]), none, []⟩]))))))))))))) (.ops [⟨(some 188), (.bin .add (.tmp 50) (.const (.int .i64 1))), none, []⟩, ⟨(some 50), (.mov (.tmp 188)), none, []⟩]))))))) (.ops [⟨(some 189), (.mov (.tmp 0)), none, []⟩, ⟨(some 190), (.callv (.func 129) [(.tmp 189)]), none, []⟩]))))))) [])
def g56 : AFunc := (.code 71 (.seq (.ops [⟨(some 7), (.mov (.tmp 0)), none, []⟩, ⟨(some 8), (.nilChk (.tmp 7)), none, []⟩, ⟨(some 9), (.fAddr 6 (.tmp 8)), none, []⟩, ⟨none, (.store 1 (.tmp 9) (.const (.string (bs [97, 99, 116, 105, 111, 110])))), none, []⟩]) (.seq (.ops [⟨(some 10), (.mov (.tmp 0)), none, []⟩, ⟨(some 11), (.mov (.tmp 0)), none, []⟩, ⟨(some 12), (.nilChk (.tmp 11)), none, []⟩, ⟨(some 13), (.fAddr 0 (.tmp 12)), none, []⟩, ⟨(some 14), (.fAddr 3 (.tmp 13)), none, []⟩, ⟨(some 15), (.load1 (.tmp 14)), none, []⟩, ⟨(some 16), (.lenSl (.tmp 15)), none, []⟩, ⟨(some 17), (.bin .leq (.tmp 16) (.const (.int .i64 64))), none, []⟩, ⟨(some 18), (.callv (.func 53) [(.tmp 10), (.tmp 17), (.const (.int .i64 74))]), none, []⟩]) (.seq (.ops [⟨(some 19), .mkMap, none, []⟩, ⟨(some 2), (.mov (.tmp 19)), none, []⟩]) (.seq (.ops [⟨(some 20), (.mov (.tmp 0)), none, []⟩, ⟨(some 21), (.nilChk (.tmp 20)), none, []⟩, ⟨(some 22), (.fAddr 0 (.tmp 21)), none, []⟩, ⟨(some 23), (.fAddr 3 (.tmp 22)), none, []⟩, ⟨(some 24), (.load1 (.tmp 23)), none, []⟩, ⟨(some 25), (.lenSl (.tmp 24)), none, []⟩, ⟨(some 26), (.mov (.const (.int .i64 0))), none, []⟩]) (.block 0 (.loop (.seq (.ops [⟨(some 27), (.bin .lss (.tmp 26) (.tmp 25)), none, []⟩]) (.seq (.cond (.tmp 27) .skip (.exit 0)) (.seq (.block 1 (.seq (.ops [⟨(some 28), (.iAddrSl 3 (.tmp 24) (.tmp 26)), none, []⟩, ⟨(some 29), (.loadN 3 (.tmp 28)), none, []⟩, ⟨(some 4), (.alloc [(.string (bs [])), (.slice none 0 0), (.slice none 0 0)]), none, []⟩, ⟨none, (.store 3 (.tmp 4) (.tmp 29)), none, []⟩]) (.seq (.ops [⟨(some 30), (.mov (.tmp 0)), none, []⟩, ⟨(some 31), (.fAddr 0 (.tmp 4)), none, []⟩, ⟨(some 32), (.load1 (.tmp 31)), none, []⟩, ⟨(some 33), (.bin .add (.const (.string (bs [97, 99, 116, 105, 111, 110, 32]))) (.tmp 32)), none, []⟩, ⟨(some 34), (.nilChk (.tmp 30)), none, []⟩, ⟨(some 35), (.fAddr 6 (.tmp 34)), none, []⟩, ⟨none, (.store 1 (.tmp 35) (.tmp 33)), none, []⟩]) (.seq (.ops [⟨(some 36), (.mov (.tmp 0)), none, []⟩, ⟨(some 37), (.fAddr 0 (.tmp 4)), none, []⟩, ⟨(some 38), (.load1 (.tmp 37)), none, []⟩, ⟨(some 39), (.mov (.tmp 2)), none, []⟩, ⟨(some 40), (.callv (.func 127) [(.tmp 36), (.tmp 38), (.tmp 39)]), none, []⟩]) (.seq (.ops [⟨(some 41), (.mov (.tmp 0)), none, []⟩, ⟨(some 42), (.fAddr 1 (.tmp 4)), none, []⟩, ⟨(some 43), (.load1 (.tmp 42)), none, []⟩, ⟨(some 44), (.lenSl (.tmp 43)), none, []⟩, ⟨(some 45), (.bin .leq (.tmp 44) (.const (.int .i64 8))), none, []⟩, ⟨(some 46), (.mov (.tmp 45)), none, []⟩, ⟨(some 47), (.fAddr 2 (.tmp 4)), (some (46, true)), []⟩, ⟨(some 48), (.load1 (.tmp 47)), (some (46, true)), []⟩, ⟨(some 49), (.lenSl (.tmp 48)), (some (46, true)), []⟩, ⟨(some 50), (.bin .leq (.tmp 49) (.const (.int .i64 32))), (some (46, true)), []⟩, ⟨(some 51), (.pick (.tmp 46) (.tmp 50) (.const (.bool false))), none, []⟩, ⟨(some 52), (.callv (.func 53) [(.tmp 41), (.tmp 51), (.const (.int .i64 74))]), none, []⟩]) (.seq (.ops [⟨(some 53), (.mov (.tmp 0)), none, []⟩, ⟨(some 54), (.fAddr 1 (.tmp 4)), none, []⟩, ⟨(some 55), (.load1 (.tmp 54)), none, []⟩, ⟨(some 56), (.callv (.func 54) [(.tmp 53), (.tmp 55)]), none, []⟩]) (.seq (.ops [⟨(some 57), (.fAddr 2 (.tmp 4)), none, []⟩, ⟨(some 58), (.load1 (.tmp 57)), none, []⟩, ⟨(some 59), (.lenSl (.tmp 58)), none, []⟩, ⟨(some 60), (.mov (.const (.int .i64 0))), none, []⟩]) (.block 2 (.loop (.seq (.ops [⟨(some 61), (.bin .lss (.tmp 60) (.tmp 59)), none, []⟩]) (.seq (.cond (.tmp 61) .skip (.exit 2)) (.seq (.block 3 (.seq (.ops [⟨(some 62), (.iAddrSl 12 (.tmp 58) (.tmp 60)), none, []⟩, ⟨(some 63), (.loadN 12 (.tmp 62)), none, []⟩, ⟨(some 6), (.alloc [(.int .i64 0), (.string (bs [])), (.string (bs [])), (.int .i64 0), (.string (bs [])), (.string (bs [])), (.int .u64 0), (.int .u64 0), (.string (bs [])), (.string (bs [])), (.int .u64 0), (.int .u64 0)]), none, []⟩, ⟨none, (.store 12 (.tmp 6) (.tmp 63)), none, []⟩]) (.ops [⟨(some 64), (.mov (.tmp 0)), none, []⟩, ⟨(some 65), (.fAddr 1 (.tmp 4)), none, []⟩, ⟨(some 66), (.load1 (.tmp 65)), none, []⟩, ⟨(some 67), (.loadN 12 (.tmp 6)), none, []⟩, ⟨(some 68), (.callv (.func 130) [(.tmp 64), (.tmp 66), (.tmp 67)]), none, []⟩]))) (.ops [⟨(some 69), (.bin .add (.tmp 60) (.const (.int .i64 1))), none, []⟩, ⟨(some 60), (.mov (.tmp 69)), none, []⟩]))))))))))))) (.ops [⟨(some 70), (.bin .add (.tmp 26) (.const (.int .i64 1))), none, []⟩, ⟨(some 26), (.mov (.tmp 70)), none, []⟩])))))))))) [])
def g57 : AFunc := (.code 168 (.seq (.ops [⟨(some 14), (.mov (.tmp 0)), none, []⟩, ⟨(some 15), (.nilChk (.tmp 14)), none, []⟩, ⟨(some 16), (.fAddr 6 (.tmp 15)), none, []⟩, ⟨none, (.store 1 (.tmp 16) (.const (.string (bs [116, 97, 98, 108, 101])))), none, []⟩]) (.seq (.ops [⟨(some 17), (.mov (.tmp 0)), none, []⟩, ⟨(some 18), (.mov (.tmp 0)), none, []⟩, ⟨(some 19), (.nilChk (.tmp 18)), none, []⟩, ⟨(some 20), (.fAddr 0 (.tmp 19)), none, []⟩, ⟨(some 21), (.fAddr 4 (.tmp 20)), none, []⟩, ⟨(some 22), (.load1 (.tmp 21)), none, []⟩, ⟨(some 23), (.lenSl (.tmp 22)), none, []⟩, ⟨(some 24), (.bin .leq (.tmp 23) (.const (.int .i64 32))), none, []⟩, ⟨(some 25), (.callv (.func 53) [(.tmp 17), (.tmp 24), (.const (.int .i64 74))]), none, []⟩]) (.seq (.ops [⟨(some 26), .mkMap, none, []⟩, ⟨(some 2), (.mov (.tmp 26)), none, []⟩]) (.seq (.ops [⟨(some 27), (.mov (.tmp 0)), none, []⟩, ⟨(some 28), (.nilChk (.tmp 27)), none, []⟩, ⟨(some 29), (.fAddr 0 (.tmp 28)), none, []⟩, ⟨(some 30), (.fAddr 4 (.tmp 29)), none, []⟩, ⟨(some 31), (.load1 (.tmp 30)), none, []⟩, ⟨(some 32), (.lenSl (.tmp 31)), none, []⟩, ⟨(some 33), (.mov (.const (.int .i64 0))), none, []⟩]) (.block 0 (.loop (.seq (.ops [⟨(some 34), (.bin .lss (.tmp 33) (.tmp 32)), none, []⟩]) (.seq (.cond (.tmp 34) .skip (.exit 0)) (.seq (.block 1 (.seq (.ops [⟨(some 35), (.iAddrSl 7 (.tmp 31) (.tmp 33)), none, []⟩, ⟨(some 36), (.loadN 7 (.tmp 35)), none, []⟩, ⟨(some 4), (.alloc [(.string (bs [])), (.slice none 0 0), (.slice none 0 0), (.int .i64 0), (.string (bs [])), (.slice none 0 0), (.bool false)]), none, []⟩, ⟨none, (.store 7 (.tmp 4) (.tmp 36)), none, []⟩]) (.seq (.ops [⟨(some 37), (.mov (.tmp 0)), none, []⟩, ⟨(some 38), (.fAddr 0 (.tmp 4)), none, []⟩, ⟨(some 39), (.load1 (.tmp 38)), none, []⟩, ⟨(some 40), (.bin .add (.const (.string (bs [116, 97, 98, 108, 101, 32]))) (.tmp 39)), none, []⟩, ⟨(some 41), (.nilChk (.tmp 37)), none, []⟩, ⟨(some 42), (.fAddr 6 (.tmp 41)), none, []⟩, ⟨none, (.store 1 (.tmp 42) (.tmp 40)), none, []⟩]) (.seq (.ops [⟨(some 43), (.mov (.tmp 0)), none, []⟩, ⟨(some 44), (.fAddr 0 (.tmp 4)), none, []⟩, ⟨(some 45), (.load1 (.tmp 44)), none, []⟩, ⟨(some 46), (.mov (.tmp 2)), none, []⟩, ⟨(some 47), (.callv (.func 127) [(.tmp 43), (.tmp 45), (.tmp 46)]), none, []⟩]) (.seq (.ops [⟨(some 48), (.mov (.tmp 0)), none, []⟩, ⟨(some 49), (.fAddr 1 (.tmp 4)), none, []⟩, ⟨(some 50), (.load1 (.tmp 49)), none, []⟩, ⟨(some 51), (.lenSl (.tmp 50)), none, []⟩, ⟨(some 52), (.bin .gtr (.tmp 51) (.const (.int .i64 0))), none, []⟩, ⟨(some 53), (.mov (.tmp 52)), none, []⟩, ⟨(some 54), (.fAddr 1 (.tmp 4)), (some (53, true)), []⟩, ⟨(some 55), (.load1 (.tmp 54)), (some (53, true)), []⟩, ⟨(some 56), (.lenSl (.tmp 55)), (some (53, true)), []⟩, ⟨(some 57), (.bin .leq (.tmp 56) (.const (.int .i64 8))), (some (53, true)), []⟩, ⟨(some 58), (.pick (.tmp 53) (.tmp 57) (.const (.bool false))), none, []⟩, ⟨(some 59), (.callv (.func 53) [(.tmp 48), (.tmp 58), (.const (.int .i64 74))]), none, []⟩]) (.seq (.ops [⟨(some 5), (.mov (.const (.int .i64 0))), none, []⟩]) (.seq (.seq (.ops [⟨(some 60), (.fAddr 1 (.tmp 4)), none, []⟩, ⟨(some 61), (.load1 (.tmp 60)), none, []⟩, ⟨(some 62), (.lenSl (.tmp 61)), none, []⟩, ⟨(some 63), (.mov (.const (.int .i64 0))), none, []⟩]) (.block 2 (.loop (.seq (.ops [⟨(some 64), (.bin .lss (.tmp 63) (.tmp 62)), none, []⟩]) (.seq (.cond (.tmp 64) .skip (.exit 2)) (.seq (.block 3 (.seq (.ops [⟨(some 65), (.iAddrSl 3 (.tmp 61) (.tmp 63)), none, []⟩, ⟨(some 66), (.loadN 3 (.tmp 65)), none, []⟩, ⟨(some 7), (.alloc [(.string (bs [])), (.string (bs [])), (.int .i64 0)]), none, []⟩, ⟨none, (.store 3 (.tmp 7) (.tmp 66)), none, []⟩]) (.seq (.ops [⟨(some 68), (.mov (.tmp 0)), none, []⟩, ⟨(some 69), (.nilChk (.tmp 68)), none, []⟩, ⟨(some 70), (.fAddr 0 (.tmp 69)), none, []⟩, ⟨(some 72), (.fAddr 0 (.tmp 7)), none, []⟩, ⟨(some 71), (.loadN 6 (.tmp 70)), none, []⟩, ⟨(some 73), (.loadN 2 (.tmp 72)), none, []⟩, ⟨(some 74), (.callv (.func 126) [(.tmp 71), (.tmp 73)]), none, []⟩, ⟨(some 67), (.mov (.tmp 74)), none, []⟩, ⟨(some 75), (.extract (.tmp 67) 0), none, []⟩, ⟨(some 76), (.extract (.tmp 67) 1), none, []⟩, ⟨(some 8), (.alloc [(.string (bs [])), (.int .i64 0)]), none, []⟩, ⟨none, (.store 2 (.tmp 8) (.tmp 75)), none, []⟩, ⟨(some 9), (.mov (.tmp 76)), none, []⟩]) (.seq (.ops [⟨(some 77), (.mov (.tmp 0)), none, []⟩, ⟨(some 78), (.mov (.tmp 9)), none, []⟩, ⟨(some 79), (.callv (.func 53) [(.tmp 77), (.tmp 78), (.const (.int .i64 72))]), none, []⟩]) (.seq (.ops [⟨(some 80), (.mov (.tmp 0)), none, []⟩, ⟨(some 81), (.fAddr 2 (.tmp 7)), none, []⟩, ⟨(some 82), (.load1 (.tmp 81)), none, []⟩, ⟨(some 83), (.bin .geq (.tmp 82) (.const (.int .i64 1))), none, []⟩, ⟨(some 84), (.mov (.tmp 83)), none, []⟩, ⟨(some 85), (.fAddr 2 (.tmp 7)), (some (84, true)), []⟩, ⟨(some 86), (.load1 (.tmp 85)), (some (84, true)), []⟩, ⟨(some 87), (.bin .leq (.tmp 86) (.const (.int .i64 4))), (some (84, true)), []⟩, ⟨(some 88), (.pick (.tmp 84) (.tmp 87) (.const (.bool false))), none, []⟩, ⟨(some 89), (.callv (.func 53) [(.tmp 80), (.tmp 88), (.const (.int .i64 75))]), none, []⟩]) (.seq (.ops [⟨(some 90), (.fAddr 2 (.tmp 7)), none, []⟩, ⟨(some 91), (.load1 (.tmp 90)), none, []⟩, ⟨(some 92), (.bin .eql (.tmp 91) (.const (.int .i64 2))), none, []⟩]) (.cond (.tmp 92) (.seq (.ops [⟨(some 93), (.mov (.tmp 5)), none, []⟩, ⟨(some 94), (.bin .add (.tmp 93) (.const (.int .i64 1))), none, []⟩, ⟨(some 5), (.mov (.tmp 94)), none, []⟩]) (.ops [⟨(some 95), (.mov (.tmp 0)), none, []⟩, ⟨(some 96), (.mov (.tmp 5)), none, []⟩, ⟨(some 97), (.bin .eql (.tmp 96) (.const (.int .i64 1))), none, []⟩, ⟨(some 98), (.mov (.tmp 97)), none, []⟩, ⟨(some 99), (.loadN 7 (.tmp 4)), (some (98, true)), []⟩, ⟨(some 100), (.callv (.func 22) [(.tmp 99)]), (some (98, true)), []⟩, ⟨(some 101), (.bin .eql (.tmp 100) (.const (.int .i64 2))), (some (98, true)), []⟩, ⟨(some 102), (.pick (.tmp 98) (.tmp 101) (.const (.bool false))), none, []⟩, ⟨(some 103), (.callv (.func 53) [(.tmp 95), (.tmp 102), (.const (.int .i64 75))]), none, []⟩])) .skip))))))) (.ops [⟨(some 104), (.bin .add (.tmp 63) (.const (.int .i64 1))), none, []⟩, ⟨(some 63), (.mov (.tmp 104)), none, []⟩]))))))) (.seq (.ops [⟨(some 105), (.mov (.tmp 0)), none, []⟩, ⟨(some 106), (.fAddr 2 (.tmp 4)), none, []⟩, ⟨(some 107), (.load1 (.tmp 106)), none, []⟩, ⟨(some 108), (.lenSl (.tmp 107)), none, []⟩, ⟨(some 109), (.bin .gtr (.tmp 108) (.const (.int .i64 0))), none, []⟩, ⟨(some 110), (.mov (.tmp 109)), none, []⟩, ⟨(some 111), (.fAddr 2 (.tmp 4)), (some (110, true)), []⟩, ⟨(some 112), (.load1 (.tmp 111)), (some (110, true)), []⟩, ⟨(some 113), (.lenSl (.tmp 112)), (some (110, true)), []⟩, ⟨(some 114), (.bin .leq (.tmp 113) (.const (.int .i64 64))), (some (110, true)), []⟩, ⟨(some 115), (.pick (.tmp 110) (.tmp 114) (.const (.bool false))), none, []⟩, ⟨(some 116), (.callv (.func 53) [(.tmp 105), (.tmp 115), (.const (.int .i64 74))]), none, []⟩]) (.seq (.ops [⟨(some 117), .mkMap, none, []⟩, ⟨(some 10), (.mov (.tmp 117)), none, []⟩]) (.seq (.seq (.ops [⟨(some 118), (.fAddr 2 (.tmp 4)), none, []⟩, ⟨(some 119), (.load1 (.tmp 118)), none, []⟩, ⟨(some 120), (.lenSl (.tmp 119)), none, []⟩, ⟨(some 121), (.mov (.const (.int .i64 0))), none, []⟩]) (.block 4 (.loop (.seq (.ops [⟨(some 122), (.bin .lss (.tmp 121) (.tmp 120)), none, []⟩]) (.seq (.cond (.tmp 122) .skip (.exit 4)) (.seq (.block 5 (.seq (.ops [⟨(some 123), (.iAddrSl 1 (.tmp 119) (.tmp 121)), none, []⟩, ⟨(some 124), (.load1 (.tmp 123)), none, []⟩, ⟨(some 12), (.mov (.tmp 124)), none, []⟩]) (.seq (.ops [⟨(some 125), (.mov (.tmp 0)), none, []⟩, ⟨(some 126), (.mov (.tmp 0)), none, []⟩, ⟨(some 127), (.nilChk (.tmp 126)), none, []⟩, ⟨(some 128), (.fAddr 0 (.tmp 127)), none, []⟩, ⟨(some 129), (.loadN 6 (.tmp 128)), none, []⟩, ⟨(some 130), (.mov (.tmp 12)), none, []⟩, ⟨(some 131), (.callv (.func 112) [(.tmp 129), (.tmp 130)]), none, []⟩, ⟨(some 132), (.bin .geq (.tmp 131) (.const (.int .i64 0))), none, []⟩, ⟨(some 133), (.callv (.func 53) [(.tmp 125), (.tmp 132), (.const (.int .i64 72))]), none, []⟩]) (.seq (.ops [⟨(some 134), (.mov (.tmp 0)), none, []⟩, ⟨(some 135), (.mov (.tmp 10)), none, []⟩, ⟨(some 136), (.mov (.tmp 12)), none, []⟩, ⟨(some 137), (.lookup (.prim 2) (.int .i64 0) false (.tmp 135) (.tmp 136)), none, []⟩, ⟨(some 138), (.bin .eql (.tmp 137) (.const (.int .i64 0))), none, []⟩, ⟨(some 139), (.callv (.func 53) [(.tmp 134), (.tmp 138), (.const (.int .i64 71))]), none, []⟩]) (.ops [⟨(some 140), (.mov (.tmp 10)), none, []⟩, ⟨(some 141), (.mov (.tmp 12)), none, []⟩, ⟨none, (.mapUpd (.prim 2) (.tmp 140) (.tmp 141) (.const (.int .i64 1))), none, []⟩]))))) (.ops [⟨(some 142), (.bin .add (.tmp 121) (.const (.int .i64 1))), none, []⟩, ⟨(some 121), (.mov (.tmp 142)), none, []⟩]))))))) (.seq (.ops [⟨(some 143), (.mov (.tmp 0)), none, []⟩, ⟨(some 144), (.fAddr 3 (.tmp 4)), none, []⟩, ⟨(some 145), (.load1 (.tmp 144)), none, []⟩, ⟨(some 146), (.bin .geq (.tmp 145) (.const (.int .i64 1))), none, []⟩, ⟨(some 147), (.mov (.tmp 146)), none, []⟩, ⟨(some 148), (.fAddr 3 (.tmp 4)), (some (147, true)), []⟩, ⟨(some 149), (.load1 (.tmp 148)), (some (147, true)), []⟩, ⟨(some 150), (.bin .leq (.tmp 149) (.const (.int .i64 4096))), (some (147, true)), []⟩, ⟨(some 151), (.pick (.tmp 147) (.tmp 150) (.const (.bool false))), none, []⟩, ⟨(some 152), (.callv (.func 53) [(.tmp 143), (.tmp 151), (.const (.int .i64 74))]), none, []⟩]) (.seq (.ops [⟨(some 153), (.mov (.tmp 0)), none, []⟩, ⟨(some 154), (.nilChk (.tmp 153)), none, []⟩, ⟨(some 155), (.fAddr 0 (.tmp 154)), none, []⟩, ⟨(some 157), (.fAddr 0 (.tmp 4)), none, []⟩, ⟨(some 159), (.fAddr 4 (.tmp 4)), none, []⟩, ⟨(some 156), (.loadN 6 (.tmp 155)), none, []⟩, ⟨(some 158), (.load1 (.tmp 157)), none, []⟩, ⟨(some 160), (.loadN 2 (.tmp 159)), none, []⟩, ⟨(some 161), (.callv (.func 103) [(.tmp 156), (.tmp 158), (.tmp 160)]), none, []⟩, ⟨(some 13), (.mov (.tmp 161)), none, []⟩]) (.seq (.ops [⟨(some 162), (.mov (.tmp 13)), none, []⟩, ⟨(some 163), (.bin .neq (.tmp 162) (.const (.int .i64 0))), none, []⟩]) (.cond (.tmp 163) (.ops [⟨(some 164), (.mov (.tmp 0)), none, []⟩, ⟨(some 165), (.mov (.tmp 13)), none, []⟩, ⟨(some 166), (.callv (.func 53) [(.tmp 164), (.const (.bool false)), (.tmp 165)]), none, []⟩]) .skip)))))))))))))) (.ops [⟨(some 167), (.bin .add (.tmp 33) (.const (.int .i64 1))), none, []⟩, ⟨(some 33), (.mov (.tmp 167)), none, []⟩])))))))))) [])
def g58 : AFunc := (.code 15 (.seq (.ops [⟨(some 1), (.box (.tmp 0)), none, []⟩, ⟨(some 2), (.mov (.const (.int .i64 0))), none, []⟩]) (.seq (.ops [⟨(some 3), (.alloc [(.int .i64 0)]), none, []⟩, ⟨(some 4), (.alloc [(.bool false)]), none, []⟩, ⟨none, (.store 1 (.tmp 3) (.const (.int .i64 0))), none, []⟩, ⟨none, (.store 1 (.tmp 4) (.const (.bool false))), none, []⟩]) (.seq (.ops [⟨(some 6), (.fAddr 5 (.tmp 1)), none, []⟩, ⟨(some 7), (.load1 (.tmp 6)), none, []⟩, ⟨(some 8), (.mkFunc 131 [] [(.tmp 3), (.tmp 4)]), none, []⟩, ⟨(some 9), (.callv (.func 59) [(.tmp 7), (.const (.int .i64 1)), (.tmp 8)]), none, []⟩, ⟨(some 5), (.mov (.tmp 9)), none, []⟩]) (.seq (.block 0 (.seq (.ops [⟨(some 11), (.mov (.tmp 5)), none, []⟩, ⟨(some 12), (.un .not (.tmp 11)), none, []⟩, ⟨(some 10), (.mov (.tmp 12)), none, []⟩]) (.cond (.tmp 10) (.seq (.ops [⟨(some 2), (.mov (.const (.int .i64 74))), none, []⟩]) .ret) (.seq (.ops [⟨(some 14), (.load1 (.tmp 4)), none, []⟩, ⟨(some 13), (.mov (.tmp 14)), none, []⟩]) (.cond (.tmp 13) (.seq (.ops [⟨(some 2), (.mov (.const (.int .i64 77))), none, []⟩]) .ret) .skip))))) (.seq (.ops [⟨(some 2), (.mov (.const (.int .i64 0))), none, []⟩]) .ret))))) [(.tmp 2)])
def g59 : AFunc := (.code 39 (.seq (.ops [⟨(some 6), (.mov (.const (.bool false))), none, []⟩]) (.seq (.seq (.ops [⟨(some 9), (.mov (.tmp 0)), none, []⟩, ⟨(some 10), (.lenSl (.tmp 9)), none, []⟩, ⟨(some 11), (.mov (.const (.int .i64 0))), none, []⟩]) (.block 0 (.loop (.seq (.ops [⟨(some 12), (.bin .lss (.tmp 11) (.tmp 10)), none, []⟩]) (.seq (.cond (.tmp 12) .skip (.exit 0)) (.seq (.block 1 (.seq (.ops [⟨(some 13), (.iAddrSl 13 (.tmp 9) (.tmp 11)), none, []⟩, ⟨(some 14), (.loadN 13 (.tmp 13)), none, []⟩, ⟨(some 8), (.alloc [(.int .i64 0), (.string (bs [])), (.int .i64 0), (.string (bs [])), (.string (bs [])), (.int .u64 0), (.int .u64 0), (.string (bs [])), (.string (bs [])), (.int .u64 0), (.int .u64 0), (.slice none 0 0), (.slice none 0 0)]), none, []⟩, ⟨none, (.store 13 (.tmp 8) (.tmp 14)), none, []⟩]) (.seq (.ops [⟨(some 15), (.mov (.tmp 2)), none, []⟩, ⟨(some 16), (.loadN 13 (.tmp 8)), none, []⟩, ⟨(some 17), (.mov (.tmp 1)), none, []⟩, ⟨(some 18), (.callv (.tmp 15) [(.tmp 16), (.tmp 17)]), none, []⟩, ⟨(some 19), (.un .not (.tmp 18)), none, []⟩, ⟨(some 20), (.mov (.tmp 19)), none, []⟩, ⟨(some 21), (.fAddr 11 (.tmp 8)), (some (20, false)), []⟩, ⟨(some 22), (.load1 (.tmp 21)), (some (20, false)), []⟩, ⟨(some 23), (.mov (.tmp 1)), (some (20, false)), []⟩, ⟨(some 24), (.bin .add (.tmp 23) (.const (.int .i64 1))), (some (20, false)), []⟩, ⟨(some 25), (.mov (.tmp 2)), (some (20, false)), []⟩, ⟨(some 26), (.callv (.func 59) [(.tmp 22), (.tmp 24), (.tmp 25)]), (some (20, false)), []⟩, ⟨(some 27), (.un .not (.tmp 26)), (some (20, false)), []⟩, ⟨(some 28), (.pick (.tmp 20) (.const (.bool true)) (.tmp 27)), none, []⟩, ⟨(some 29), (.mov (.tmp 28)), none, []⟩, ⟨(some 30), (.fAddr 12 (.tmp 8)), (some (29, false)), []⟩, ⟨(some 31), (.load1 (.tmp 30)), (some (29, false)), []⟩, ⟨(some 32), (.mov (.tmp 1)), (some (29, false)), []⟩, ⟨(some 33), (.bin .add (.tmp 32) (.const (.int .i64 1))), (some (29, false)), []⟩, ⟨(some 34), (.mov (.tmp 2)), (some (29, false)), []⟩, ⟨(some 35), (.callv (.func 59) [(.tmp 31), (.tmp 33), (.tmp 34)]), (some (29, false)), []⟩, ⟨(some 36), (.un .not (.tmp 35)), (some (29, false)), []⟩, ⟨(some 37), (.pick (.tmp 29) (.const (.bool true)) (.tmp 36)), none, []⟩]) (.cond (.tmp 37) (.seq (.ops [⟨(some 6), (.mov (.const (.bool false))), none, []⟩]) .ret) .skip)))) (.ops [⟨(some 38), (.bin .add (.tmp 11) (.const (.int .i64 1))), none, []⟩, ⟨(some 11), (.mov (.tmp 38)), none, []⟩]))))))) (.seq (.ops [⟨(some 6), (.mov (.const (.bool true))), none, []⟩]) .ret))) [(.tmp 6)])
def g60 : AFunc := (.code 10 (.seq (.ops [⟨(some 4), (.box (.tmp 0)), none, []⟩, ⟨(some 6), (.mov (.const (.bool false))), none, []⟩]) (.seq (.ops [⟨(some 7), (.loadN 13 (.tmp 4)), none, []⟩, ⟨(some 8), (.load1 (.tmp 3)), none, []⟩, ⟨(some 9), (.callv (.func 61) [(.tmp 2), (.tmp 7), (.tmp 8)]), none, []⟩]) (.seq (.ops [⟨(some 6), (.mov (.const (.bool true))), none, []⟩]) .ret))) [(.tmp 6)])
def g61 : AFunc := (.code 73 (.seq (.ops [⟨(some 4), (.box (.tmp 1)), none, []⟩]) (.seq (.ops [⟨(some 8), (.fAddr 2 (.tmp 4)), none, []⟩, ⟨(some 9), (.loadN 9 (.tmp 8)), none, []⟩, ⟨(some 6), (.alloc [(.int .i64 0), (.string (bs [])), (.string (bs [])), (.int .u64 0), (.int .u64 0), (.string (bs [])), (.string (bs [])), (.int .u64 0), (.int .u64 0)]), none, []⟩, ⟨none, (.store 9 (.tmp 6) (.tmp 9)), none, []⟩]) (.seq (.ops [⟨(some 7), (.alloc [(.int .i64 0), (.string (bs [])), (.string (bs [])), (.int .u64 0), (.int .u64 0), (.string (bs [])), (.string (bs [])), (.int .u64 0), (.int .u64 0)]), none, []⟩]) (.seq (.ops [⟨(some 10), (.fAddr 0 (.tmp 4)), none, []⟩, ⟨(some 11), (.load1 (.tmp 10)), none, []⟩]) (.block 0 (.seq (.ops [⟨(some 15), (.bin .eql (.tmp 11) (.const (.int .i64 1))), none, []⟩, ⟨(some 14), (.mov (.tmp 15)), none, []⟩]) (.cond (.tmp 14) (.seq (.ops [⟨(some 16), (.mov (.tmp 0)), none, []⟩, ⟨(some 17), (.loadN 9 (.tmp 6)), none, []⟩, ⟨(some 18), (.loadN 9 (.tmp 7)), none, []⟩, ⟨(some 19), (.eqs false 9 [(0, 1), (1, 2), (2, 2), (3, 1), (4, 1), (5, 2), (6, 2), (7, 1), (8, 1)] (.tmp 17) (.tmp 18)), none, []⟩, ⟨(some 20), (.callv (.func 53) [(.tmp 16), (.tmp 19), (.const (.int .i64 75))]), none, []⟩]) (.seq (.ops [⟨(some 21), (.mov (.tmp 0)), none, []⟩, ⟨(some 22), (.mov (.tmp 0)), none, []⟩, ⟨(some 23), (.nilChk (.tmp 22)), none, []⟩, ⟨(some 24), (.fAddr 0 (.tmp 23)), none, []⟩, ⟨(some 26), (.fAddr 1 (.tmp 4)), none, []⟩, ⟨(some 25), (.loadN 6 (.tmp 24)), none, []⟩, ⟨(some 27), (.load1 (.tmp 26)), none, []⟩, ⟨(some 28), (.callv (.func 113) [(.tmp 25), (.tmp 27)]), none, []⟩, ⟨(some 29), (.bin .geq (.tmp 28) (.const (.int .i64 0))), none, []⟩, ⟨(some 30), (.callv (.func 53) [(.tmp 21), (.tmp 29), (.const (.int .i64 72))]), none, []⟩]) (.seq (.ops [⟨(some 31), (.mov (.tmp 0)), none, []⟩, ⟨(some 32), (.mov (.tmp 2)), none, []⟩, ⟨(some 33), (.fAddr 1 (.tmp 4)), none, []⟩, ⟨(some 34), (.load1 (.tmp 33)), none, []⟩, ⟨(some 35), (.lookup (.prim 2) (.int .i64 0) false (.tmp 32) (.tmp 34)), none, []⟩, ⟨(some 36), (.bin .eql (.tmp 35) (.const (.int .i64 0))), none, []⟩, ⟨(some 37), (.callv (.func 53) [(.tmp 31), (.tmp 36), (.const (.int .i64 71))]), none, []⟩]) (.ops [⟨(some 38), (.mov (.tmp 2)), none, []⟩, ⟨(some 39), (.fAddr 1 (.tmp 4)), none, []⟩, ⟨(some 40), (.load1 (.tmp 39)), none, []⟩, ⟨none, (.mapUpd (.prim 2) (.tmp 38) (.tmp 40) (.const (.int .i64 1))), none, []⟩])))) (.seq (.ops [⟨(some 42), (.bin .eql (.tmp 11) (.const (.int .i64 3))), none, []⟩, ⟨(some 41), (.mov (.tmp 42)), none, []⟩]) (.cond (.tmp 41) (.ops [⟨(some 43), (.mov (.tmp 0)), none, []⟩, ⟨(some 44), (.loadN 9 (.tmp 6)), none, []⟩, ⟨(some 45), (.loadN 9 (.tmp 7)), none, []⟩, ⟨(some 46), (.eqs false 9 [(0, 1), (1, 2), (2, 2), (3, 1), (4, 1), (5, 2), (6, 2), (7, 1), (8, 1)] (.tmp 44) (.tmp 45)), none, []⟩, ⟨(some 47), (.mov (.tmp 46)), none, []⟩, ⟨(some 48), (.fAddr 1 (.tmp 4)), (some (47, true)), []⟩, ⟨(some 49), (.load1 (.tmp 48)), (some (47, true)), []⟩, ⟨(some 50), (.bin .eql (.tmp 49) (.const (.string (bs [])))), (some (47, true)), []⟩, ⟨(some 51), (.pick (.tmp 47) (.tmp 50) (.const (.bool false))), none, []⟩, ⟨(some 52), (.mov (.tmp 51)), none, []⟩, ⟨(some 53), (.fAddr 11 (.tmp 4)), (some (52, true)), []⟩, ⟨(some 54), (.load1 (.tmp 53)), (some (52, true)), []⟩, ⟨(some 55), (.lenSl (.tmp 54)), (some (52, true)), []⟩, ⟨(some 56), (.fAddr 12 (.tmp 4)), (some (52, true)), []⟩, ⟨(some 57), (.load1 (.tmp 56)), (some (52, true)), []⟩, ⟨(some 58), (.lenSl (.tmp 57)), (some (52, true)), []⟩, ⟨(some 59), (.bin .add (.tmp 55) (.tmp 58)), (some (52, true)), []⟩, ⟨(some 60), (.bin .eql (.tmp 59) (.const (.int .i64 0))), (some (52, true)), []⟩, ⟨(some 61), (.pick (.tmp 52) (.tmp 60) (.const (.bool false))), none, []⟩, ⟨(some 62), (.callv (.func 53) [(.tmp 43), (.tmp 61), (.const (.int .i64 75))]), none, []⟩]) (.seq (.ops [⟨(some 64), (.bin .eql (.tmp 11) (.const (.int .i64 2))), none, []⟩, ⟨(some 63), (.mov (.tmp 64)), none, []⟩]) (.cond (.tmp 63) (.seq (.ops [⟨(some 65), (.mov (.tmp 0)), none, []⟩, ⟨(some 66), (.fAddr 1 (.tmp 4)), none, []⟩, ⟨(some 67), (.load1 (.tmp 66)), none, []⟩, ⟨(some 68), (.bin .eql (.tmp 67) (.const (.string (bs [])))), none, []⟩, ⟨(some 69), (.callv (.func 53) [(.tmp 65), (.tmp 68), (.const (.int .i64 75))]), none, []⟩]) (.ops [⟨(some 70), (.mov (.tmp 0)), none, []⟩, ⟨(some 71), (.loadN 9 (.tmp 6)), none, []⟩, ⟨(some 72), (.callv (.func 132) [(.tmp 70), (.tmp 71)]), none, []⟩])) (.ops [⟨(some 12), (.mov (.tmp 0)), none, []⟩, ⟨(some 13), (.callv (.func 53) [(.tmp 12), (.const (.bool false)), (.const (.int .i64 75))]), none, []⟩])))))))))))) [])
def g68 : AFunc := (.code 3 (.seq (.ops [⟨(some 0), (.mov (.const (.pointer none))), none, []⟩]) (.seq (.ops [⟨(some 1), (.build [(.int .i64 0)] [(0, (1, (.const (.int .i64 1048576))))]), none, []⟩, ⟨(some 2), (.box (.tmp 1)), none, []⟩, ⟨(some 0), (.mov (.tmp 2)), none, []⟩]) .ret)) [(.tmp 0)])
def g69 : AFunc := (.code 118 (.seq (.ops [⟨(some 3), (.box (.tmp 1)), none, []⟩]) (.seq (.ops [⟨(some 8), (.mov (.tmp 0)), none, []⟩, ⟨(some 9), (.fAddr 1 (.tmp 3)), none, []⟩, ⟨(some 10), (.load1 (.tmp 9)), none, []⟩, ⟨(some 11), (.lenSl (.tmp 10)), none, []⟩, ⟨(some 12), (.callv (.func 142) [(.tmp 8), (.tmp 11)]), none, []⟩]) (.seq (.seq (.ops [⟨(some 4), (.mov (.const (.int .i64 0))), none, []⟩]) (.block 0 (.loop (.seq (.seq (.ops [⟨(some 13), (.mov (.tmp 4)), none, []⟩, ⟨(some 14), (.fAddr 0 (.tmp 3)), none, []⟩, ⟨(some 15), (.load1 (.tmp 14)), none, []⟩, ⟨(some 16), (.lenSl (.tmp 15)), none, []⟩, ⟨(some 17), (.bin .lss (.tmp 13) (.tmp 16)), none, []⟩, ⟨(some 18), (.mov (.tmp 17)), none, []⟩, ⟨(some 19), (.mov (.tmp 0)), (some (18, true)), []⟩, ⟨(some 20), (.fAddr 0 (.tmp 3)), (some (18, true)), []⟩, ⟨(some 21), (.load1 (.tmp 20)), (some (18, true)), []⟩, ⟨(some 22), (.mov (.tmp 4)), (some (18, true)), []⟩, ⟨(some 23), (.iAddrSl 2 (.tmp 21) (.tmp 22)), (some (18, true)), []⟩, ⟨(some 24), (.fAddr 1 (.tmp 23)), (some (18, true)), []⟩, ⟨(some 25), (.load1 (.tmp 24)), (some (18, true)), []⟩, ⟨(some 26), (.lenSl (.tmp 25)), (some (18, true)), []⟩, ⟨(some 27), (.bin .add (.const (.int .i64 1)) (.tmp 26)), (some (18, true)), []⟩, ⟨(some 28), (.callv (.func 142) [(.tmp 19), (.tmp 27)]), (some (18, true)), []⟩, ⟨(some 29), (.pick (.tmp 18) (.tmp 28) (.const (.bool false))), none, []⟩]) (.cond (.tmp 29) .skip (.exit 0))) (.seq (.block 1 .skip) (.ops [⟨(some 30), (.mov (.tmp 4)), none, []⟩, ⟨(some 31), (.bin .add (.tmp 30) (.const (.int .i64 1))), none, []⟩, ⟨(some 4), (.mov (.tmp 31)), none, []⟩])))))) (.seq (.seq (.ops [⟨(some 5), (.mov (.const (.int .i64 0))), none, []⟩]) (.block 2 (.loop (.seq (.seq (.ops [⟨(some 32), (.mov (.tmp 5)), none, []⟩, ⟨(some 33), (.fAddr 2 (.tmp 3)), none, []⟩, ⟨(some 34), (.load1 (.tmp 33)), none, []⟩, ⟨(some 35), (.lenSl (.tmp 34)), none, []⟩, ⟨(some 36), (.bin .lss (.tmp 32) (.tmp 35)), none, []⟩, ⟨(some 37), (.mov (.tmp 36)), none, []⟩, ⟨(some 38), (.mov (.tmp 0)), (some (37, true)), []⟩, ⟨(some 39), (.fAddr 2 (.tmp 3)), (some (37, true)), []⟩, ⟨(some 40), (.load1 (.tmp 39)), (some (37, true)), []⟩, ⟨(some 41), (.mov (.tmp 5)), (some (37, true)), []⟩, ⟨(some 42), (.iAddrSl 6 (.tmp 40) (.tmp 41)), (some (37, true)), []⟩, ⟨(some 43), (.fAddr 4 (.tmp 42)), (some (37, true)), []⟩, ⟨(some 44), (.load1 (.tmp 43)), (some (37, true)), []⟩, ⟨(some 45), (.lenSl (.tmp 44)), (some (37, true)), []⟩, ⟨(some 46), (.bin .add (.const (.int .i64 1)) (.tmp 45)), (some (37, true)), []⟩, ⟨(some 47), (.callv (.func 142) [(.tmp 38), (.tmp 46)]), (some (37, true)), []⟩, ⟨(some 48), (.pick (.tmp 37) (.tmp 47) (.const (.bool false))), none, []⟩]) (.cond (.tmp 48) .skip (.exit 2))) (.seq (.block 3 .skip) (.ops [⟨(some 49), (.mov (.tmp 5)), none, []⟩, ⟨(some 50), (.bin .add (.tmp 49) (.const (.int .i64 1))), none, []⟩, ⟨(some 5), (.mov (.tmp 50)), none, []⟩])))))) (.seq (.seq (.ops [⟨(some 6), (.mov (.const (.int .i64 0))), none, []⟩]) (.block 4 (.loop (.seq (.seq (.ops [⟨(some 51), (.mov (.tmp 6)), none, []⟩, ⟨(some 52), (.fAddr 3 (.tmp 3)), none, []⟩, ⟨(some 53), (.load1 (.tmp 52)), none, []⟩, ⟨(some 54), (.lenSl (.tmp 53)), none, []⟩, ⟨(some 55), (.bin .lss (.tmp 51) (.tmp 54)), none, []⟩, ⟨(some 56), (.mov (.tmp 55)), none, []⟩, ⟨(some 57), (.mov (.tmp 0)), (some (56, true)), []⟩, ⟨(some 58), (.fAddr 3 (.tmp 3)), (some (56, true)), []⟩, ⟨(some 60), (.mov (.tmp 6)), (some (56, true)), []⟩, ⟨(some 66), (.fAddr 3 (.tmp 3)), (some (56, true)), []⟩, ⟨(some 68), (.mov (.tmp 6)), (some (56, true)), []⟩, ⟨(some 59), (.load1 (.tmp 58)), (some (56, true)), []⟩, ⟨(some 61), (.iAddrSl 3 (.tmp 59) (.tmp 60)), (some (56, true)), []⟩, ⟨(some 62), (.fAddr 1 (.tmp 61)), (some (56, true)), []⟩, ⟨(some 63), (.load1 (.tmp 62)), (some (56, true)), []⟩, ⟨(some 64), (.lenSl (.tmp 63)), (some (56, true)), []⟩, ⟨(some 65), (.bin .add (.const (.int .i64 1)) (.tmp 64)), (some (56, true)), []⟩, ⟨(some 67), (.load1 (.tmp 66)), (some (56, true)), []⟩, ⟨(some 69), (.iAddrSl 3 (.tmp 67) (.tmp 68)), (some (56, true)), []⟩, ⟨(some 70), (.fAddr 2 (.tmp 69)), (some (56, true)), []⟩, ⟨(some 71), (.load1 (.tmp 70)), (some (56, true)), []⟩, ⟨(some 72), (.lenSl (.tmp 71)), (some (56, true)), []⟩, ⟨(some 73), (.bin .add (.tmp 65) (.tmp 72)), (some (56, true)), []⟩, ⟨(some 74), (.callv (.func 142) [(.tmp 57), (.tmp 73)]), (some (56, true)), []⟩, ⟨(some 75), (.pick (.tmp 56) (.tmp 74) (.const (.bool false))), none, []⟩]) (.cond (.tmp 75) .skip (.exit 4))) (.seq (.block 5 .skip) (.ops [⟨(some 76), (.mov (.tmp 6)), none, []⟩, ⟨(some 77), (.bin .add (.tmp 76) (.const (.int .i64 1))), none, []⟩, ⟨(some 6), (.mov (.tmp 77)), none, []⟩])))))) (.seq (.seq (.ops [⟨(some 7), (.mov (.const (.int .i64 0))), none, []⟩]) (.block 6 (.loop (.seq (.seq (.ops [⟨(some 78), (.mov (.tmp 7)), none, []⟩, ⟨(some 79), (.fAddr 4 (.tmp 3)), none, []⟩, ⟨(some 80), (.load1 (.tmp 79)), none, []⟩, ⟨(some 81), (.lenSl (.tmp 80)), none, []⟩, ⟨(some 82), (.bin .lss (.tmp 78) (.tmp 81)), none, []⟩, ⟨(some 83), (.mov (.tmp 82)), none, []⟩, ⟨(some 84), (.mov (.tmp 0)), (some (83, true)), []⟩, ⟨(some 85), (.fAddr 4 (.tmp 3)), (some (83, true)), []⟩, ⟨(some 87), (.mov (.tmp 7)), (some (83, true)), []⟩, ⟨(some 93), (.fAddr 4 (.tmp 3)), (some (83, true)), []⟩, ⟨(some 95), (.mov (.tmp 7)), (some (83, true)), []⟩, ⟨(some 101), (.fAddr 4 (.tmp 3)), (some (83, true)), []⟩, ⟨(some 103), (.mov (.tmp 7)), (some (83, true)), []⟩, ⟨(some 86), (.load1 (.tmp 85)), (some (83, true)), []⟩, ⟨(some 88), (.iAddrSl 7 (.tmp 86) (.tmp 87)), (some (83, true)), []⟩, ⟨(some 89), (.fAddr 1 (.tmp 88)), (some (83, true)), []⟩, ⟨(some 90), (.load1 (.tmp 89)), (some (83, true)), []⟩, ⟨(some 91), (.lenSl (.tmp 90)), (some (83, true)), []⟩, ⟨(some 92), (.bin .add (.const (.int .i64 1)) (.tmp 91)), (some (83, true)), []⟩, ⟨(some 94), (.load1 (.tmp 93)), (some (83, true)), []⟩, ⟨(some 96), (.iAddrSl 7 (.tmp 94) (.tmp 95)), (some (83, true)), []⟩, ⟨(some 97), (.fAddr 2 (.tmp 96)), (some (83, true)), []⟩, ⟨(some 98), (.load1 (.tmp 97)), (some (83, true)), []⟩, ⟨(some 99), (.lenSl (.tmp 98)), (some (83, true)), []⟩, ⟨(some 100), (.bin .add (.tmp 92) (.tmp 99)), (some (83, true)), []⟩, ⟨(some 102), (.load1 (.tmp 101)), (some (83, true)), []⟩, ⟨(some 104), (.iAddrSl 7 (.tmp 102) (.tmp 103)), (some (83, true)), []⟩, ⟨(some 105), (.fAddr 4 (.tmp 104)), (some (83, true)), []⟩, ⟨(some 106), (.fAddr 1 (.tmp 105)), (some (83, true)), []⟩, ⟨(some 107), (.load1 (.tmp 106)), (some (83, true)), []⟩, ⟨(some 108), (.lenSl (.tmp 107)), (some (83, true)), []⟩, ⟨(some 109), (.bin .add (.tmp 100) (.tmp 108)), (some (83, true)), []⟩, ⟨(some 110), (.callv (.func 142) [(.tmp 84), (.tmp 109)]), (some (83, true)), []⟩, ⟨(some 111), (.pick (.tmp 83) (.tmp 110) (.const (.bool false))), none, []⟩]) (.cond (.tmp 111) .skip (.exit 6))) (.seq (.block 7 .skip) (.ops [⟨(some 112), (.mov (.tmp 7)), none, []⟩, ⟨(some 113), (.bin .add (.tmp 112) (.const (.int .i64 1))), none, []⟩, ⟨(some 7), (.mov (.tmp 113)), none, []⟩])))))) (.ops [⟨(some 114), (.mov (.tmp 0)), none, []⟩, ⟨(some 115), (.fAddr 5 (.tmp 3)), none, []⟩, ⟨(some 116), (.load1 (.tmp 115)), none, []⟩, ⟨(some 117), (.callv (.func 143) [(.tmp 114), (.tmp 116)]), none, []⟩]))))))) [])
def g70 : AFunc := (.code 8 (.seq (.ops [⟨(some 2), (.mov (.const (.bool false))), none, []⟩]) (.seq (.ops [⟨(some 3), (.mov (.tmp 0)), none, []⟩, ⟨(some 4), (.nilChk (.tmp 3)), none, []⟩, ⟨(some 5), (.fAddr 0 (.tmp 4)), none, []⟩, ⟨(some 6), (.load1 (.tmp 5)), none, []⟩, ⟨(some 7), (.bin .geq (.tmp 6) (.const (.int .i64 0))), none, []⟩, ⟨(some 2), (.mov (.tmp 7)), none, []⟩]) .ret)) [(.tmp 2)])
def g71 : AFunc := (.code 8 (.seq (.ops [⟨(some 2), (.mov (.const (.slice none 0 0))), none, []⟩]) (.seq (.seq (.ops [⟨(some 3), (.mov (.tmp 0)), none, []⟩, ⟨(some 4), (.eqp 1 false (.tmp 3) (.const (.slice none 0 0))), none, []⟩]) (.cond (.tmp 4) (.seq (.ops [⟨(some 2), (.mov (.const (.slice none 0 0))), none, []⟩]) .ret) .skip)) (.seq (.ops [⟨(some 5), (.buildSlice 2 0 [] []), none, []⟩, ⟨(some 6), (.mov (.tmp 0)), none, []⟩, ⟨(some 7), (.append 2 40 (.tmp 5) (.tmp 6)), none, []⟩, ⟨(some 2), (.mov (.tmp 7)), none, []⟩]) .ret))) [(.tmp 2)])
def g72 : AFunc := (.code 8 (.seq (.ops [⟨(some 2), (.mov (.const (.slice none 0 0))), none, []⟩]) (.seq (.seq (.ops [⟨(some 3), (.mov (.tmp 0)), none, []⟩, ⟨(some 4), (.eqp 1 false (.tmp 3) (.const (.slice none 0 0))), none, []⟩]) (.cond (.tmp 4) (.seq (.ops [⟨(some 2), (.mov (.const (.slice none 0 0))), none, []⟩]) .ret) .skip)) (.seq (.ops [⟨(some 5), (.buildSlice 2 0 [] []), none, []⟩, ⟨(some 6), (.mov (.tmp 0)), none, []⟩, ⟨(some 7), (.append 2 24 (.tmp 5) (.tmp 6)), none, []⟩, ⟨(some 2), (.mov (.tmp 7)), none, []⟩]) .ret))) [(.tmp 2)])
def g73 : AFunc := (.code 8 (.seq (.ops [⟨(some 2), (.mov (.const (.slice none 0 0))), none, []⟩]) (.seq (.seq (.ops [⟨(some 3), (.mov (.tmp 0)), none, []⟩, ⟨(some 4), (.eqp 1 false (.tmp 3) (.const (.slice none 0 0))), none, []⟩]) (.cond (.tmp 4) (.seq (.ops [⟨(some 2), (.mov (.const (.slice none 0 0))), none, []⟩]) .ret) .skip)) (.seq (.ops [⟨(some 5), (.buildSlice 6 0 [] []), none, []⟩, ⟨(some 6), (.mov (.tmp 0)), none, []⟩, ⟨(some 7), (.append 6 104 (.tmp 5) (.tmp 6)), none, []⟩, ⟨(some 2), (.mov (.tmp 7)), none, []⟩]) .ret))) [(.tmp 2)])
def g74 : AFunc := (.code 8 (.seq (.ops [⟨(some 2), (.mov (.const (.slice none 0 0))), none, []⟩]) (.seq (.seq (.ops [⟨(some 3), (.mov (.tmp 0)), none, []⟩, ⟨(some 4), (.eqp 1 false (.tmp 3) (.const (.slice none 0 0))), none, []⟩]) (.cond (.tmp 4) (.seq (.ops [⟨(some 2), (.mov (.const (.slice none 0 0))), none, []⟩]) .ret) .skip)) (.seq (.ops [⟨(some 5), (.buildSlice 5 0 [] []), none, []⟩, ⟨(some 6), (.mov (.tmp 0)), none, []⟩, ⟨(some 7), (.append 5 48 (.tmp 5) (.tmp 6)), none, []⟩, ⟨(some 2), (.mov (.tmp 7)), none, []⟩]) .ret))) [(.tmp 2)])
def g75 : AFunc := (.code 8 (.seq (.ops [⟨(some 2), (.mov (.const (.slice none 0 0))), none, []⟩]) (.seq (.seq (.ops [⟨(some 3), (.mov (.tmp 0)), none, []⟩, ⟨(some 4), (.eqp 1 false (.tmp 3) (.const (.slice none 0 0))), none, []⟩]) (.cond (.tmp 4) (.seq (.ops [⟨(some 2), (.mov (.const (.slice none 0 0))), none, []⟩]) .ret) .skip)) (.seq (.ops [⟨(some 5), (.buildSlice 3 0 [] []), none, []⟩, ⟨(some 6), (.mov (.tmp 0)), none, []⟩, ⟨(some 7), (.append 3 64 (.tmp 5) (.tmp 6)), none, []⟩, ⟨(some 2), (.mov (.tmp 7)), none, []⟩]) .ret))) [(.tmp 2)])
def g76 : AFunc := (.code 12 (.seq (.ops [⟨(some 1), (.box (.tmp 0)), none, []⟩, ⟨(some 2), (.alloc [(.string (bs [])), (.slice none 0 0), (.slice none 0 0)]), none, []⟩]) (.seq (.ops [⟨(some 3), (.fAddr 1 (.tmp 1)), none, []⟩, ⟨(some 4), (.load1 (.tmp 3)), none, []⟩, ⟨(some 5), (.callv (.func 72) [(.tmp 4)]), none, []⟩, ⟨(some 6), (.fAddr 1 (.tmp 1)), none, []⟩, ⟨none, (.store 1 (.tmp 6) (.tmp 5)), none, []⟩]) (.seq (.ops [⟨(some 7), (.fAddr 2 (.tmp 1)), none, []⟩, ⟨(some 8), (.load1 (.tmp 7)), none, []⟩, ⟨(some 9), (.callv (.func 144) [(.tmp 8)]), none, []⟩, ⟨(some 10), (.fAddr 2 (.tmp 1)), none, []⟩, ⟨none, (.store 1 (.tmp 10) (.tmp 9)), none, []⟩]) (.seq (.ops [⟨(some 11), (.loadN 3 (.tmp 1)), none, []⟩, ⟨none, (.store 3 (.tmp 2) (.tmp 11)), none, []⟩]) .ret)))) [(.cellN 2 3)])
def g77 : AFunc := (.code 8 (.seq (.ops [⟨(some 2), (.mov (.const (.slice none 0 0))), none, []⟩]) (.seq (.seq (.ops [⟨(some 3), (.mov (.tmp 0)), none, []⟩, ⟨(some 4), (.eqp 1 false (.tmp 3) (.const (.slice none 0 0))), none, []⟩]) (.cond (.tmp 4) (.seq (.ops [⟨(some 2), (.mov (.const (.slice none 0 0))), none, []⟩]) .ret) .skip)) (.seq (.ops [⟨(some 5), (.buildSlice 7 0 [] []), none, []⟩, ⟨(some 6), (.mov (.tmp 0)), none, []⟩, ⟨(some 7), (.append 7 120 (.tmp 5) (.tmp 6)), none, []⟩, ⟨(some 2), (.mov (.tmp 7)), none, []⟩]) .ret))) [(.tmp 2)])
def g78 : AFunc := (.code 18 (.seq (.ops [⟨(some 1), (.box (.tmp 0)), none, []⟩, ⟨(some 2), (.alloc [(.string (bs [])), (.slice none 0 0), (.slice none 0 0), (.int .i64 0), (.string (bs [])), (.slice none 0 0), (.bool false)]), none, []⟩]) (.seq (.ops [⟨(some 3), (.fAddr 1 (.tmp 1)), none, []⟩, ⟨(some 4), (.load1 (.tmp 3)), none, []⟩, ⟨(some 5), (.callv (.func 145) [(.tmp 4)]), none, []⟩, ⟨(some 6), (.fAddr 1 (.tmp 1)), none, []⟩, ⟨none, (.store 1 (.tmp 6) (.tmp 5)), none, []⟩]) (.seq (.ops [⟨(some 7), (.fAddr 2 (.tmp 1)), none, []⟩, ⟨(some 8), (.load1 (.tmp 7)), none, []⟩, ⟨(some 9), (.callv (.func 146) [(.tmp 8)]), none, []⟩, ⟨(some 10), (.fAddr 2 (.tmp 1)), none, []⟩, ⟨none, (.store 1 (.tmp 10) (.tmp 9)), none, []⟩]) (.seq (.ops [⟨(some 11), (.fAddr 4 (.tmp 1)), none, []⟩, ⟨(some 12), (.fAddr 1 (.tmp 11)), none, []⟩, ⟨(some 13), (.load1 (.tmp 12)), none, []⟩, ⟨(some 14), (.callv (.func 147) [(.tmp 13)]), none, []⟩, ⟨(some 15), (.fAddr 4 (.tmp 1)), none, []⟩, ⟨(some 16), (.fAddr 1 (.tmp 15)), none, []⟩, ⟨none, (.store 1 (.tmp 16) (.tmp 14)), none, []⟩]) (.seq (.ops [⟨(some 17), (.loadN 7 (.tmp 1)), none, []⟩, ⟨none, (.store 7 (.tmp 2) (.tmp 17)), none, []⟩]) .ret))))) [(.cellN 2 7)])
def g79 : AFunc := (.code 33 (.seq (.ops [⟨(some 2), (.mov (.const (.slice none 0 0))), none, []⟩]) (.seq (.ops [⟨(some 4), (.mov (.tmp 0)), none, []⟩, ⟨(some 5), (.callv (.func 148) [(.tmp 4)]), none, []⟩, ⟨(some 0), (.mov (.tmp 5)), none, []⟩]) (.seq (.seq (.ops [⟨(some 6), (.mov (.tmp 0)), none, []⟩, ⟨(some 7), (.lenSl (.tmp 6)), none, []⟩, ⟨(some 8), (.mov (.const (.int .i64 0))), none, []⟩]) (.block 0 (.loop (.seq (.ops [⟨(some 9), (.bin .lss (.tmp 8) (.tmp 7)), none, []⟩]) (.seq (.cond (.tmp 9) .skip (.exit 0)) (.seq (.block 1 (.seq (.ops [⟨(some 10), (.mov (.tmp 8)), none, []⟩, ⟨(some 3), (.mov (.tmp 10)), none, []⟩]) (.seq (.ops [⟨(some 11), (.mov (.tmp 0)), none, []⟩, ⟨(some 12), (.mov (.tmp 3)), none, []⟩, ⟨(some 13), (.mov (.tmp 0)), none, []⟩, ⟨(some 14), (.mov (.tmp 3)), none, []⟩, ⟨(some 15), (.iAddrSl 13 (.tmp 13) (.tmp 14)), none, []⟩, ⟨(some 16), (.fAddr 11 (.tmp 15)), none, []⟩, ⟨(some 17), (.load1 (.tmp 16)), none, []⟩, ⟨(some 18), (.callv (.func 79) [(.tmp 17)]), none, []⟩, ⟨(some 19), (.iAddrSl 13 (.tmp 11) (.tmp 12)), none, []⟩, ⟨(some 20), (.fAddr 11 (.tmp 19)), none, []⟩, ⟨none, (.store 1 (.tmp 20) (.tmp 18)), none, []⟩]) (.ops [⟨(some 21), (.mov (.tmp 0)), none, []⟩, ⟨(some 22), (.mov (.tmp 3)), none, []⟩, ⟨(some 23), (.mov (.tmp 0)), none, []⟩, ⟨(some 24), (.mov (.tmp 3)), none, []⟩, ⟨(some 25), (.iAddrSl 13 (.tmp 23) (.tmp 24)), none, []⟩, ⟨(some 26), (.fAddr 12 (.tmp 25)), none, []⟩, ⟨(some 27), (.load1 (.tmp 26)), none, []⟩, ⟨(some 28), (.callv (.func 79) [(.tmp 27)]), none, []⟩, ⟨(some 29), (.iAddrSl 13 (.tmp 21) (.tmp 22)), none, []⟩, ⟨(some 30), (.fAddr 12 (.tmp 29)), none, []⟩, ⟨none, (.store 1 (.tmp 30) (.tmp 28)), none, []⟩])))) (.ops [⟨(some 31), (.bin .add (.tmp 8) (.const (.int .i64 1))), none, []⟩, ⟨(some 8), (.mov (.tmp 31)), none, []⟩]))))))) (.seq (.ops [⟨(some 32), (.mov (.tmp 0)), none, []⟩, ⟨(some 2), (.mov (.tmp 32)), none, []⟩]) .ret)))) [(.tmp 2)])
def g80 : AFunc := (.code 26 (.seq (.ops [⟨(some 4), (.mov (.const (.bool false))), none, []⟩]) (.seq (.seq (.ops [⟨(some 6), (.mov (.tmp 0)), none, []⟩, ⟨(some 7), (.lenSl (.tmp 6)), none, []⟩, ⟨(some 8), (.mov (.tmp 1)), none, []⟩, ⟨(some 9), (.lenSl (.tmp 8)), none, []⟩, ⟨(some 10), (.bin .neq (.tmp 7) (.tmp 9)), none, []⟩]) (.cond (.tmp 10) (.seq (.ops [⟨(some 4), (.mov (.const (.bool false))), none, []⟩]) .ret) .skip)) (.seq (.seq (.ops [⟨(some 5), (.mov (.const (.int .i64 0))), none, []⟩]) (.block 0 (.loop (.seq (.seq (.ops [⟨(some 11), (.mov (.tmp 5)), none, []⟩, ⟨(some 12), (.mov (.tmp 0)), none, []⟩, ⟨(some 13), (.lenSl (.tmp 12)), none, []⟩, ⟨(some 14), (.bin .lss (.tmp 11) (.tmp 13)), none, []⟩]) (.cond (.tmp 14) .skip (.exit 0))) (.seq (.block 1 (.seq (.ops [⟨(some 17), (.mov (.tmp 0)), none, []⟩, ⟨(some 18), (.mov (.tmp 5)), none, []⟩, ⟨(some 19), (.iAddrSl 2 (.tmp 17) (.tmp 18)), none, []⟩, ⟨(some 21), (.mov (.tmp 1)), none, []⟩, ⟨(some 22), (.mov (.tmp 5)), none, []⟩, ⟨(some 23), (.iAddrSl 2 (.tmp 21) (.tmp 22)), none, []⟩, ⟨(some 20), (.loadN 2 (.tmp 19)), none, []⟩, ⟨(some 24), (.loadN 2 (.tmp 23)), none, []⟩, ⟨(some 25), (.eqs true 2 [(0, 2), (1, 1)] (.tmp 20) (.tmp 24)), none, []⟩]) (.cond (.tmp 25) (.seq (.ops [⟨(some 4), (.mov (.const (.bool false))), none, []⟩]) .ret) .skip))) (.ops [⟨(some 15), (.mov (.tmp 5)), none, []⟩, ⟨(some 16), (.bin .add (.tmp 15) (.const (.int .i64 1))), none, []⟩, ⟨(some 5), (.mov (.tmp 16)), none, []⟩])))))) (.seq (.ops [⟨(some 4), (.mov (.const (.bool true))), none, []⟩]) .ret)))) [(.tmp 4)])
end Go.Proofs.YtpllhhaeclnngaaGreat.Ev
