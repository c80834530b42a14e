/- TrieWalks: All and Under, left early, gone over again, within themselves, while the trie changes: a range tells what there was when it began: whatever the inputs, the law answers true. Conditions: none. -/
import Derived.Test.YticgkaanaimllaaWalks4
/- The law TrieWalks: the script. -/
namespace Go.Proofs.Yticgkaanaimllaa.Ev
set_option maxRecDepth 100000
set_option linter.unusedSimpArgs false
set_option linter.unusedVariables false
variable {R : FRes → Heap → Prop} {H : Heap}

theorem hget_frz_nin {c : Nat} : ∀ {bs : List Nat} {H : Heap}, c ∉ bs → hget (frz H bs) c = hget H c
  | [], H, _ => rfl
  | b :: bs, H, h => by
    simp only [List.mem_cons, not_or] at h
    have e : hget (frz1 H b) c = hget H c := hget_frz_ne (H := H) h.1
    rw [frz, hget_frz_nin h.2, e]
theorem XR.frzs {x w : Nat} {m : Int} {sv : Value} {L : KL} {bs : List Nat} (h : XR H x w m sv L) (hb : ∀ c, blk sv = some c → c ∉ bs) : XQ (Ev.frz H bs) x w m sv L :=
  ⟨row_frz h.hd, h.sl.same fun c hc => hget_frz_nin (hb c hc)⟩

/-- What stands while the script is played. -/
structure WL (K : Heap) (q w : Nat) (o : Opr) (st : Int) (o2 : Opr) (t : Tr) (sv : Value) : Prop where
  pr : PR K (q + 2) (q + 4) w 4096 t sv
  b5 : hget K q = .row (opC o ++ .int .i64 st :: opC o2) 0 true
  b6 : hget K (q + 1) = .row [.bool false] 0 true
  b8 : hget K (q + 3) = .row [.pointer (some ⟨q + 2, 0, none⟩)] 0 true
  b10 : hget K (q + 5) = .row [.pointer (some ⟨q + 4, 0, none⟩)] 0 true
  lo : ∀ c, FP (q + 2) (q + 4) t sv c → c = q + 2 ∨ c = q + 4 ∨ q + 5 < c

theorem WL.step {K K2 : Heap} {q w : Nat} {o o2 : Opr} {st : Int} {t t' : Tr} {sv sv' : Value} (h : WL K q w o st o2 t sv) (h2 : ∀ c, c < K.length → ¬ FP (q + 2) (q + 4) t sv c → hget K2 c = hget K c) (h3 : PR K2 (q + 2) (q + 4) w 4096 t' sv')
    (h4 : ∀ c, FP (q + 2) (q + 4) t' sv' c → FP (q + 2) (q + 4) t sv c ∨ K.length ≤ c) : WL K2 q w o st o2 t' sv' := by
  obtain ⟨h5, h6, h7, h8, h9, h10⟩ := h
  have l5 := hget_lt h9 rfl
  refine ⟨h3, ?_, ?_, ?_, ?_, fun c hc => ?_⟩
  · rw [h2 _ (by omega) fun p => by have := h10 _ p; omega]; exact h6
  · rw [h2 _ (by omega) fun p => by have := h10 _ p; omega]; exact h7
  · rw [h2 _ (by omega) fun p => by have := h10 _ p; omega]; exact h8
  · rw [h2 _ (by omega) fun p => by have := h10 _ p; omega]; exact h9
  · rcases h4 c hc with p | p
    · exact h10 c p
    · omega

def walkI (q w : Nat) (o : Opr) (st : Int) (o2 : Opr) (ad : Option Addr) (ops : List Opr) : Nat → Env → Heap → Prop := fun z e K =>
  ∃ (i : Nat) (t : Tr) (sv : Value), i ≤ ops.length ∧ z = ops.length - i ∧ WL K q w o st o2 t sv ∧ OpSl K ad ops q ∧
    (∃ x : Nat → Value, e = [x 0, .slice ad ops.length ops.length, x 2, x 3, x 4, .pointer (some ⟨q, 0, none⟩), .pointer (some ⟨q + 1, 0, none⟩), x 7, .pointer (some ⟨q + 3, 0, none⟩), x 9, .pointer (some ⟨q + 5, 0, none⟩), x 11, .int .i64 (i : Int), x 13, x 14, x 15, x 16, x 17, x 18, x 19, x 20, x 21, x 22, x 23, x 24, x 25, x 26, x 27, x 28, x 29, x 30, x 31, x 32, x 33, x 34, x 35, x 36, x 37, x 38, x 39, x 40, x 41, x 42, x 43, x 44, x 45, x 46, x 47, x 48, x 49, x 50, x 51, x 52, x 53, x 54, x 55, x 56, x 57, x 58, x 59, x 60, x 61, x 62, x 63, x 64, x 65, x 66, x 67, x 68, x 69, x 70, x 71, x 72, x 73, x 74, x 75, x 76, x 77, x 78, x 79, x 80, x 81, x 82, x 83, x 84, x 85, x 86, x 87, x 88, x 89, x 90, x 91, x 92, x 93, x 94, x 95, x 96, x 97, x 98, x 99, x 100, x 101, x 102, x 103, x 104, x 105, x 106, x 107, x 108, x 109, x 110, x 111, x 112, x 113, x 114, x 115, x 116, x 117, x 118, x 119, x 120, x 121, x 122, x 123, x 124, x 125, x 126, x 127, x 128, x 129, x 130, x 131, x 132, x 133, x 134, x 135, x 136, x 137, x 138, x 139, x 140, x 141, x 142, x 143, x 144, x 145, x 146, x 147, x 148, x 149, x 150, x 151, x 152, x 153, x 154, x 155, x 156, x 157, x 158, x 159, x 160, x 161, x 162, x 163, x 164, x 165, x 166, x 167, x 168, x 169, x 170, x 171, x 172, x 173, x 174, x 175, x 176, x 177, x 178, x 179, x 180, x 181, x 182, x 183, x 184, x 185, x 186, x 187, x 188, x 189, x 190, x 191, x 192, x 193, x 194, x 195, x 196, x 197, x 198, x 199, x 200, x 201, x 202, x 203, x 204, x 205, x 206, x 207, x 208, x 209, x 210, x 211, x 212, x 213, x 214, x 215, x 216, x 217, x 218, x 219, x 220, x 221, x 222, x 223, x 224, x 225, x 226, x 227, x 228, x 229, x 230, x 231, x 232, x 233, x 234, x 235, x 236, x 237, x 238, x 239, x 240, x 241, x 242, x 243, x 244, x 245, x 246, x 247, x 248, x 249, x 250, x 251, x 252, x 253, x 254, x 255, x 256, x 257, x 258, x 259, x 260, x 261, x 262, x 263])

theorem walk_loop {q w : Nat} {o o2 : Opr} {st : Int} {ad : Option Addr} {ops : List Opr} (hw : 1 ≤ w) (hw2 : w ≤ 128) (hops : ∀ o ∈ ops, OprOk o) (hlen : ops.length ≤ 4611686018427387904) {Q : Post}
    (hQ : ∀ e K t sv, WL K q w o st o2 t sv → (∃ x : Nat → Value, e = [x 0, x 1, x 2, x 3, x 4, .pointer (some ⟨q, 0, none⟩), .pointer (some ⟨q + 1, 0, none⟩), x 7, .pointer (some ⟨q + 3, 0, none⟩), x 9, .pointer (some ⟨q + 5, 0, none⟩), x 11, x 12, x 13, x 14, x 15, x 16, x 17, x 18, x 19, x 20, x 21, x 22, x 23, x 24, x 25, x 26, x 27, x 28, x 29, x 30, x 31, x 32, x 33, x 34, x 35, x 36, x 37, x 38, x 39, x 40, x 41, x 42, x 43, x 44, x 45, x 46, x 47, x 48, x 49, x 50, x 51, x 52, x 53, x 54, x 55, x 56, x 57, x 58, x 59, x 60, x 61, x 62, x 63, x 64, x 65, x 66, x 67, x 68, x 69, x 70, x 71, x 72, x 73, x 74, x 75, x 76, x 77, x 78, x 79, x 80, x 81, x 82, x 83, x 84, x 85, x 86, x 87, x 88, x 89, x 90, x 91, x 92, x 93, x 94, x 95, x 96, x 97, x 98, x 99, x 100, x 101, x 102, x 103, x 104, x 105, x 106, x 107, x 108, x 109, x 110, x 111, x 112, x 113, x 114, x 115, x 116, x 117, x 118, x 119, x 120, x 121, x 122, x 123, x 124, x 125, x 126, x 127, x 128, x 129, x 130, x 131, x 132, x 133, x 134, x 135, x 136, x 137, x 138, x 139, x 140, x 141, x 142, x 143, x 144, x 145, x 146, x 147, x 148, x 149, x 150, x 151, x 152, x 153, x 154, x 155, x 156, x 157, x 158, x 159, x 160, x 161, x 162, x 163, x 164, x 165, x 166, x 167, x 168, x 169, x 170, x 171, x 172, x 173, x 174, x 175, x 176, x 177, x 178, x 179, x 180, x 181, x 182, x 183, x 184, x 185, x 186, x 187, x 188, x 189, x 190, x 191, x 192, x 193, x 194, x 195, x 196, x 197, x 198, x 199, x 200, x 201, x 202, x 203, x 204, x 205, x 206, x 207, x 208, x 209, x 210, x 211, x 212, x 213, x 214, x 215, x 216, x 217, x 218, x 219, x 220, x 221, x 222, x 223, x 224, x 225, x 226, x 227, x 228, x 229, x 230, x 231, x 232, x 233, x 234, x 235, x 236, x 237, x 238, x 239, x 240, x 241, x 242, x 243, x 244, x 245, x 246, x 247, x 248, x 249, x 250, x 251, x 252, x 253, x 254, x 255, x 256, x 257, x 258, x 259, x 260, x 261, x 262, x 263]) → Q (.exit 0) e K)
    {z : Nat} {e : Env} {K : Heap} (hI : walkI q w o st o2 ad ops z e K) : WLoop T (g6.body.at [1, 1, 1, 1, 1, 0, 1, 0, 0]) e K Q := by
  refine WLoop.inv (walkI q w o st o2 ad ops) ?_ _ _ _ hI
  clear hI
  rintro z e K ⟨i, t, sv, hi, rfl, hT, hsl, ⟨x, rfl⟩⟩
  simp only [AFunc.body, g6, ACode.at]
  by_cases hi2 : (i : Int) < (ops.length : Nat)
  case neg =>
    simp (disch := omega) only [kB, kcx, kdm, kdn, kel, aop, resultsL, resultOf, Nat.reduceEqDiff, reduceCtorEq, eq1, apartOK, apart2, AObj.live, Int.reduceEq, Int.reduceLT, Int.reduceLE, Int.reduceAdd, Int.reduceSub, Int.reduceMul, Int.reduceToNat, cutCells, Nat.reduceAdd, Nat.reduceLeDiff, Nat.reduceLT, Nat.reduceMul, Nat.reduceSub, hi2]
    exact hQ _ _ _ _ hT (by exact ex_env rfl)
  have hil : i < ops.length := by omega
  obtain ⟨bl, wr, rfl, hbl, hrow⟩ := hsl (fun q => by rw [q] at hil; simp at hil)
  have o1 := op_flat ops i hil
  have o3 := op_len ops
  obtain ⟨ho1, ho2, ho3, ho4, ho5, ho6, ho7⟩ := hops ops[i] (List.getElem_mem hil)
  generalize ops[i] = oi at *
  have lbl := hget_lt hrow rfl
  have c0 : (0 : Int) ≤ (i : Int) := by omega
  have b8 := hT.b8
  have b10 := hT.b10
  simp only [opC] at o1
  simp (disch := omega) only [kB, kcx, kdm, kdn, kel, aop, resultsL, resultOf, Nat.reduceEqDiff, reduceCtorEq, eq1, apartOK, apart2, AObj.live, Int.reduceEq, Int.reduceLT, Int.reduceLE, Int.reduceAdd, Int.reduceSub, Int.reduceMul, Int.reduceToNat, cutCells, Nat.reduceAdd, Nat.reduceLeDiff, Nat.reduceLT, Nat.reduceMul, Nat.reduceSub, hi2, hrow, o1, o3, if_pos, c0, hil, b8, b10]
  refine play_t (o := oi) hw hw2 ho1 hT.pr fun K2 t' sv' p1 p2 p3 p4 => ?_
  simp (disch := omega) only [kB, kcx, kdm, kdn, kel, aop, resultsL, resultOf, Nat.reduceEqDiff, reduceCtorEq, eq1, apartOK, apart2, AObj.live, Int.reduceEq, Int.reduceLT, Int.reduceLE, Int.reduceAdd, Int.reduceSub, Int.reduceMul, Int.reduceToNat, cutCells, Nat.reduceAdd, Nat.reduceLeDiff, Nat.reduceLT, Nat.reduceMul, Nat.reduceSub, wr_i64, nadd1]
  exact ⟨ops.length - (i + 1), by omega, i + 1, t', sv', by omega, rfl, hT.step p2 p3 p4, hsl.same fun c hc => p2 c (by have := hget_lt b8 rfl; omega) fun p => by have := hT.lo c p; omega, ex_env rfl⟩

/-! ### The iterators that are kept -/

/-- What stands when the iterators are taken. -/
structure WS (K : Heap) (q n0 w : Nat) (o : Opr) (st : Int) (o2 : Opr) (t : Tr) (sv : Value) : Prop where
  wl : WL K q w o st o2 t sv
  qn : q + 5 < n0
  len : n0 + 9 ≤ K.length
  a0 : hget K n0 = .row [.pointer (some ⟨q + 2, 0, none⟩)] 0 true
  a1 : hget K (n0 + 1) = .row [.func (.func 49) #[] #[]] 0 true
  p14 : hget K (n0 + 2) = .row [.func (.func 79) #[] #[.pointer (some ⟨n0, 0, none⟩), .pointer (some ⟨n0 + 1, 0, none⟩)]] 0 true
  u0 : hget K (n0 + 4) = .row [.pointer (some ⟨q + 2, 0, none⟩)] 0 true
  u1 : hget K (n0 + 4 + 1) = .row [.int .u64 ((o.a / W64 : Nat) : Int), .int .u64 ((o.a % W64 : Nat) : Int), .int .i64 o.n] 0 true
  u2 : hget K (n0 + 4 + 2) = .row [.pointer (some ⟨q + 2, 0, none⟩)] 0 true
  u3 : hget K (n0 + 4 + 3) = .row [.func (.func 50) #[] #[.pointer (some ⟨n0 + 4, 0, none⟩), .pointer (some ⟨n0 + 4 + 1, 0, none⟩)]] 0 true
  p16 : hget K (n0 + 8) = .row [.func (.func 79) #[] #[.pointer (some ⟨n0 + 4 + 2, 0, none⟩), .pointer (some ⟨n0 + 4 + 3, 0, none⟩)]] 0 true
  ap : ∀ c, FP (q + 2) (q + 4) t sv c → c < n0 ∨ n0 + 8 < c

theorem WS.step {K K2 : Heap} {q n0 w : Nat} {o o2 : Opr} {st : Int} {t t' : Tr} {sv sv' : Value} (h : WS K q n0 w o st o2 t sv) (h1 : K.length ≤ K2.length) (h2 : ∀ c, c < K.length → ¬ FP (q + 2) (q + 4) t sv c → hget K2 c = hget K c) (h3 : PR K2 (q + 2) (q + 4) w 4096 t' sv')
    (h4 : ∀ c, FP (q + 2) (q + 4) t' sv' c → FP (q + 2) (q + 4) t sv c ∨ K.length ≤ c) : WS K2 q n0 w o st o2 t' sv' := by
  obtain ⟨h5, qn, len, a0, a1, p14, u0, u1, u2, u3, p16, ap⟩ := h
  have hs : ∀ c, n0 ≤ c → c ≤ n0 + 8 → hget K2 c = hget K c := fun c q1 q2 => h2 c (by omega) fun p => by have := ap c p; omega
  refine ⟨h5.step h2 h3 h4, qn, by omega, ?_, ?_, ?_, ?_, ?_, ?_, ?_, ?_, fun c hc => ?_⟩
  · rw [hs _ (by omega) (by omega)]; exact a0
  · rw [hs _ (by omega) (by omega)]; exact a1
  · rw [hs _ (by omega) (by omega)]; exact p14
  · rw [hs _ (by omega) (by omega)]; exact u0
  · rw [hs _ (by omega) (by omega)]; exact u1
  · rw [hs _ (by omega) (by omega)]; exact u2
  · rw [hs _ (by omega) (by omega)]; exact u3
  · rw [hs _ (by omega) (by omega)]; exact p16
  · rcases h4 c hc with p | p
    · exact ap c p
    · omega
theorem WS.app {K G : Heap} {q n0 w : Nat} {o o2 : Opr} {st : Int} {t : Tr} {sv : Value} (h : WS K q n0 w o st o2 t sv) : WS (K ++ G) q n0 w o st o2 t sv :=
  h.step (by simp) (fun c hc _ => hget_old hc) h.wl.pr.app fun c hc => .inl hc
/-- A block that none of these is. -/
theorem WS.set {K : Heap} {q n0 w p : Nat} {o o2 : Opr} {st : Int} {t : Tr} {sv : Value} {r : AObj} (h : WS K q n0 w o st o2 t sv) (hp : n0 + 8 < p) (hn : ¬ FP (q + 2) (q + 4) t sv p) : WS (K.set p r) q n0 w o st o2 t sv := by
  obtain ⟨⟨h1, b5, b6, b8, b10, lo⟩, qn, len, a0, a1, p14, u0, u1, u2, u3, p16, ap⟩ := h
  exact ⟨⟨h1.same fun c hc => hget_ne fun e => hn (by rw [e]; exact hc), by rw [hget_ne (by omega)]; exact b5, by rw [hget_ne (by omega)]; exact b6, by rw [hget_ne (by omega)]; exact b8, by rw [hget_ne (by omega)]; exact b10, lo⟩, qn, by simpa using len, by rw [hget_ne (by omega)]; exact a0, by rw [hget_ne (by omega)]; exact a1,
    by rw [hget_ne (by omega)]; exact p14, by rw [hget_ne (by omega)]; exact u0, by rw [hget_ne (by omega)]; exact u1, by rw [hget_ne (by omega)]; exact u2, by rw [hget_ne (by omega)]; exact u3, by rw [hget_ne (by omega)]; exact p16, ap⟩

theorem WS.itA {K : Heap} {q n0 w : Nat} {o o2 : Opr} {st : Int} {t : Tr} {sv : Value} (h : WS K q n0 w o st o2 t sv) : IterT K (.func (.func 79) #[] #[.pointer (some ⟨n0, 0, none⟩), .pointer (some ⟨n0 + 1, 0, none⟩)]) (q + 2) w (fun _ _ => true) :=
  ⟨n0, n0 + 1, 49, #[], rfl, h.a0, h.a1, may_allS⟩
theorem WS.itU {K : Heap} {q n0 w : Nat} {o o2 : Opr} {st : Int} {t : Tr} {sv : Value} (h : WS K q n0 w o st o2 t sv) (hw : 1 ≤ w) (hw2 : w ≤ 128) (ho : o.a < 2 ^ 128) : IterT K (.func (.func 79) #[] #[.pointer (some ⟨n0 + 4 + 2, 0, none⟩), .pointer (some ⟨n0 + 4 + 3, 0, none⟩)]) (q + 2) w (undM w o.a o.n) :=
  ⟨n0 + 4 + 2, n0 + 4 + 3, 50, _, rfl, h.u2, h.u3, may_underS hw hw2 ho ⟨_, _, _, _, h.wl.pr.ti.hd⟩ h.u0 h.u1⟩

/-- told of All. -/
theorem tell_all {K : Heap} {q n0 w : Nat} {o o2 : Opr} {st : Int} {t : Tr} {sv : Value} (hw : 1 ≤ w) (hw2 : w ≤ 128) (h : WS K q n0 w o st o2 t sv) (hR : R (.ret (.bool true)) K) :
    WD T 30 [.func (.func 79) #[] #[.pointer (some ⟨n0, 0, none⟩), .pointer (some ⟨n0 + 1, 0, none⟩)], sv, .int .i64 (w : Int)] K R :=
  told_t hw hw2 h.itA h.wl.pr.ti.hd h.wl.pr.ti.lies.ta h.wl.pr.ti.ok h.wl.pr.sz.2.1 (by rw [selP_all]; exact h.wl.pr.xr.sl) hR
/-- The document's Under, for told of Under. -/
theorem ask_under {K : Heap} {q n0 w : Nat} {o o2 : Opr} {st : Int} {t : Tr} {sv : Value} (hw : 1 ≤ w) (hw2 : w ≤ 128) (ho : o.a < 2 ^ 128) (h : WS K q n0 w o st o2 t sv)
    (hR : ∀ sv' g, SLs 2 0 (K ++ g) sv' ((klM w (selP (undM w o.a o.n) t)).map kC) → R (.ret sv') (K ++ g)) :
    WD T 31 [.pointer (some ⟨q + 4, 0, none⟩), bvA o.a, .int .i64 o.n] (frz K [n0 + 8, q + 5, q + 4]) (fun r H1 => R r (thaw K [n0 + 8, q + 5, q + 4] H1)) := by
  have hX := h.wl.pr.xr
  have hsv : ∀ c, blk sv = some c → c ∉ [n0 + 8, q + 5, q + 4] := fun c hc hm => by
    have h1 := h.ap c (.inr (.inr hc))
    have h2 := h.wl.lo c (.inr (.inr hc))
    have hne : c ≠ q + 4 := fun e => by
      rw [e] at hc
      exact hX.sl.ne hX.hd (by decide) hc
    simp only [List.mem_cons, List.not_mem_nil, or_false] at hm
    omega
  refine runder_t (hX.frzs hsv) h.wl.pr.sz.2.2 hw hw2 ho fun sv' g hsl => ?_
  rw [thaw_frz]
  refine hR sv' g ?_
  have hl2 := frz_length [n0 + 8, q + 5, q + 4] K
  have e : klM w (selP (undM w o.a o.n) t) = (if rgt w o.a o.n = true then (kl w t.er).filter (fun y => begB (headT w o.a o.n) y.1) else []) := kl_under hw2 h.wl.pr.pw
  rw [e]
  refine (hsl.same fun c hc => ?_).zero
  have h2 := (hsl.lt hc).2
  obtain ⟨j, rfl⟩ : ∃ j, c = (frz K [n0 + 8, q + 5, q + 4]).length + j := ⟨c - (frz K [n0 + 8, q + 5, q + 4]).length, by omega⟩
  rw [hget_base, hl2, hget_base]
theorem tell_some {K : Heap} {q n0 w : Nat} {o o2 : Opr} {st : Int} {t : Tr} {sv sv' : Value} (hw : 1 ≤ w) (hw2 : w ≤ 128) (ho : o.a < 2 ^ 128) (h : WS K q n0 w o st o2 t sv) (hsl : SLs 2 0 K sv' ((klM w (selP (undM w o.a o.n) t)).map kC)) (hR : R (.ret (.bool true)) K) :
    WD T 30 [.func (.func 79) #[] #[.pointer (some ⟨n0 + 4 + 2, 0, none⟩), .pointer (some ⟨n0 + 4 + 3, 0, none⟩)], sv', .int .i64 (w : Int)] K R :=
  told_t hw hw2 (h.itU hw hw2 ho) h.wl.pr.ti.hd h.wl.pr.ti.lies.ta h.wl.pr.ti.ok h.wl.pr.sz.2.1 hsl hR

end Go.Proofs.Yticgkaanaimllaa.Ev

/- The law TrieWalks: a round. -/
namespace Go.Proofs.Yticgkaanaimllaa.Ev
set_option maxRecDepth 100000
set_option linter.unusedSimpArgs false
set_option linter.unusedVariables false
variable {R : FRes → Heap → Prop} {H : Heap}

theorem PR.no7 {K : Heap} {b xb w : Nat} {m : Int} {t : Tr} {sv : Value} (h : PR K b xb w m t sv) {c : Nat} {cs : List Value} (hc : hget K c = .row cs 7 true) : ¬ FP b xb t sv c := by
  intro hf
  rcases hf with (rfl | hf) | (rfl | hf)
  · have := h.ti.hd
    rw [hc] at this
    exact absurd (AObj.row.inj this).2.1 (by decide)
  · obtain ⟨a, n, f, v, l, r, hr⟩ := h.ti.lies.row c hf
    rw [hc] at hr
    exact absurd (AObj.row.inj hr).2.1 (by decide)
  · have := h.xr.hd
    rw [hc] at this
    exact absurd (AObj.row.inj this).2.1 (by decide)
  · exact h.xr.sl.ne hc (by decide) hf
theorem PR.keep {K K2 : Heap} {b xb w N : Nat} {m : Int} {t : Tr} {sv : Value} (h : PR K b xb w m t sv) (h1 : K.length ≤ K2.length) (h2 : ∀ c, c < K.length → ¬ FP b xb t sv c → hget K2 c = hget K c) : Keep N K K2 :=
  ⟨h1, fun c cs _ hc => (h2 c (hget_lt hc rfl) (h.no7 hc)).trans hc⟩

/-- While All is gone over. -/
structure WI (N pc pw xw q n0 w : Nat) (o : Opr) (st : Int) (o2 : Opr) (t0 : Tr) (svw : Value) (i : Nat) (K : Heap) : Prop where
  ex : ∃ t sv, WS K q n0 w o st o2 t sv ∧ ∀ c, FP (q + 2) (q + 4) t sv c → c < n0 ∨ N < c
  len : N ≤ K.length
  ct : hget K pc = .row [.int .i64 (i : Int)] 0 true
  wp : hget K pw = .row [.pointer (some ⟨xw, 0, none⟩)] 0 true
  was : XR K xw w 4096 svw (kl w t0.er)

/-- The places of the boxes. -/
structure WC0 (N pc pw xw n0 : Nat) (svw : Value) : Prop where
  c1 : n0 + 8 < pc ∧ pc < N
  c2 : n0 + 8 < pw ∧ pw < N
  c3 : n0 + 8 < xw ∧ xw < N
  c4 : ∀ c, blk svw = some c → n0 + 8 < c ∧ c < N
  c5 : pc ≠ pw ∧ pc ≠ xw ∧ blk svw ≠ some pc

theorem WI.app {N pc pw xw q n0 w i : Nat} {o o2 : Opr} {st : Int} {t0 : Tr} {svw : Value} {K G : Heap} (c : WC0 N pc pw xw n0 svw) (h : WI N pc pw xw q n0 w o st o2 t0 svw i K) : WI N pc pw xw q n0 w o st o2 t0 svw i (K ++ G) := by
  obtain ⟨⟨t, sv, h1, h2⟩, h3, h4, h5, h6⟩ := h
  exact ⟨⟨t, sv, h1.app, h2⟩, by simp; omega, by rw [hget_old (hget_lt h4 rfl)]; exact h4, by rw [hget_old (hget_lt h5 rfl)]; exact h5, h6.app⟩
theorem WI.set {N pc pw xw q n0 w i : Nat} {o o2 : Opr} {st : Int} {t0 : Tr} {svw : Value} {K : Heap} {r : AObj} (c : WC0 N pc pw xw n0 svw) (h : WI N pc pw xw q n0 w o st o2 t0 svw i K) : WI N pc pw xw q n0 w o st o2 t0 svw i (K.set N r) := by
  obtain ⟨⟨t, sv, h1, h2⟩, h3, h4, h5, h6⟩ := h
  obtain ⟨q1, q2, q3, q4, q5⟩ := c
  exact ⟨⟨t, sv, h1.set (by omega) fun p => by have := h2 _ p; omega, h2⟩, by simpa using h3, by rw [hget_ne (by omega)]; exact h4, by rw [hget_ne (by omega)]; exact h5, h6.same (hget_ne (by omega)) fun d hd => hget_ne (by have := q4 d hd; omega)⟩
theorem WI.count {N pc pw xw q n0 w i : Nat} {o o2 : Opr} {st : Int} {t0 : Tr} {svw : Value} {K : Heap} {j : Nat} (c : WC0 N pc pw xw n0 svw) (h : WI N pc pw xw q n0 w o st o2 t0 svw i K) : WI N pc pw xw q n0 w o st o2 t0 svw j (K.set pc (.row [.int .i64 (j : Int)] 0 true)) := by
  obtain ⟨⟨t, sv, h1, h2⟩, h3, h4, h5, h6⟩ := h
  obtain ⟨q1, q2, q3, q4, q5⟩ := c
  exact ⟨⟨t, sv, h1.set (by omega) fun p => by have := h2 _ p; omega, h2⟩, by simpa using h3, by rw [hget_set' (hget_lt h4 rfl)], by rw [hget_ne q5.1]; exact h5, h6.same (hget_ne q5.2.1) fun d hd => hget_ne (fun e => q5.2.2 (by rw [e]; exact hd))⟩
theorem WI.step {N pc pw xw q n0 w i : Nat} {o o2 : Opr} {st : Int} {t0 t t' : Tr} {svw sv sv' : Value} {K K2 : Heap} (c : WC0 N pc pw xw n0 svw) (hS : WS K q n0 w o st o2 t sv) (hF : ∀ c, FP (q + 2) (q + 4) t sv c → c < n0 ∨ N < c) (hN : N < K.length)
    (ct : hget K pc = .row [.int .i64 (i : Int)] 0 true) (wp : hget K pw = .row [.pointer (some ⟨xw, 0, none⟩)] 0 true) (was : XR K xw w 4096 svw (kl w t0.er))
    (h1 : K.length ≤ K2.length) (h2 : ∀ c, c < K.length → ¬ FP (q + 2) (q + 4) t sv c → hget K2 c = hget K c) (h3 : PR K2 (q + 2) (q + 4) w 4096 t' sv') (h4 : ∀ c, FP (q + 2) (q + 4) t' sv' c → FP (q + 2) (q + 4) t sv c ∨ K.length ≤ c) :
    WS K2 q n0 w o st o2 t' sv' ∧ (∀ c, FP (q + 2) (q + 4) t' sv' c → c < n0 ∨ N < c) ∧ N < K2.length ∧ hget K2 pc = .row [.int .i64 (i : Int)] 0 true ∧ hget K2 pw = .row [.pointer (some ⟨xw, 0, none⟩)] 0 true ∧ XR K2 xw w 4096 svw (kl w t0.er) := by
  obtain ⟨q1, q2, q3, q4, q5⟩ := c
  have hs : ∀ c, n0 + 8 < c → c < N → hget K2 c = hget K c := fun c e1 e2 => h2 c (by omega) fun p => by have := hF c p; omega
  refine ⟨hS.step h1 h2 h3 h4, fun c hc => ?_, by omega, by rw [hs _ q1.1 q1.2]; exact ct, by rw [hs _ q2.1 q2.2]; exact wp, was.same (hs _ q3.1 q3.2) fun d hd => hs d (q4 d hd).1 (q4 d hd).2⟩
  rcases h4 c hc with p | p
  · exact hF c p
  · omega

/-- The end of a round. -/
theorem walk_tail {N pc pw xw q n0 w i : Nat} {o o2 : Opr} {st : Int} {t0 : Tr} {svw : Value} {K KB : Heap} {ev0 e : Env} {Q : Post} (c : WC0 N pc pw xw n0 svw) (hI : WI N pc pw xw q n0 w o st o2 t0 svw i K) (hi : i ≤ 1000000) (hN : N < K.length) (hk : Keep N KB K)
    (hX : ∀ K2, WI N pc pw xw q n0 w o st o2 t0 svw (i + 1) K2 → ((i + 1 : Nat) : Int) = st → Q (.exit 2) ev0 (K2.set N .dead))
    (he : (∃ x : Nat → Value, e = [x 0, x 1, x 2, x 3, x 4, .pointer (some ⟨q, 0, none⟩), x 6, x 7, x 8, x 9, x 10, x 11, x 12, x 13, x 14, x 15, x 16, x 17, x 18, x 19, .pointer (some ⟨pc, 0, none⟩), x 21, x 22, x 23, x 24, x 25, x 26, x 27, x 28, x 29, x 30, x 31, x 32, x 33, x 34, x 35, x 36, x 37, x 38, x 39, x 40, x 41, x 42, x 43, x 44, x 45, x 46, x 47, x 48, x 49, x 50, x 51, x 52, x 53, x 54, x 55, x 56, x 57, x 58, x 59, x 60, x 61, x 62, x 63, x 64, x 65, x 66, x 67, x 68, x 69, x 70, x 71, x 72, x 73, x 74, x 75, x 76, x 77, x 78, x 79, x 80, x 81, x 82, x 83, x 84, x 85, x 86, x 87, x 88, x 89, x 90, x 91, x 92, x 93, x 94, x 95, x 96, x 97, x 98, x 99, x 100, x 101, x 102, x 103, x 104, x 105, x 106, x 107, x 108, x 109, x 110, x 111, x 112, x 113, x 114, x 115, x 116, x 117, x 118, x 119, x 120, x 121, x 122, x 123, x 124, x 125, x 126, x 127, x 128, x 129, x 130, x 131, x 132, x 133, x 134, x 135, x 136, x 137, x 138, x 139, x 140, x 141, x 142, x 143, x 144, x 145, x 146, x 147, x 148, x 149, x 150, x 151, x 152, x 153, x 154, x 155, x 156, x 157, x 158, x 159, x 160, x 161, x 162, x 163, x 164, x 165, x 166, x 167, x 168, x 169, x 170, x 171, x 172, x 173, x 174, x 175, x 176, x 177, x 178, x 179, x 180, x 181, x 182, x 183, x 184, x 185, x 186, x 187, x 188, x 189, x 190, x 191, x 192, x 193, x 194, x 195, x 196, x 197, x 198, x 199, x 200, x 201, x 202, x 203, x 204, x 205, x 206, x 207, x 208, x 209, x 210, x 211, x 212, x 213, x 214, x 215, x 216, x 217, x 218, x 219, x 220, x 221, x 222, x 223, x 224, x 225, x 226, x 227, x 228, x 229, x 230, x 231, x 232, x 233, x 234, x 235, x 236, x 237, x 238, x 239, x 240, x 241, x 242, x 243, x 244, x 245, x 246, x 247, x 248, x 249, x 250, x 251, x 252, x 253, x 254, x 255, x 256, x 257, x 258, x 259, x 260, x 261, x 262, x 263])) :
    WC T ((g6.body.at [1, 1, 1, 1, 1, 1, 1, 1, 1, 1, 1, 1, 1, 1, 0, 1, 0]).bd.at [0, 1, 1, 1, 1]) e K (blockK 3 (bodyK N Q ev0 (WI N pc pw xw q n0 w o st o2 t0 svw (i + 1)) KB)) := by
  obtain ⟨x, rfl⟩ := he
  obtain ⟨t, sv, hS, hF⟩ := hI.ex
  have ct := hI.ct
  have lc := hget_lt ct rfl
  have b5 := hS.wl.b5
  have hqn := hS.qn
  have hc1 := c.c1
  have hI2 := hI.count (j := i + 1) c
  have hk2 : Keep N KB (K.set pc (.row [.int .i64 ((i + 1 : Nat) : Int)] 0 true)) := hk.trans (Keep.set_lt c.c1.2)
  have hne : pc ≠ q := by omega
  unfold opC at b5
  simp only [List.cons_append, List.nil_append] at b5
  simp only [AFunc.body, g6, ACode.at, ACode.cz, ACode.bd]
  by_cases hst : ((i + 1 : Nat) : Int) = st
  · simp (disch := omega) only [kB, kcx, kdm, kdn, kel, aop, resultsL, resultOf, Nat.reduceEqDiff, reduceCtorEq, eq1, apartOK, apart2, AObj.live, Int.reduceEq, Int.reduceLT, Int.reduceLE, Int.reduceAdd, Int.reduceSub, Int.reduceMul, Int.reduceToNat, cutCells, Nat.reduceAdd, Nat.reduceLeDiff, Nat.reduceLT, Nat.reduceMul, Nat.reduceSub, ct, b5, wr_i64, nadd1, hst, hget_ne]
    rw [← hst]
    exact ⟨hX _ hI2 hst, by simpa using hN⟩
  · simp (disch := omega) only [kB, kcx, kdm, kdn, kel, aop, resultsL, resultOf, Nat.reduceEqDiff, reduceCtorEq, eq1, apartOK, apart2, AObj.live, Int.reduceEq, Int.reduceLT, Int.reduceLE, Int.reduceAdd, Int.reduceSub, Int.reduceMul, Int.reduceToNat, cutCells, Nat.reduceAdd, Nat.reduceLeDiff, Nat.reduceLT, Nat.reduceMul, Nat.reduceSub, ct, b5, wr_i64, nadd1, hst, hget_ne]
    exact ⟨hI2, hk2⟩

end Go.Proofs.Yticgkaanaimllaa.Ev

/- The law TrieWalks: a round, whole. -/
namespace Go.Proofs.Yticgkaanaimllaa.Ev
set_option maxRecDepth 100000
set_option linter.unusedSimpArgs false
set_option linter.unusedVariables false
variable {R : FRes → Heap → Prop} {H : Heap}

set_option maxHeartbeats 1000000 in
theorem walk_body {N pc pw xw q n0 w i : Nat} {o o2 : Opr} {st : Int} {t0 : Tr} {svw : Value} {K : Heap} {ev ev0 : Env} {Q : Post} {c n : Nat} {v : Int} (hw : 1 ≤ w) (hw2 : w ≤ 128) (ho : o.a < 2 ^ 128) (ho2 : o2.a < 2 ^ 128) (hc0 : WC0 N pc pw xw n0 svw) (hI : WI N pc pw xw q n0 w o st o2 t0 svw i K)
    (hL : t0.er.mem.length ≤ 4096) (hx : t0.er.mem[i]? = some (c, n, v)) (hrg : rgt w c (n : Int) = true) (hN : N < K.length)
    (hX : ∀ K2, WI N pc pw xw q n0 w o st o2 t0 svw (i + 1) K2 → ((i + 1 : Nat) : Int) = st → Q (.exit 2) ev0 (K2.set N .dead))
    (he : (fun e => (∃ x : Nat → Value, e = [x 0, x 1, x 2, x 3, x 4, .pointer (some ⟨q, 0, none⟩), .pointer (some ⟨q + 1, 0, none⟩), x 7, .pointer (some ⟨q + 3, 0, none⟩), x 9, .pointer (some ⟨q + 5, 0, none⟩), x 11, x 12, x 13, .pointer (some ⟨n0 + 2, 0, none⟩), x 15, .pointer (some ⟨n0 + 8, 0, none⟩), x 17, x 18, .pointer (some ⟨pw, 0, none⟩), .pointer (some ⟨pc, 0, none⟩), x 21, x 22, x 23, x 24, x 25, x 26, x 27, x 28, x 29, x 30, x 31, x 32, x 33, x 34, x 35, x 36, x 37, x 38, x 39, x 40, x 41, x 42, x 43, x 44, x 45, x 46, x 47, x 48, x 49, x 50, x 51, x 52, x 53, x 54, x 55, x 56, x 57, x 58, x 59, x 60, x 61, x 62, x 63, x 64, x 65, x 66, x 67, x 68, x 69, x 70, x 71, x 72, x 73, x 74, x 75, x 76, x 77, x 78, x 79, x 80, x 81, x 82, x 83, x 84, x 85, x 86, x 87, x 88, x 89, x 90, x 91, x 92, x 93, x 94, x 95, x 96, x 97, x 98, x 99, x 100, x 101, x 102, x 103, x 104, x 105, x 106, x 107, x 108, x 109, x 110, x 111, x 112, x 113, x 114, x 115, x 116, x 117, x 118, x 119, x 120, x 121, x 122, x 123, x 124, x 125, x 126, x 127, x 128, x 129, x 130, x 131, x 132, x 133, x 134, x 135, x 136, x 137, x 138, x 139, x 140, x 141, x 142, x 143, x 144, x 145, x 146, x 147, x 148, x 149, x 150, x 151, x 152, x 153, x 154, x 155, x 156, x 157, x 158, x 159, x 160, x 161, x 162, x 163, x 164, x 165, x 166, x 167, x 168, x 169, x 170, x 171, x 172, x 173, x 174, x 175, x 176, x 177, x 178, x 179, x 180, x 181, x 182, x 183, x 184, x 185, x 186, x 187, x 188, x 189, x 190, x 191, x 192, x 193, x 194, x 195, x 196, x 197, x 198, x 199, x 200, x 201, x 202, x 203, x 204, x 205, x 206, x 207, x 208, x 209, x 210, x 211, x 212, x 213, x 214, x 215, x 216, x 217, x 218, x 219, x 220, x 221, x 222, x 223, x 224, x 225, x 226, x 227, x 228, x 229, x 230, x 231, x 232, x 233, x 234, x 235, x 236, x 237, x 238, x 239, x 240, x 241, x 242, x 243, x 244, x 245, x 246, x 247, x 248, x 249, x 250, x 251, x 252, x 253, x 254, x 255, x 256, x 257, x 258, x 259, x 260, x 261, x 262, x 263])) ev) :
    WC T (g6.body.at [1, 1, 1, 1, 1, 1, 1, 1, 1, 1, 1, 1, 1, 1, 0, 1, 0]).cz (putL ev [128, 129] [pfv c (n : Nat), .int .i64 v]) K
      (asK T (g6.body.at [1, 1, 1, 1, 1, 1, 1, 1, 1, 1, 1, 1, 1, 1, 0, 1, 0]).bd (bodyK N Q ev0 (WI N pc pw xw q n0 w o st o2 t0 svw (i + 1)) K)) := by
  obtain ⟨y, rfl⟩ := he
  have hiL : i < t0.er.mem.length := (List.getElem?_eq_some_iff.1 hx).1
  have hI0 := hI
  obtain ⟨⟨t, sv, hS, hF⟩, hlen, ct, wp, was⟩ := hI
  have hkl : kl w t0.er = klM w t0.er.mem := rfl
  have wd := was.hd
  have lxw := hget_lt wd rfl
  have lpw := hget_lt wp rfl
  have lct := hget_lt ct rfl
  have b5 := hS.wl.b5
  have b8 := hS.wl.b8
  have b10 := hS.wl.b10
  have xd := hS.wl.pr.xr.hd
  have l5 := hget_lt b5 rfl
  have l8 := hget_lt b8 rfl
  have l10 := hget_lt b10 rfl
  have lxd := hget_lt xd rfl
  have hi : i < (klM w t0.er.mem).length := by rw [klM_len]; exact hiL
  have wsl := was.sl
  rw [hkl] at wsl
  obtain ⟨k, rfl, hk2⟩ := kl_row wsl (by omega)
  have lk := hget_lt hk2 rfl
  have hxi := klM_get (w := w) hx hi
  have p1 := kC_all i hi
  have p2 := kC_v i hi
  have p3 := kC_flat (L := klM w t0.er.mem)
  rw [hxi] at p1 p2
  simp only [kC] at p1 p2
  rw [klM_len] at *
  have hi' : (i : Int) < (t0.er.mem.length : Nat) := by omega
  have c0 : (0 : Int) ≤ (i : Int) := by omega
  have hge : ¬ ((t0.er.mem.length : Nat) : Int) ≤ (i : Int) := by omega
  obtain ⟨Z, hZ⟩ : ∃ Z, Z = WC T ((g6.body.at [1, 1, 1, 1, 1, 1, 1, 1, 1, 1, 1, 1, 1, 1, 0, 1, 0]).bd.at [0, 1, 1, 1, 1]) := ⟨_, rfl⟩
  have hZ' := hZ.symm
  simp only [AFunc.body, g6, ACode.at, ACode.cz, ACode.bd] at hZ'
  have b5' := b5
  unfold opC at b5'
  simp only [List.cons_append, List.nil_append] at b5'
  simp only [AFunc.body, g6, ACode.at, ACode.cz, ACode.bd]
  simp (disch := omega) only [kB, kcx, kdm, kdn, kel, aop, resultsL, resultOf, Nat.reduceEqDiff, reduceCtorEq, eq1, apartOK, apart2, AObj.live, Int.reduceEq, Int.reduceLT, Int.reduceLE, Int.reduceAdd, Int.reduceSub, Int.reduceMul, Int.reduceToNat, cutCells, Nat.reduceAdd, Nat.reduceLeDiff, Nat.reduceLT, Nat.reduceMul, Nat.reduceSub, wp, wd, ct, b10, xd, hk2, p1, p3, if_pos, c0, hi', hge, hiL, hZ']
  refine same_t hw hw2 hrg ?_
  simp (disch := omega) only [kB, kcx, kdm, kdn, kel, aop, resultsL, resultOf, Nat.reduceEqDiff, reduceCtorEq, eq1, apartOK, apart2, AObj.live, Int.reduceEq, Int.reduceLT, Int.reduceLE, Int.reduceAdd, Int.reduceSub, Int.reduceMul, Int.reduceToNat, cutCells, Nat.reduceAdd, Nat.reduceLeDiff, Nat.reduceLT, Nat.reduceMul, Nat.reduceSub, wp, wd, ct, b10, xd, hk2, p1, p2, p3, if_pos, c0, hi', hge, hiL, hZ']
  obtain ⟨K1, hK1⟩ : ∃ K1, K1 = K ++ [.row [.int .u64 ((c / W64 : Nat) : Int), .int .u64 ((c % W64 : Nat) : Int), .int .i64 (n : Int)] 0 true] := ⟨_, rfl⟩
  have hI1 : WI N pc pw xw q n0 w o st o2 t0 (.slice (some ⟨k, 0, none⟩) t0.er.mem.length t0.er.mem.length) i K1 := by rw [hK1]; exact hI0.app hc0
  have hk1 : Keep N K K1 := by rw [hK1]; exact Keep.app
  have hS1 : WS K1 q n0 w o st o2 t sv := by rw [hK1]; exact hS.app
  have hN1 : N < K1.length := by rw [hK1]; simp; omega
  have hK1' := hK1.symm
  rw [hK1']
  clear hK1 hK1' hI0
  by_cases hi0 : (i : Int) = 0
  case neg =>
    simp (disch := omega) only [kB, kcx, kdm, kdn, kel, aop, resultsL, resultOf, Nat.reduceEqDiff, reduceCtorEq, eq1, apartOK, apart2, AObj.live, Int.reduceEq, Int.reduceLT, Int.reduceLE, Int.reduceAdd, Int.reduceSub, Int.reduceMul, Int.reduceToNat, cutCells, Nat.reduceAdd, Nat.reduceLeDiff, Nat.reduceLT, Nat.reduceMul, Nat.reduceSub, hi0, hZ']
    rw [hZ]
    exact walk_tail hc0 hI1 (by omega) hN1 hk1 hX (by exact ex_env rfl)
  have b5 := hS1.wl.b5
  have b8 := hS1.wl.b8
  have b10 := hS1.wl.b10
  unfold opC at b5
  simp only [List.cons_append, List.nil_append] at b5
  simp (disch := omega) only [kB, kcx, kdm, kdn, kel, aop, resultsL, resultOf, Nat.reduceEqDiff, reduceCtorEq, eq1, apartOK, apart2, AObj.live, Int.reduceEq, Int.reduceLT, Int.reduceLE, Int.reduceAdd, Int.reduceSub, Int.reduceMul, Int.reduceToNat, cutCells, Nat.reduceAdd, Nat.reduceLeDiff, Nat.reduceLT, Nat.reduceMul, Nat.reduceSub, hi0, hZ', b5, b8, b10]
  refine play_t (o := o2) hw hw2 ho2 hS1.wl.pr fun K2 t' sv' r1 r2 r3 r4 => ?_
  obtain ⟨hS2, hF2, hN2, ct2, wp2, was2⟩ := WI.step hc0 hS1 hF hN1 hI1.ct hI1.wp hI1.was r1 r2 r3 r4
  have hk2' : Keep N K K2 := hk1.trans (hS1.wl.pr.keep r1 r2)
  clear r1 r2 r3 r4 hk1 hI1 hS1 b5 b8 b10 hS hF ct wp was wd xd hk2 wsl b5'
  have b5 := hS2.wl.b5
  have b8 := hS2.wl.b8
  have b10 := hS2.wl.b10
  have p16 := hS2.p16
  have p14 := hS2.p14
  have xd := hS2.wl.pr.xr.hd
  unfold opC at b5
  simp only [List.cons_append, List.nil_append] at b5
  simp (disch := omega) only [kB, kcx, kdm, kdn, kel, aop, resultsL, resultOf, Nat.reduceEqDiff, reduceCtorEq, eq1, apartOK, apart2, AObj.live, Int.reduceEq, Int.reduceLT, Int.reduceLE, Int.reduceAdd, Int.reduceSub, Int.reduceMul, Int.reduceToNat, cutCells, Nat.reduceAdd, Nat.reduceLeDiff, Nat.reduceLT, Nat.reduceMul, Nat.reduceSub, hZ', b5, b8, b10, p16, xd]
  refine WV.of (fun d hd => ?_) ?_
  · simp only [List.mem_cons, List.not_mem_nil, or_false] at hd
    rcases hd with rfl | rfl | rfl
    · rw [p16]; rfl
    · rw [b10]; rfl
    · rw [xd]; rfl
  refine ask_under hw hw2 ho hS2 fun sx g hsx => ?_
  obtain ⟨K3, hK3⟩ : ∃ K3, K3 = K2 ++ g := ⟨_, rfl⟩
  have hS3 : WS K3 q n0 w o st o2 t' sv' := by rw [hK3]; exact hS2.app
  have ct3 : hget K3 pc = .row [.int .i64 (i : Int)] 0 true := by rw [hK3, hget_old (hget_lt ct2 rfl)]; exact ct2
  have wp3 : hget K3 pw = .row [.pointer (some ⟨xw, 0, none⟩)] 0 true := by rw [hK3, hget_old (hget_lt wp2 rfl)]; exact wp2
  have was3 : XR K3 xw w 4096 (.slice (some ⟨k, 0, none⟩) t0.er.mem.length t0.er.mem.length) (kl w t0.er) := by rw [hK3]; exact was2.app
  have hN3 : N < K3.length := by rw [hK3]; simp; omega
  have hk3 : Keep N K K3 := by rw [hK3]; exact hk2'.trans Keep.app
  rw [← hK3] at hsx ⊢
  clear hK3 hS2 b5 b8 b10 p16 p14 xd ct2 wp2 was2 hN2 hk2'
  have b5 := hS3.wl.b5
  have b8 := hS3.wl.b8
  have b10 := hS3.wl.b10
  have p14 := hS3.p14
  have xd := hS3.wl.pr.xr.hd
  unfold opC at b5
  simp only [List.cons_append, List.nil_append] at b5
  simp (disch := omega) only [kB, kcx, kdm, kdn, kel, aop, resultsL, resultOf, Nat.reduceEqDiff, reduceCtorEq, eq1, apartOK, apart2, AObj.live, Int.reduceEq, Int.reduceLT, Int.reduceLE, Int.reduceAdd, Int.reduceSub, Int.reduceMul, Int.reduceToNat, cutCells, Nat.reduceAdd, Nat.reduceLeDiff, Nat.reduceLT, Nat.reduceMul, Nat.reduceSub, hZ', b5, b8, b10, xd]
  refine tell_some hw hw2 ho hS3 hsx ?_
  simp (disch := omega) only [kB, kcx, kdm, kdn, kel, aop, resultsL, resultOf, Nat.reduceEqDiff, reduceCtorEq, eq1, apartOK, apart2, AObj.live, Int.reduceEq, Int.reduceLT, Int.reduceLE, Int.reduceAdd, Int.reduceSub, Int.reduceMul, Int.reduceToNat, cutCells, Nat.reduceAdd, Nat.reduceLeDiff, Nat.reduceLT, Nat.reduceMul, Nat.reduceSub, hZ', b5, b8, b10, p14, xd]
  refine tell_all hw hw2 hS3 ?_
  simp (disch := omega) only [kB, kcx, kdm, kdn, kel, aop, resultsL, resultOf, Nat.reduceEqDiff, reduceCtorEq, eq1, apartOK, apart2, AObj.live, Int.reduceEq, Int.reduceLT, Int.reduceLE, Int.reduceAdd, Int.reduceSub, Int.reduceMul, Int.reduceToNat, cutCells, Nat.reduceAdd, Nat.reduceLeDiff, Nat.reduceLT, Nat.reduceMul, Nat.reduceSub, hZ', b5, b8, b10, xd]
  refine rest_t ?_
  have hI3 : WI N pc pw xw q n0 w o st o2 t0 (.slice (some ⟨k, 0, none⟩) t0.er.mem.length t0.er.mem.length) i K3 := ⟨⟨t', sv', hS3, hF2⟩, by omega, ct3, wp3, was3⟩
  by_cases hr : restI o2.k = 11
  case neg =>
    simp (disch := omega) only [kB, kcx, kdm, kdn, kel, aop, resultsL, resultOf, Nat.reduceEqDiff, reduceCtorEq, eq1, apartOK, apart2, AObj.live, Int.reduceEq, Int.reduceLT, Int.reduceLE, Int.reduceAdd, Int.reduceSub, Int.reduceMul, Int.reduceToNat, cutCells, Nat.reduceAdd, Nat.reduceLeDiff, Nat.reduceLT, Nat.reduceMul, Nat.reduceSub, hr, hZ']
    rw [hZ]
    exact walk_tail hc0 hI3 (by omega) hN3 hk3 hX (by exact ex_env rfl)
  simp (disch := omega) only [kB, kcx, kdm, kdn, kel, aop, resultsL, resultOf, Nat.reduceEqDiff, reduceCtorEq, eq1, apartOK, apart2, AObj.live, Int.reduceEq, Int.reduceLT, Int.reduceLE, Int.reduceAdd, Int.reduceSub, Int.reduceMul, Int.reduceToNat, cutCells, Nat.reduceAdd, Nat.reduceLeDiff, Nat.reduceLT, Nat.reduceMul, Nat.reduceSub, hr, hZ', b8]
  refine clear_t hS3.wl.pr.ti.hd ?_
  have hne : q + 2 ≠ q + 4 := by omega
  have lb := hS3.wl.pr.lt (.inl (.inl rfl))
  have lx := hget_lt xd rfl
  have xd2 : hget (K3.set (q + 2) (.row [.int .i64 (w : Int), .int .i64 4096, .int .i64 0, .pointer none] 0 true)) (q + 4) = .row [.int .i64 (w : Int), .int .i64 4096, sv'] 0 true := by rw [hget_ne hne]; exact xd
  have b10b : hget (K3.set (q + 2) (.row [.int .i64 (w : Int), .int .i64 4096, .int .i64 0, .pointer none] 0 true)) (q + 5) = .row [.pointer (some ⟨q + 4, 0, none⟩)] 0 true := by rw [hget_ne (by omega)]; exact b10
  simp (disch := omega) only [kB, kcx, kdm, kdn, kel, aop, resultsL, resultOf, Nat.reduceEqDiff, reduceCtorEq, eq1, apartOK, apart2, AObj.live, Int.reduceEq, Int.reduceLT, Int.reduceLE, Int.reduceAdd, Int.reduceSub, Int.reduceMul, Int.reduceToNat, cutCells, Nat.reduceAdd, Nat.reduceLeDiff, Nat.reduceLT, Nat.reduceMul, Nat.reduceSub, hZ', b10b, xd2]
  have hcl := clear_pr hS3.wl.pr (by decide)
  have hfr : ∀ d, d ≠ q + 2 → d ≠ q + 4 → hget ((K3.set (q + 2) (.row [.int .i64 (w : Int), .int .i64 4096, .int .i64 0, .pointer none] 0 true)).set (q + 4) (.row [.int .i64 (w : Int), .int .i64 4096, .slice none 0 0] 0 true)) d = hget K3 d := fun d q1 q2 => by rw [hget_ne (Ne.symm q2), hget_ne (Ne.symm q1)]
  obtain ⟨hS4, hF4, hN4, ct4, wp4, was4⟩ := WI.step (K2 := (K3.set (q + 2) (.row [.int .i64 (w : Int), .int .i64 4096, .int .i64 0, .pointer none] 0 true)).set (q + 4) (.row [.int .i64 (w : Int), .int .i64 4096, .slice none 0 0] 0 true)) hc0 hS3 hF2 hN3 ct3 wp3 was3 (by simp) (fun d hd hn => hfr d (fun e => hn (.inl (.inl e))) (fun e => hn (.inr (.inl e)))) hcl (fun d hd => by
    rcases hd with (hd | hd) | (hd | hd)
    · exact .inl (.inl (.inl hd))
    · simp [Tr.blocks] at hd
    · exact .inl (.inr (.inl hd))
    · cases hd)
  rw [hZ]
  refine walk_tail hc0 ⟨⟨_, _, hS4, hF4⟩, by omega, ct4, wp4, was4⟩ (by omega) hN4 (hk3.trans (hS3.wl.pr.keep (by simp) fun d hd hn => hfr d (fun e => hn (.inl (.inl e))) (fun e => hn (.inr (.inl e))))) hX (by exact ex_env rfl)

end Go.Proofs.Yticgkaanaimllaa.Ev

/- The law TrieWalks: behind the script. -/
namespace Go.Proofs.Yticgkaanaimllaa.Ev
set_option maxRecDepth 100000
set_option linter.unusedSimpArgs false
set_option linter.unusedVariables false
variable {R : FRes → Heap → Prop} {H : Heap}

abbrev QW : Post := retK [.cell1 6] (fun r _ => r = .ret (.bool true))

theorem walk_fin {N pc pw xw q n0 w i : Nat} {o o2 : Opr} {st : Int} {t0 : Tr} {svw : Value} {K : Heap} {e : Env} (hw : 1 ≤ w) (hw2 : w ≤ 128) (ho : o.a < 2 ^ 128) (hI : WI N pc pw xw q n0 w o st o2 t0 svw i K) (hend : i = t0.er.mem.length ∨ (i : Int) = st)
    (he : (∃ x : Nat → Value, e = [x 0, x 1, x 2, x 3, x 4, .pointer (some ⟨q, 0, none⟩), .pointer (some ⟨q + 1, 0, none⟩), x 7, .pointer (some ⟨q + 3, 0, none⟩), x 9, .pointer (some ⟨q + 5, 0, none⟩), x 11, x 12, x 13, .pointer (some ⟨n0 + 2, 0, none⟩), x 15, .pointer (some ⟨n0 + 8, 0, none⟩), x 17, x 18, .pointer (some ⟨pw, 0, none⟩), .pointer (some ⟨pc, 0, none⟩), x 21, x 22, x 23, x 24, x 25, x 26, x 27, x 28, x 29, x 30, x 31, x 32, x 33, x 34, x 35, x 36, x 37, x 38, x 39, x 40, x 41, x 42, x 43, x 44, x 45, x 46, x 47, x 48, x 49, x 50, x 51, x 52, x 53, x 54, x 55, x 56, x 57, x 58, x 59, x 60, x 61, x 62, x 63, x 64, x 65, x 66, x 67, x 68, x 69, x 70, x 71, x 72, x 73, x 74, x 75, x 76, x 77, x 78, x 79, x 80, x 81, x 82, x 83, x 84, x 85, x 86, x 87, x 88, x 89, x 90, x 91, x 92, x 93, x 94, x 95, x 96, x 97, x 98, x 99, x 100, x 101, x 102, x 103, x 104, x 105, x 106, x 107, x 108, x 109, x 110, x 111, x 112, x 113, x 114, x 115, x 116, x 117, x 118, x 119, x 120, x 121, x 122, x 123, x 124, x 125, x 126, x 127, x 128, x 129, x 130, x 131, x 132, x 133, x 134, x 135, x 136, x 137, x 138, x 139, x 140, x 141, x 142, x 143, x 144, x 145, x 146, x 147, x 148, x 149, x 150, x 151, x 152, x 153, x 154, x 155, x 156, x 157, x 158, x 159, x 160, x 161, x 162, x 163, x 164, x 165, x 166, x 167, x 168, x 169, x 170, x 171, x 172, x 173, x 174, x 175, x 176, x 177, x 178, x 179, x 180, x 181, x 182, x 183, x 184, x 185, x 186, x 187, x 188, x 189, x 190, x 191, x 192, x 193, x 194, x 195, x 196, x 197, x 198, x 199, x 200, x 201, x 202, x 203, x 204, x 205, x 206, x 207, x 208, x 209, x 210, x 211, x 212, x 213, x 214, x 215, x 216, x 217, x 218, x 219, x 220, x 221, x 222, x 223, x 224, x 225, x 226, x 227, x 228, x 229, x 230, x 231, x 232, x 233, x 234, x 235, x 236, x 237, x 238, x 239, x 240, x 241, x 242, x 243, x 244, x 245, x 246, x 247, x 248, x 249, x 250, x 251, x 252, x 253, x 254, x 255, x 256, x 257, x 258, x 259, x 260, x 261, x 262, x 263])) :
    WC T (g6.body.at [1, 1, 1, 1, 1, 1, 1, 1, 1, 1, 1, 1, 1, 1, 1]) e K QW := by
  obtain ⟨x, rfl⟩ := he
  obtain ⟨⟨t, sv, hS, hF⟩, hlen, ct, wp, was⟩ := hI
  have b5 := hS.wl.b5
  have b8 := hS.wl.b8
  have b10 := hS.wl.b10
  have p14 := hS.p14
  have p16 := hS.p16
  have xd := hS.wl.pr.xr.hd
  unfold opC at b5
  simp only [List.cons_append, List.nil_append] at b5
  simp only [AFunc.body, g6, ACode.at]
  simp (disch := omega) only [kB, kcx, kdm, kdn, kel, aop, resultsL, resultOf, Nat.reduceEqDiff, reduceCtorEq, eq1, apartOK, apart2, AObj.live, Int.reduceEq, Int.reduceLT, Int.reduceLE, Int.reduceAdd, Int.reduceSub, Int.reduceMul, Int.reduceToNat, cutCells, Nat.reduceAdd, Nat.reduceLeDiff, Nat.reduceLT, Nat.reduceMul, Nat.reduceSub, b5, b8, b10, p14, p16, xd]
  refine tell_all hw hw2 hS ?_
  simp (disch := omega) only [kB, kcx, kdm, kdn, kel, aop, resultsL, resultOf, Nat.reduceEqDiff, reduceCtorEq, eq1, apartOK, apart2, AObj.live, Int.reduceEq, Int.reduceLT, Int.reduceLE, Int.reduceAdd, Int.reduceSub, Int.reduceMul, Int.reduceToNat, cutCells, Nat.reduceAdd, Nat.reduceLeDiff, Nat.reduceLT, Nat.reduceMul, Nat.reduceSub, b5, b8, b10, p14, p16, xd]
  refine WV.of (fun d hd => ?_) ?_
  · simp only [List.mem_cons, List.not_mem_nil, or_false] at hd
    rcases hd with rfl | rfl | rfl
    · rw [p16]; rfl
    · rw [b10]; rfl
    · rw [xd]; rfl
  refine ask_under hw hw2 ho hS fun sx g hsx => ?_
  obtain ⟨K3, hK3⟩ : ∃ K3, K3 = K ++ g := ⟨_, rfl⟩
  have hS3 : WS K3 q n0 w o st o2 t sv := by rw [hK3]; exact hS.app
  have ct3 : hget K3 pc = .row [.int .i64 (i : Int)] 0 true := by rw [hK3, hget_old (hget_lt ct rfl)]; exact ct
  have wp3 : hget K3 pw = .row [.pointer (some ⟨xw, 0, none⟩)] 0 true := by rw [hK3, hget_old (hget_lt wp rfl)]; exact wp
  have was3 : XR K3 xw w 4096 svw (kl w t0.er) := by rw [hK3]; exact was.app
  rw [← hK3] at hsx ⊢
  clear hK3 hS b5 b8 b10 p14 p16 xd ct wp was
  have b5 := hS3.wl.b5
  have b6 := hS3.wl.b6
  have b10 := hS3.wl.b10
  have xd := hS3.wl.pr.xr.hd
  have l6 := hget_lt b6 rfl
  unfold opC at b5
  simp only [List.cons_append, List.nil_append] at b5
  simp (disch := omega) only [kB, kcx, kdm, kdn, kel, aop, resultsL, resultOf, Nat.reduceEqDiff, reduceCtorEq, eq1, apartOK, apart2, AObj.live, Int.reduceEq, Int.reduceLT, Int.reduceLE, Int.reduceAdd, Int.reduceSub, Int.reduceMul, Int.reduceToNat, cutCells, Nat.reduceAdd, Nat.reduceLeDiff, Nat.reduceLT, Nat.reduceMul, Nat.reduceSub, b5, b10, xd]
  refine tell_some hw hw2 ho hS3 hsx ?_
  have wd := was3.hd
  obtain ⟨ad, rfl⟩ := was3.len
  have hkl := kl_len (w := w) (t := t0.er)
  by_cases h1 : (i : Int) = (t0.er.mem.length : Nat)
  · have h1' : (((i : Nat) : Int) = ((t0.er.mem.length : Nat) : Int)) = True := eq_true h1
    simp (disch := omega) only [kB, kcx, kdm, kdn, kel, aop, resultsL, resultOf, Nat.reduceEqDiff, reduceCtorEq, eq1, apartOK, apart2, AObj.live, Int.reduceEq, Int.reduceLT, Int.reduceLE, Int.reduceAdd, Int.reduceSub, Int.reduceMul, Int.reduceToNat, cutCells, Nat.reduceAdd, Nat.reduceLeDiff, Nat.reduceLT, Nat.reduceMul, Nat.reduceSub, b5, b10, xd, ct3, wp3, wd, hkl, h1', b6]
  · have h2 : (i : Int) = st := by
      rcases hend with h | h
      · exact absurd (by rw [h]) h1
      · exact h
    have h2' : ((i : Int) = st) = True := eq_true h2
    simp (disch := omega) only [kB, kcx, kdm, kdn, kel, aop, resultsL, resultOf, Nat.reduceEqDiff, reduceCtorEq, eq1, apartOK, apart2, AObj.live, Int.reduceEq, Int.reduceLT, Int.reduceLE, Int.reduceAdd, Int.reduceSub, Int.reduceMul, Int.reduceToNat, cutCells, Nat.reduceAdd, Nat.reduceLeDiff, Nat.reduceLT, Nat.reduceMul, Nat.reduceSub, b5, b10, xd, ct3, wp3, wd, hkl, h1, h2', b6]

set_option maxHeartbeats 1000000 in
theorem walk_rest {q w : Nat} {o o2 : Opr} {st : Int} {t : Tr} {sv : Value} {K0 : Heap} {e : Env} (hw : 1 ≤ w) (hw2 : w ≤ 128) (ho : o.a < 2 ^ 128) (ho2 : o2.a < 2 ^ 128) (hL : WL K0 q w o st o2 t sv)
    (he : (∃ x : Nat → Value, e = [x 0, x 1, x 2, x 3, x 4, .pointer (some ⟨q, 0, none⟩), .pointer (some ⟨q + 1, 0, none⟩), x 7, .pointer (some ⟨q + 3, 0, none⟩), x 9, .pointer (some ⟨q + 5, 0, none⟩), x 11, x 12, x 13, x 14, x 15, x 16, x 17, x 18, x 19, x 20, x 21, x 22, x 23, x 24, x 25, x 26, x 27, x 28, x 29, x 30, x 31, x 32, x 33, x 34, x 35, x 36, x 37, x 38, x 39, x 40, x 41, x 42, x 43, x 44, x 45, x 46, x 47, x 48, x 49, x 50, x 51, x 52, x 53, x 54, x 55, x 56, x 57, x 58, x 59, x 60, x 61, x 62, x 63, x 64, x 65, x 66, x 67, x 68, x 69, x 70, x 71, x 72, x 73, x 74, x 75, x 76, x 77, x 78, x 79, x 80, x 81, x 82, x 83, x 84, x 85, x 86, x 87, x 88, x 89, x 90, x 91, x 92, x 93, x 94, x 95, x 96, x 97, x 98, x 99, x 100, x 101, x 102, x 103, x 104, x 105, x 106, x 107, x 108, x 109, x 110, x 111, x 112, x 113, x 114, x 115, x 116, x 117, x 118, x 119, x 120, x 121, x 122, x 123, x 124, x 125, x 126, x 127, x 128, x 129, x 130, x 131, x 132, x 133, x 134, x 135, x 136, x 137, x 138, x 139, x 140, x 141, x 142, x 143, x 144, x 145, x 146, x 147, x 148, x 149, x 150, x 151, x 152, x 153, x 154, x 155, x 156, x 157, x 158, x 159, x 160, x 161, x 162, x 163, x 164, x 165, x 166, x 167, x 168, x 169, x 170, x 171, x 172, x 173, x 174, x 175, x 176, x 177, x 178, x 179, x 180, x 181, x 182, x 183, x 184, x 185, x 186, x 187, x 188, x 189, x 190, x 191, x 192, x 193, x 194, x 195, x 196, x 197, x 198, x 199, x 200, x 201, x 202, x 203, x 204, x 205, x 206, x 207, x 208, x 209, x 210, x 211, x 212, x 213, x 214, x 215, x 216, x 217, x 218, x 219, x 220, x 221, x 222, x 223, x 224, x 225, x 226, x 227, x 228, x 229, x 230, x 231, x 232, x 233, x 234, x 235, x 236, x 237, x 238, x 239, x 240, x 241, x 242, x 243, x 244, x 245, x 246, x 247, x 248, x 249, x 250, x 251, x 252, x 253, x 254, x 255, x 256, x 257, x 258, x 259, x 260, x 261, x 262, x 263])) :
    WC T (g6.body.at [1, 1, 1, 1, 1, 1]) e K0 QW := by
  obtain ⟨x, rfl⟩ := he
  obtain ⟨Z, hZ⟩ : ∃ Z, Z = WC T (g6.body.at [1, 1, 1, 1, 1, 1, 1, 1, 1, 1, 1, 1, 1, 1, 1]) := ⟨_, rfl⟩
  have hZ' := hZ.symm
  simp only [AFunc.body, g6, ACode.at] at hZ'
  have b5 := hL.b5
  have b8 := hL.b8
  have b10 := hL.b10
  have l5 := hget_lt b5 rfl
  have l8 := hget_lt b8 rfl
  have l10 := hget_lt b10 rfl
  have xd := hL.pr.xr.hd
  have lxd := hget_lt xd rfl
  unfold opC at b5
  simp only [List.cons_append, List.nil_append] at b5
  simp only [AFunc.body, g6, ACode.at]
  simp (disch := omega) only [kB, kcx, kdm, kdn, kel, aop, resultsL, resultOf, Nat.reduceEqDiff, reduceCtorEq, eq1, apartOK, apart2, AObj.live, Int.reduceEq, Int.reduceLT, Int.reduceLE, Int.reduceAdd, Int.reduceSub, Int.reduceMul, Int.reduceToNat, cutCells, Nat.reduceAdd, Nat.reduceLeDiff, Nat.reduceLT, Nat.reduceMul, Nat.reduceSub, hZ', b8]
  refine all_t ?_
  simp (disch := omega) only [kB, kcx, kdm, kdn, kel, aop, resultsL, resultOf, Nat.reduceEqDiff, reduceCtorEq, eq1, apartOK, apart2, AObj.live, Int.reduceEq, Int.reduceLT, Int.reduceLE, Int.reduceAdd, Int.reduceSub, Int.reduceMul, Int.reduceToNat, cutCells, Nat.reduceAdd, Nat.reduceLeDiff, Nat.reduceLT, Nat.reduceMul, Nat.reduceSub, hZ', b5, b8]
  refine under_t ?_
  unfold unR
  simp (disch := omega) only [kB, kcx, kdm, kdn, kel, aop, resultsL, resultOf, Nat.reduceEqDiff, reduceCtorEq, eq1, apartOK, apart2, AObj.live, Int.reduceEq, Int.reduceLT, Int.reduceLE, Int.reduceAdd, Int.reduceSub, Int.reduceMul, Int.reduceToNat, cutCells, Nat.reduceAdd, Nat.reduceLeDiff, Nat.reduceLT, Nat.reduceMul, Nat.reduceSub, hZ', b5, b8, b10, xd]
  generalize hn0 : K0.length = n0 at *
  obtain ⟨K1, hK1⟩ : ∃ K1, K0 ++ [AObj.row [.pointer (some ⟨q + 2, 0, none⟩)] 0 true, .row [.func (.func 49) #[] #[]] 0 true, .row [.func (.func 79) #[] #[.pointer (some ⟨n0, 0, none⟩), .pointer (some ⟨n0 + 1, 0, none⟩)]] 0 true,
      .row [.int .u64 ((o.a / W64 : Nat) : Int), .int .u64 ((o.a % W64 : Nat) : Int), .int .i64 o.n] 0 true, .row [.pointer (some ⟨q + 2, 0, none⟩)] 0 true, .row [.int .u64 ((o.a / W64 : Nat) : Int), .int .u64 ((o.a % W64 : Nat) : Int), .int .i64 o.n] 0 true, .row [.pointer (some ⟨q + 2, 0, none⟩)] 0 true,
      .row [.func (.func 50) #[] #[.pointer (some ⟨n0 + 4, 0, none⟩), .pointer (some ⟨n0 + 4 + 1, 0, none⟩)]] 0 true, .row [.func (.func 79) #[] #[.pointer (some ⟨n0 + 4 + 2, 0, none⟩), .pointer (some ⟨n0 + 4 + 3, 0, none⟩)]] 0 true] = K1 := ⟨_, rfl⟩
  rw [hK1]
  have hat : ∀ j r, [AObj.row [.pointer (some ⟨q + 2, 0, none⟩)] 0 true, .row [.func (.func 49) #[] #[]] 0 true, .row [.func (.func 79) #[] #[.pointer (some ⟨n0, 0, none⟩), .pointer (some ⟨n0 + 1, 0, none⟩)]] 0 true,
      .row [.int .u64 ((o.a / W64 : Nat) : Int), .int .u64 ((o.a % W64 : Nat) : Int), .int .i64 o.n] 0 true, .row [.pointer (some ⟨q + 2, 0, none⟩)] 0 true, .row [.int .u64 ((o.a / W64 : Nat) : Int), .int .u64 ((o.a % W64 : Nat) : Int), .int .i64 o.n] 0 true, .row [.pointer (some ⟨q + 2, 0, none⟩)] 0 true,
      .row [.func (.func 50) #[] #[.pointer (some ⟨n0 + 4, 0, none⟩), .pointer (some ⟨n0 + 4 + 1, 0, none⟩)]] 0 true, .row [.func (.func 79) #[] #[.pointer (some ⟨n0 + 4 + 2, 0, none⟩), .pointer (some ⟨n0 + 4 + 3, 0, none⟩)]] 0 true][j]? = some r → hget K1 (n0 + j) = r := fun j r h => by
    rw [← hK1, ← hn0, hget_base, hn0]
    unfold hget
    rw [h]
  have hold : ∀ c, c < n0 → hget K1 c = hget K0 c := fun c hc => by rw [← hK1, hget_old (by omega)]
  have hlK1 : K1.length = n0 + 9 := by rw [← hK1]; simp [hn0]
  have hFn : ∀ c, FP (q + 2) (q + 4) t sv c → c < n0 := fun c hc => by have := hL.pr.lt hc; omega
  have hS : WS K1 q n0 w o st o2 t sv := by
    refine ⟨hL.step (fun c hc _ => hold c (by omega)) (hL.pr.same fun c hc => hold c (hFn c hc)) (fun c hc => .inl hc), by omega, by omega, hat 0 _ rfl, hat 1 _ rfl, hat 2 _ rfl, hat 4 _ rfl, hat 5 _ rfl, hat 6 _ rfl, hat 7 _ rfl, hat 8 _ rfl, fun c hc => .inl (hFn c hc)⟩
  clear hat hK1 b5 b8 b10 xd
  have b5 := hS.wl.b5
  have b10 := hS.wl.b10
  have p16 := hS.p16
  have xd := hS.wl.pr.xr.hd
  unfold opC at b5
  simp only [List.cons_append, List.nil_append] at b5
  refine tell_all hw hw2 hS ?_
  simp (disch := omega) only [kB, kcx, kdm, kdn, kel, aop, resultsL, resultOf, Nat.reduceEqDiff, reduceCtorEq, eq1, apartOK, apart2, AObj.live, Int.reduceEq, Int.reduceLT, Int.reduceLE, Int.reduceAdd, Int.reduceSub, Int.reduceMul, Int.reduceToNat, cutCells, Nat.reduceAdd, Nat.reduceLeDiff, Nat.reduceLT, Nat.reduceMul, Nat.reduceSub, hZ', b5, b10, p16, xd]
  refine WV.of (fun d hd => ?_) ?_
  · simp only [List.mem_cons, List.not_mem_nil, or_false] at hd
    rcases hd with rfl | rfl | rfl
    · rw [p16]; rfl
    · rw [b10]; rfl
    · rw [xd]; rfl
  refine ask_under hw hw2 ho hS fun sx g hsx => ?_
  obtain ⟨K2, hK2⟩ : ∃ K2, K2 = K1 ++ g := ⟨_, rfl⟩
  have hS2 : WS K2 q n0 w o st o2 t sv := by rw [hK2]; exact hS.app
  have hlK2 : n0 + 9 ≤ K2.length := by rw [hK2]; simp; omega
  rw [← hK2] at hsx ⊢
  clear hK2 hS b5 b10 p16 xd
  have b8 := hS2.wl.b8
  have b10 := hS2.wl.b10
  have xd := hS2.wl.pr.xr.hd
  simp (disch := omega) only [kB, kcx, kdm, kdn, kel, aop, resultsL, resultOf, Nat.reduceEqDiff, reduceCtorEq, eq1, apartOK, apart2, AObj.live, Int.reduceEq, Int.reduceLT, Int.reduceLE, Int.reduceAdd, Int.reduceSub, Int.reduceMul, Int.reduceToNat, cutCells, Nat.reduceAdd, Nat.reduceLeDiff, Nat.reduceLT, Nat.reduceMul, Nat.reduceSub, hZ', b10, xd]
  refine tell_some hw hw2 ho hS2 hsx ?_
  simp (disch := omega) only [kB, kcx, kdm, kdn, kel, aop, resultsL, resultOf, Nat.reduceEqDiff, reduceCtorEq, eq1, apartOK, apart2, AObj.live, Int.reduceEq, Int.reduceLT, Int.reduceLE, Int.reduceAdd, Int.reduceSub, Int.reduceMul, Int.reduceToNat, cutCells, Nat.reduceAdd, Nat.reduceLeDiff, Nat.reduceLT, Nat.reduceMul, Nat.reduceSub, hZ', b10, xd]
  refine rcopy_t hS2.wl.pr.xr hS2.wl.pr.sz.2.2 fun K3 svw m1 m2 m3 m4 => ?_
  have hS3 : WS K3 q n0 w o st o2 t sv := hS2.step (by omega) (fun c hc _ => m2 c hc) (hS2.wl.pr.same fun c hc => m2 c (hS2.wl.pr.lt hc)) fun c hc => .inl hc
  have lm := hget_lt m3.hd rfl
  clear b8 b10 xd
  have p14 := hS3.p14
  have l14 := hget_lt p14 rfl
  simp (disch := omega) only [kB, kcx, kdm, kdn, kel, aop, resultsL, resultOf, Nat.reduceEqDiff, reduceCtorEq, eq1, apartOK, apart2, AObj.live, Int.reduceEq, Int.reduceLT, Int.reduceLE, Int.reduceAdd, Int.reduceSub, Int.reduceMul, Int.reduceToNat, cutCells, Nat.reduceAdd, Nat.reduceLeDiff, Nat.reduceLT, Nat.reduceMul, Nat.reduceSub, hZ', p14]
  obtain ⟨K4, hK4⟩ : ∃ K4, K4 = K3 ++ [AObj.row [.pointer (some ⟨K2.length, 0, none⟩)] 0 true, .row [.int .i64 0] 0 true] := ⟨_, rfl⟩
  have hS4 : WS K4 q n0 w o st o2 t sv := by rw [hK4]; exact hS3.app
  have hw4 : XR K4 K2.length w 4096 svw (kl w t.er) := by rw [hK4]; exact m3.app
  have hp4 : hget K4 K3.length = .row [.pointer (some ⟨K2.length, 0, none⟩)] 0 true := by rw [hK4, hget_base0]; rfl
  have hc4 : hget K4 (K3.length + 1) = .row [.int .i64 0] 0 true := by rw [hK4, hget_base]; rfl
  have hl4 : K4.length = K3.length + 2 := by rw [hK4]; simp
  rw [← hK4]
  have hwlt : ∀ c, blk svw = some c → c < K3.length := fun c hc => (m3.sl.lt hc).1
  have hwc : WC0 K4.length (K3.length + 1) K3.length K2.length n0 svw := ⟨⟨by omega, by omega⟩, ⟨by omega, by omega⟩, ⟨by omega, by omega⟩, fun c hc => by have := m4 c hc; have := hwlt c hc; omega, ⟨by omega, by omega, fun e => by have := hwlt _ e; omega⟩⟩
  have hFn4 : ∀ c, FP (q + 2) (q + 4) t sv c → c < n0 ∨ K4.length < c := fun c hc => .inl (hFn c hc)
  have hI0 : WI K4.length (K3.length + 1) K3.length K2.length q n0 w o st o2 t svw 0 K4 := ⟨⟨t, sv, hS4, hFn4⟩, Nat.le_refl _, hc4, hp4, hw4⟩
  have hmem := hS4.wl.pr.sz.1
  have hrg : ∀ x ∈ t.er.mem, rgt w x.1 (x.2.1 : Nat) = true := mem_rgtP (tw_er.1 hS4.wl.pr.ti.ok)
  clear hK4 m1 m2 m3 m4 hS3 p14
  refine range_t (w := w) (t := t) hS4.a0 hS4.wl.pr.ti.hd hS4.a1 may_allS hS4.wl.pr.ti.lies.ta hS4.wl.pr.ti.ok hS4.wl.pr.sz.2.1 rfl (fun i => WI K4.length (K3.length + 1) K3.length K2.length q n0 w o st o2 t svw i)
    (fun g => hI0.app hwc) (fun i K o h => h.set hwc) (fun i K g h => h.app hwc) (fun i K x hx hl h => ?_) (fun K h hl => ?_)
  · obtain ⟨c, n, v⟩ := x
    rw [selP_all] at hx
    refine walk_body hw hw2 ho ho2 hwc h hmem hx (hrg _ (List.mem_of_getElem? hx)) hl (fun K5 h5 hst => ?_) (by exact ex_env rfl)
    simp only [blockK_exit, if_true]
    simp (disch := omega) only [kB, kcx, kdm, kdn, kel, aop, resultsL, resultOf, Nat.reduceEqDiff, reduceCtorEq, eq1, apartOK, apart2, AObj.live, Int.reduceEq, Int.reduceLT, Int.reduceLE, Int.reduceAdd, Int.reduceSub, Int.reduceMul, Int.reduceToNat, cutCells, Nat.reduceAdd, Nat.reduceLeDiff, Nat.reduceLT, Nat.reduceMul, Nat.reduceSub, hZ']
    rw [hZ]
    exact walk_fin hw hw2 ho (h5.set hwc) (.inr hst) (by exact ex_env rfl)
  · rw [selP_all] at h
    simp (disch := omega) only [kB, kcx, kdm, kdn, kel, aop, resultsL, resultOf, Nat.reduceEqDiff, reduceCtorEq, eq1, apartOK, apart2, AObj.live, Int.reduceEq, Int.reduceLT, Int.reduceLE, Int.reduceAdd, Int.reduceSub, Int.reduceMul, Int.reduceToNat, cutCells, Nat.reduceAdd, Nat.reduceLeDiff, Nat.reduceLT, Nat.reduceMul, Nat.reduceSub, hZ']
    rw [hZ]
    exact walk_fin hw hw2 ho h (.inl rfl) (by exact ex_env rfl)

end Go.Proofs.Yticgkaanaimllaa.Ev

/- The law TriePlays, whole. -/
namespace Go.Proofs.Yticgkaanaimllaa.Ev
set_option maxRecDepth 100000
set_option linter.unusedSimpArgs false
set_option linter.unusedVariables false
variable {R : FRes → Heap → Prop} {H : Heap}

theorem new_pr {K : Heap} {b xb w : Nat} {m : Int} (h1 : hget K b = .row [.int .i64 (w : Int), .int .i64 m, .int .i64 0, .pointer none] 0 true) (h2 : hget K xb = .row [.int .i64 (w : Int), .int .i64 m, .slice none 0 0] 0 true) (hm : 1 ≤ m ∧ m ≤ 4096) : PR K b xb w m .nil (.slice none 0 0) :=
  ⟨⟨h1, by simp [Tr.blocks], trivial, trivial, by simp [Tr.blocks]⟩, trivial, trivial, ⟨h2, .inl ⟨rfl, rfl⟩⟩, hm.2, by simp [Tr.er, PT.mem]; omega⟩
theorem new_fp {b xb c : Nat} (h : FP b xb .nil (.slice none 0 0) c) : c = b ∨ c = xb := by
  rcases h with (h | h) | (h | h)
  · exact .inl h
  · simp [Tr.blocks] at h
  · exact .inr h
  · cases h

theorem plays_w {w m : Int} {ad : Option Addr} {ops : List Opr} (hops : ∀ o ∈ ops, OprOk o) (hlen : ops.length ≤ 4611686018427387904) (hsl : OpSl H ad ops H.length) :
    WD T 7 [.int .i64 w, .int .i64 m, .slice ad ops.length ops.length] H (fun r _ => r = .ret (.bool true)) := by
  obtain ⟨Y, hY⟩ : ∃ Y, Y = WLoop T (g7.body.at [1, 1, 1, 1, 1, 1, 1, 1, 1, 0, 1, 0, 0]) := ⟨_, rfl⟩
  have hY' := hY.symm
  simp only [AFunc.body, g7, ACode.at] at hY'
  have btt : ∀ c : Bool, (c == c) = true := fun c => by cases c <;> rfl
  refine WD.of follows t7 (by simp) ?_
  simp (disch := omega) only [kB, kcx, kdm, kdn, kel, aop, resultsL, resultOf, Nat.reduceEqDiff, reduceCtorEq, eq1, apartOK, apart2, AObj.live, Int.reduceEq, Int.reduceLT, Int.reduceLE, Int.reduceAdd, Int.reduceSub, Int.reduceMul, Int.reduceToNat, cutCells, Nat.reduceAdd, Nat.reduceLeDiff, Nat.reduceLT, Nat.reduceMul, Nat.reduceSub, hY']
  refine live_s ?_
  simp (disch := omega) only [kB, kcx, kdm, kdn, kel, aop, resultsL, resultOf, Nat.reduceEqDiff, reduceCtorEq, eq1, apartOK, apart2, AObj.live, Int.reduceEq, Int.reduceLT, Int.reduceLE, Int.reduceAdd, Int.reduceSub, Int.reduceMul, Int.reduceToNat, cutCells, Nat.reduceAdd, Nat.reduceLeDiff, Nat.reduceLT, Nat.reduceMul, Nat.reduceSub, hY']
  refine new_s ?_
  by_cases hr : rightN w m = true
  case neg =>
    simp only [if_neg hr]
    simp (disch := omega) only [kB, kcx, kdm, kdn, kel, aop, resultsL, resultOf, Nat.reduceEqDiff, reduceCtorEq, eq1, apartOK, apart2, AObj.live, Int.reduceEq, Int.reduceLT, Int.reduceLE, Int.reduceAdd, Int.reduceSub, Int.reduceMul, Int.reduceToNat, cutCells, Nat.reduceAdd, Nat.reduceLeDiff, Nat.reduceLT, Nat.reduceMul, Nat.reduceSub, hY']
    refine rnew_s ?_
    simp only [if_neg hr]
    simp (disch := omega) only [kB, kcx, kdm, kdn, kel, aop, resultsL, resultOf, Nat.reduceEqDiff, reduceCtorEq, eq1, apartOK, apart2, AObj.live, Int.reduceEq, Int.reduceLT, Int.reduceLE, Int.reduceAdd, Int.reduceSub, Int.reduceMul, Int.reduceToNat, cutCells, Nat.reduceAdd, Nat.reduceLeDiff, Nat.reduceLT, Nat.reduceMul, Nat.reduceSub, hY', eqP_nn, btt]
  have hr' := hr
  simp only [rightN, Bool.and_eq_true, decide_eq_true_eq] at hr'
  obtain ⟨⟨⟨h1, h2⟩, h3⟩, h4⟩ := hr'
  obtain ⟨n, rfl⟩ : ∃ n : Nat, w = n := ⟨w.toNat, by omega⟩
  simp only [if_pos hr]
  simp (disch := omega) only [kB, kcx, kdm, kdn, kel, aop, resultsL, resultOf, Nat.reduceEqDiff, reduceCtorEq, eq1, apartOK, apart2, AObj.live, Int.reduceEq, Int.reduceLT, Int.reduceLE, Int.reduceAdd, Int.reduceSub, Int.reduceMul, Int.reduceToNat, cutCells, Nat.reduceAdd, Nat.reduceLeDiff, Nat.reduceLT, Nat.reduceMul, Nat.reduceSub, hY']
  refine rnew_s ?_
  simp only [if_pos hr]
  simp (disch := omega) only [kB, kcx, kdm, kdn, kel, aop, resultsL, resultOf, Nat.reduceEqDiff, reduceCtorEq, eq1, apartOK, apart2, AObj.live, Int.reduceEq, Int.reduceLT, Int.reduceLE, Int.reduceAdd, Int.reduceSub, Int.reduceMul, Int.reduceToNat, cutCells, Nat.reduceAdd, Nat.reduceLeDiff, Nat.reduceLT, Nat.reduceMul, Nat.reduceSub, hY', eqP_sn, btt]
  refine new_s ?_
  simp only [if_pos hr]
  simp (disch := omega) only [kB, kcx, kdm, kdn, kel, aop, resultsL, resultOf, Nat.reduceEqDiff, reduceCtorEq, eq1, apartOK, apart2, AObj.live, Int.reduceEq, Int.reduceLT, Int.reduceLE, Int.reduceAdd, Int.reduceSub, Int.reduceMul, Int.reduceToNat, cutCells, Nat.reduceAdd, Nat.reduceLeDiff, Nat.reduceLT, Nat.reduceMul, Nat.reduceSub, hY']
  refine rnew_s ?_
  simp only [if_pos hr]
  simp (disch := omega) only [kB, kcx, kdm, kdn, kel, aop, resultsL, resultOf, Nat.reduceEqDiff, reduceCtorEq, eq1, apartOK, apart2, AObj.live, Int.reduceEq, Int.reduceLT, Int.reduceLE, Int.reduceAdd, Int.reduceSub, Int.reduceMul, Int.reduceToNat, cutCells, Nat.reduceAdd, Nat.reduceLeDiff, Nat.reduceLT, Nat.reduceMul, Nat.reduceSub, hY', eqP_sn]
  obtain ⟨K, hK⟩ : ∃ K, K = H ++ [.row [.int .i64 (n : Int), .int .i64 m, .int .i64 0, .pointer none] 0 true, .row [.int .i64 (n : Int), .int .i64 m, .slice none 0 0] 0 true, .row [.int .i64 (n : Int), .int .i64 m, .int .i64 0, .pointer none] 0 true, .row [.int .i64 (n : Int), .int .i64 m, .slice none 0 0] 0 true] := ⟨_, rfl⟩
  have hK' := hK.symm
  rw [hK']
  have hone : PR K H.length (H.length + 1) n m .nil (.slice none 0 0) := new_pr (by rw [hK, hget_base0]; rfl) (by rw [hK, hget_base]; rfl) ⟨h3, h4⟩
  have htwo : PR K (H.length + 2) (H.length + 3) n m .nil (.slice none 0 0) := new_pr (by rw [hK, hget_base]; rfl) (by rw [hK, hget_base]; rfl) ⟨h3, h4⟩
  have hlK : H.length ≤ K.length := by rw [hK]; simp
  have hslK : OpSl K ad ops H.length := hsl.same fun c hc => by rw [hK, hget_old hc]
  clear hK hK'
  rw [hY]
  refine play_loop (lim := H.length) (w := n) (m := m) (by omega) (by omega) (by omega) hops hlen (fun e K2 b xb b2 xb2 t t2 sv sv2 hT he => ?_) ⟨0, H.length, H.length + 1, H.length + 2, H.length + 3, .nil, .nil, .slice none 0 0, .slice none 0 0, Nat.zero_le _, rfl, hlK,
    ⟨hone, htwo, fun c h1 h2 => by have := new_fp h1; have := new_fp h2; omega, fun c h => by have := new_fp h; omega, fun c h => by have := new_fp h; omega⟩, hslK, by exact ex_env rfl⟩
  obtain ⟨x2, rfl⟩ := he
  simp (disch := omega) only [kB, kcx, kdm, kdn, kel, aop, resultsL, resultOf, Nat.reduceEqDiff, reduceCtorEq, eq1, apartOK, apart2, AObj.live, Int.reduceEq, Int.reduceLT, Int.reduceLE, Int.reduceAdd, Int.reduceSub, Int.reduceMul, Int.reduceToNat, cutCells, Nat.reduceAdd, Nat.reduceLeDiff, Nat.reduceLT, Nat.reduceMul, Nat.reduceSub]
  refine alike_t (by omega) (by omega) hT.one ?_
  simp (disch := omega) only [kB, kcx, kdm, kdn, kel, aop, resultsL, resultOf, Nat.reduceEqDiff, reduceCtorEq, eq1, apartOK, apart2, AObj.live, Int.reduceEq, Int.reduceLT, Int.reduceLE, Int.reduceAdd, Int.reduceSub, Int.reduceMul, Int.reduceToNat, cutCells, Nat.reduceAdd, Nat.reduceLeDiff, Nat.reduceLT, Nat.reduceMul, Nat.reduceSub]
  refine alike_t (by omega) (by omega) hT.two ?_
  simp (disch := omega) only [kB, kcx, kdm, kdn, kel, aop, resultsL, resultOf, Nat.reduceEqDiff, reduceCtorEq, eq1, apartOK, apart2, AObj.live, Int.reduceEq, Int.reduceLT, Int.reduceLE, Int.reduceAdd, Int.reduceSub, Int.reduceMul, Int.reduceToNat, cutCells, Nat.reduceAdd, Nat.reduceLeDiff, Nat.reduceLT, Nat.reduceMul, Nat.reduceSub]

end Go.Proofs.Yticgkaanaimllaa.Ev

/- The law TrieWalks, whole. -/
namespace Go.Proofs.Yticgkaanaimllaa.Ev
set_option maxRecDepth 100000
set_option linter.unusedSimpArgs false
set_option linter.unusedVariables false
variable {R : FRes → Heap → Prop} {H : Heap}

theorem walks_w {w : Int} {o o2 : Opr} {st : Int} {ad : Option Addr} {ops : List Opr} (ho : o.a < 2 ^ 128) (ho2 : o2.a < 2 ^ 128) (hops : ∀ o ∈ ops, OprOk o) (hlen : ops.length ≤ 4611686018427387904) (hsl : OpSl H ad ops H.length) :
    WD T 6 [.int .i64 w, .slice ad ops.length ops.length, .agg (opC o ++ .int .i64 st :: opC o2).toArray] H (fun r _ => r = .ret (.bool true)) := by
  obtain ⟨Z, hZ⟩ : ∃ Z, Z = WC T (g6.body.at [1, 1, 1, 1, 1, 1]) := ⟨_, rfl⟩
  obtain ⟨Y, hY⟩ : ∃ Y, Y = WLoop T (g6.body.at [1, 1, 1, 1, 1, 0, 1, 0, 0]) := ⟨_, rfl⟩
  have hZ' := hZ.symm
  have hY' := hY.symm
  simp only [AFunc.body, g6, ACode.at] at hZ' hY'
  have btt : ∀ c : Bool, (c == c) = true := fun c => by cases c <;> rfl
  unfold opC
  simp only [List.cons_append, List.nil_append]
  refine WD.of follows t6 (by simp) ?_
  simp (disch := omega) only [kB, kcx, kdm, kdn, kel, aop, resultsL, resultOf, Nat.reduceEqDiff, reduceCtorEq, eq1, apartOK, apart2, AObj.live, Int.reduceEq, Int.reduceLT, Int.reduceLE, Int.reduceAdd, Int.reduceSub, Int.reduceMul, Int.reduceToNat, cutCells, Nat.reduceAdd, Nat.reduceLeDiff, Nat.reduceLT, Nat.reduceMul, Nat.reduceSub, hZ', hY']
  refine live_s ?_
  simp (disch := omega) only [kB, kcx, kdm, kdn, kel, aop, resultsL, resultOf, Nat.reduceEqDiff, reduceCtorEq, eq1, apartOK, apart2, AObj.live, Int.reduceEq, Int.reduceLT, Int.reduceLE, Int.reduceAdd, Int.reduceSub, Int.reduceMul, Int.reduceToNat, cutCells, Nat.reduceAdd, Nat.reduceLeDiff, Nat.reduceLT, Nat.reduceMul, Nat.reduceSub, hZ', hY']
  refine new_s ?_
  by_cases hr : rightN w 4096 = true
  case neg =>
    simp only [if_neg hr]
    simp (disch := omega) only [kB, kcx, kdm, kdn, kel, aop, resultsL, resultOf, Nat.reduceEqDiff, reduceCtorEq, eq1, apartOK, apart2, AObj.live, Int.reduceEq, Int.reduceLT, Int.reduceLE, Int.reduceAdd, Int.reduceSub, Int.reduceMul, Int.reduceToNat, cutCells, Nat.reduceAdd, Nat.reduceLeDiff, Nat.reduceLT, Nat.reduceMul, Nat.reduceSub, hZ', hY']
    refine rnew_s ?_
    simp only [if_neg hr]
    simp (disch := omega) only [kB, kcx, kdm, kdn, kel, aop, resultsL, resultOf, Nat.reduceEqDiff, reduceCtorEq, eq1, apartOK, apart2, AObj.live, Int.reduceEq, Int.reduceLT, Int.reduceLE, Int.reduceAdd, Int.reduceSub, Int.reduceMul, Int.reduceToNat, cutCells, Nat.reduceAdd, Nat.reduceLeDiff, Nat.reduceLT, Nat.reduceMul, Nat.reduceSub, hZ', hY', eqP_nn, btt]
  have hr' := hr
  simp only [rightN, Bool.and_eq_true, decide_eq_true_eq] at hr'
  obtain ⟨⟨⟨h1, h2⟩, h3⟩, h4⟩ := hr'
  obtain ⟨n, rfl⟩ : ∃ n : Nat, w = n := ⟨w.toNat, by omega⟩
  simp only [if_pos hr]
  simp (disch := omega) only [kB, kcx, kdm, kdn, kel, aop, resultsL, resultOf, Nat.reduceEqDiff, reduceCtorEq, eq1, apartOK, apart2, AObj.live, Int.reduceEq, Int.reduceLT, Int.reduceLE, Int.reduceAdd, Int.reduceSub, Int.reduceMul, Int.reduceToNat, cutCells, Nat.reduceAdd, Nat.reduceLeDiff, Nat.reduceLT, Nat.reduceMul, Nat.reduceSub, hZ', hY']
  refine rnew_s ?_
  simp only [if_pos hr]
  simp (disch := omega) only [kB, kcx, kdm, kdn, kel, aop, resultsL, resultOf, Nat.reduceEqDiff, reduceCtorEq, eq1, apartOK, apart2, AObj.live, Int.reduceEq, Int.reduceLT, Int.reduceLE, Int.reduceAdd, Int.reduceSub, Int.reduceMul, Int.reduceToNat, cutCells, Nat.reduceAdd, Nat.reduceLeDiff, Nat.reduceLT, Nat.reduceMul, Nat.reduceSub, hZ', hY', eqP_sn, btt]
  obtain ⟨K, hK⟩ : ∃ K, K = H ++ [.row (opC o ++ .int .i64 st :: opC o2) 0 true, .row [.bool false] 0 true, .row [.int .i64 (n : Int), .int .i64 4096, .int .i64 0, .pointer none] 0 true, .row [.pointer (some ⟨H.length + 2, 0, none⟩)] 0 true, .row [.int .i64 (n : Int), .int .i64 4096, .slice none 0 0] 0 true, .row [.pointer (some ⟨H.length + 4, 0, none⟩)] 0 true] := ⟨_, rfl⟩
  have hK' := hK.symm
  unfold opC at hK'
  simp only [List.cons_append, List.nil_append] at hK'
  rw [hK']
  have hone : PR K (H.length + 2) (H.length + 4) n 4096 .nil (.slice none 0 0) := new_pr (by rw [hK, hget_base]; rfl) (by rw [hK, hget_base]; rfl) ⟨by decide, by decide⟩
  have hslK : OpSl K ad ops H.length := hsl.same fun c hc => by rw [hK, hget_old hc]
  have hWL : WL K H.length n o st o2 .nil (.slice none 0 0) := ⟨hone, by rw [hK, hget_base0]; rfl, by rw [hK, hget_base]; rfl, by rw [hK, hget_base]; rfl, by rw [hK, hget_base]; rfl, fun c hc => by have := new_fp hc; omega⟩
  clear hK hK'
  rw [hY]
  refine walk_loop (q := H.length) (w := n) (o := o) (st := st) (o2 := o2) (by omega) (by omega) hops hlen (fun e K2 t sv hL he => ?_) ⟨0, .nil, .slice none 0 0, Nat.zero_le _, rfl, hWL, hslK, by exact ex_env rfl⟩
  simp (disch := omega) only [kB, kcx, kdm, kdn, kel, aop, resultsL, resultOf, Nat.reduceEqDiff, reduceCtorEq, eq1, apartOK, apart2, AObj.live, Int.reduceEq, Int.reduceLT, Int.reduceLE, Int.reduceAdd, Int.reduceSub, Int.reduceMul, Int.reduceToNat, cutCells, Nat.reduceAdd, Nat.reduceLeDiff, Nat.reduceLT, Nat.reduceMul, Nat.reduceSub, hZ']
  rw [hZ]
  exact walk_rest (by omega) (by omega) ho ho2 hL he

end Go.Proofs.Yticgkaanaimllaa.Ev

/- TrieWalks: All and Under, left early, gone over again, within themselves, while the trie changes: a range tells what there was when it began: whatever the inputs, the law answers true. Conditions: none. -/
namespace Go.Proofs.Yticgkaanaimllaa.Ev
open Go.ChangeShapes Go.WideShapes Go.ChangeAt Go.RowKit

theorem Rep.inv_three {P : Program} {X : Type} {H : Heap} {t : TypeId} {f0 f1 f2 : Field} {d : DataW X} {cz : List Value} (hu : P.underlying t = some (.struct #[f0, f1, f2])) (h : Rep P H t d cz) :
    ∃ d0 d1 d2 a0 a1 a2, d = .agg [d0, d1, d2] ∧ cz = a0 ++ (a1 ++ a2) ∧ Rep P H f0.type d0 a0 ∧ Rep P H f1.type d1 a1 ∧ Rep P H f2.type d2 a2 := by
  obtain ⟨ds, ass, rfl, rfl, h1, h2, h3⟩ := h.inv_struct hu
  match ds, ass, h1, h2, h3 with
  | [d0, d1, d2], [a0, a1, a2], _, _, h3 => exact ⟨d0, d1, d2, a0, a1, a2, rfl, by simp, h3 0 f0 d0 a0 rfl rfl rfl, h3 1 f1 d1 a1 rfl rfl rfl, h3 2 f2 d2 a2 rfl rfl rfl⟩

theorem walk_arg {X : Type} {H : Heap} {d : DataW X} {a : Value} (h : ArgRep Try.prog H 62 d a) : ∃ o st o2, OprOk o ∧ OprOk o2 ∧ a = .agg (opC o ++ .int .i64 st :: opC o2).toArray := by
  obtain ⟨cs, hr, hcase⟩ := h
  obtain ⟨d0, d1, d2, a0, a1, a2, rfl, rfl, r0, r1, r2⟩ := hr.inv_three Try.underlying62
  obtain ⟨o, rfl, ho⟩ := op_rep r0
  obtain ⟨st, rfl, rfl, _⟩ := r1.inv_i64 Try.underlying3
  obtain ⟨o2, rfl, ho2⟩ := op_rep r2
  rcases hcase with ⟨_, rfl⟩ | h
  · exact ⟨o, st, o2, ho, ho2, by simp⟩
  · simp [opC] at h

set_option maxRecDepth 100000 in
theorem trieWalks_lifted (os : Os) (started : os.Started) (H : Type) (enc : TypeId × Value → H) :
    ReturnsInHanded {} Try.checked os 6 .any (Rows.trieWalksSpec.pre6 enc Try.prog Try.f6 [] false)
      (Rows.trieWalksSpec.post enc Try.prog Try.f6 false true false false) := by
  refine returnsInHanded_of_change_sized (C := Try.checked) own started (by kernel_rfl) Try.func6
    (ChangeSpec.witness6 (enc := enc) (C := Try.checked) (os := os) false ⟨#[], #[.int .i64 0, .slice none 0 0, .agg #[.int .i64 0, .int .u64 0, .int .u64 0, .int .i64 0, .int .i64 0, .int .i64 0, .int .i64 0, .int .u64 0, .int .u64 0, .int .i64 0, .int .i64 0]], []⟩ 8 (by kernel_rfl) (by kernel_rfl) (by kernel_rfl) (by kernel_rfl)) ?_
  intro W base args ds gs before hval0 hW _ hsz _
  have hval : ∀ (j : Nat) t v, Try.f6.params[j]? = some t → args[j]? = some v → Value.okWide Try.prog W .any base t v := hval0
  have hW' := hW
  obtain ⟨p, q, hA0, hV, rfl, hfz, hnd⟩ := hW
  have hA : DataW.TrodAll enc Try.prog W 0 (fun _ => true) true Try.f6.params.toList args.toList ds p := hA0
  have hsz' : (DataW.weightsEach Try.prog (Try.f6.params.toList ++ Rows.trieWalksSpec.plain.varTypes Try.prog) (ds ++ gs)).all (· ≤ reachBytes) = true := hsz
  rw [Try.params6] at hA hval hsz'
  obtain ⟨rfl, rfl⟩ := trodVars_none hV
  obtain ⟨g, ρ', avs, hr, hs, hg, hvl, hlen, hrep⟩ := open_args (G := 0) (L := [3, 22, 62, 35, 25, 23]) (by kernel_rfl) (by kernel_rfl) (by kernel_rfl) (by decide) hA (fun j t v h1 h2 => hval j t v (by simpa using h1) (by simpa using h2)) [] (fun _ => ⟨0, 0, 0⟩) (fun o ho => by cases ho) (rel_nil W)
  have hA1 := hA
  obtain ⟨v0, vs0, d0, ds0, p0, q0, hargs, rfl, rfl, h0, r0⟩ := trodAll_cons hA1
  obtain ⟨v1, vs1, d1, ds1, p1, q1, rfl, rfl, rfl, h1, r1⟩ := trodAll_cons r0
  obtain ⟨v2, vs2, d2, ds2, p2, q2, rfl, rfl, rfl, h2, r2⟩ := trodAll_cons r1
  obtain ⟨rfl, rfl, rfl⟩ := trodAll_nil r2
  obtain rfl : args = #[v0, v1, v2] := by cases args; simp_all
  match avs, hlen with
  | [a0, a1, a2], _ =>
  obtain ⟨w, rfl, rfl⟩ := int_arg Try.underlying3 (hrep 0 3 d0 a0 rfl rfl rfl)
  obtain ⟨ad, ops, rfl, hops, hsl, hds⟩ := ops_arg (hrep 1 22 d1 a1 rfl rfl rfl)
  obtain ⟨o, st, o2, ho, ho2, rfl⟩ := walk_arg (hrep 2 62 d2 a2 rfl rfl rfl)
  have hlen : ops.length ≤ 4611686018427387904 := by
    rcases hds with ⟨_, rfl⟩ | ⟨ds, sp, rfl, e⟩
    · simp
    · have := sized_slice hsz' (j := 1) (t := 22) rfl rfl Try.underlying22
      have hb : Try.prog.bytesOf 35 = 40 := by kernel_rfl
      have hlt := reachBytes_lt
      rw [hb] at this
      omega
  have hG : T.G = 0 := by unfold T; kernel_rfl
  simp only [List.nil_append] at hr hvl hsl
  refine (wd_true t6 (H := g) (walks_w ho.1 ho2.1 hops hlen hsl) (by rw [hG]; exact hr) (args' := #[v0, v1, v2]) hvl (fun o ho => by obtain ⟨c, rfl⟩ := hg o ho; rfl)).mono fun e W' ⟨he, bel⟩ => ?_
  subst he
  exact ⟨_, rfl, _, _, _, [], _, [], hW', trodAll_mk1 (shut_bool Try.underlying4 _), args_stay (by kernel_rfl) (by kernel_rfl) (by kernel_rfl) bel (by decide) hA, rfl, bel.frame _, fun h => by cases h⟩

theorem trieWalks_holds : Rows.TrieWalksSaid :=
  OpenClaim.holds_of_wide 6 Try.f6 rfl rfl rfl rfl rfl rfl rfl ⟨rfl, rfl, rfl, rfl, rfl⟩ rfl rfl rfl rfl rfl (by kernel_rfl) Try.func6 (by kernel_rfl)
    (of_decide_eq_true (by kernel_rfl)) (by unfold Func.isWrapper; first | (rw [if_pos (by decide +kernel)]; kernel_rfl) | (rw [if_neg (by decide +kernel)]; exact ⟨rfl, rfl⟩))
    (fun os started H enc _ => trieWalks_lifted os started H enc)

#print axioms trieWalks_holds
end Go.Proofs.Yticgkaanaimllaa.Ev
