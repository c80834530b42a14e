/- ExactNil: a nil map: whatever the inputs, the law answers true. Conditions: none. -/
import Derived.Test.YtbiehhddmcgfaaaNilX2
import Derived.Test.YtbiehhddmcgfaaaProg
import Derived.ChangeArms
import Derived.ChangeStays
import Derived.ChangeOld
import Derived.ChangeShapes
import Derived.WideShapes
import Derived.DataReads
import Derived.RowKit
import Derived.Test.YtbiehhddmcgfaaaRows
import Derived.ProofKit
import Derived.OpenShut
import Derived.SizedLaws
import Derived.JoinedOf
import Derived.MakeChecks
import Derived.Stop.Joined
/- The table of the evaluator's functions; each is what the program's own function is laid as. Conditions: none. -/
namespace Go.Proofs.Ytbiehhddmcgfaaa.Ev
set_option maxRecDepth 100000
noncomputable def T : Pg := ⟨Try.prog, Try.prog.globals.size⟩
theorem follows : T.P.follows .mixedOrders = true := by kernel_rfl
theorem t3 : Laid T 3 g3 := ⟨Try.f3, Try.func3, by kernel_rfl⟩
theorem t4 : Laid T 4 g4 := ⟨Try.f4, Try.func4, by kernel_rfl⟩
theorem t5 : Laid T 5 g5 := ⟨Try.f5, Try.func5, by kernel_rfl⟩
theorem t6 : Laid T 6 g6 := ⟨Try.f6, Try.func6, by kernel_rfl⟩
theorem t7 : Laid T 7 g7 := ⟨Try.f7, Try.func7, by kernel_rfl⟩
theorem t8 : Laid T 8 g8 := ⟨Try.f8, Try.func8, by kernel_rfl⟩
theorem t9 : Laid T 9 g9 := ⟨Try.f9, Try.func9, by kernel_rfl⟩
theorem t10 : Laid T 10 g10 := ⟨Try.f10, Try.func10, by kernel_rfl⟩
theorem t11 : Laid T 11 g11 := ⟨Try.f11, Try.func11, by kernel_rfl⟩
theorem t12 : Laid T 12 g12 := ⟨Try.f12, Try.func12, by kernel_rfl⟩
theorem t13 : Laid T 13 g13 := ⟨Try.f13, Try.func13, by kernel_rfl⟩
theorem t14 : Laid T 14 g14 := ⟨Try.f14, Try.func14, by kernel_rfl⟩
theorem t15 : Laid T 15 g15 := ⟨Try.f15, Try.func15, by kernel_rfl⟩
theorem t16 : Laid T 16 g16 := ⟨Try.f16, Try.func16, by kernel_rfl⟩
theorem t17 : Laid T 17 g17 := ⟨Try.f17, Try.func17, by kernel_rfl⟩
theorem t18 : Laid T 18 g18 := ⟨Try.f18, Try.func18, by kernel_rfl⟩
theorem t19 : Laid T 19 g19 := ⟨Try.f19, Try.func19, by kernel_rfl⟩
theorem t20 : Laid T 20 g20 := ⟨Try.f20, Try.func20, by kernel_rfl⟩
theorem t21 : Laid T 21 g21 := ⟨Try.f21, Try.func21, by kernel_rfl⟩
theorem t22 : Laid T 22 g22 := ⟨Try.f22, Try.func22, by kernel_rfl⟩
theorem t23 : Laid T 23 g23 := ⟨Try.f23, Try.func23, by kernel_rfl⟩
theorem t24 : Laid T 24 g24 := ⟨Try.f24, Try.func24, by kernel_rfl⟩
theorem t25 : Laid T 25 g25 := ⟨Try.f25, Try.func25, by kernel_rfl⟩
theorem t26 : Laid T 26 g26 := ⟨Try.f26, Try.func26, by kernel_rfl⟩
theorem t27 : Laid T 27 g27 := ⟨Try.f27, Try.func27, by kernel_rfl⟩
theorem t28 : Laid T 28 g28 := ⟨Try.f28, Try.func28, by kernel_rfl⟩
theorem t29 : Laid T 29 g29 := ⟨Try.f29, Try.func29, by kernel_rfl⟩
theorem t30 : Laid T 30 g30 := ⟨Try.f30, Try.func30, by kernel_rfl⟩
theorem t31 : Laid T 31 g31 := ⟨Try.f31, Try.func31, by kernel_rfl⟩
theorem t32 : Laid T 32 g32 := ⟨Try.f32, Try.func32, by kernel_rfl⟩
theorem t33 : Laid T 33 g33 := ⟨Try.f33, Try.func33, by kernel_rfl⟩
theorem t34 : Laid T 34 g34 := ⟨Try.f34, Try.func34, by kernel_rfl⟩
theorem t35 : Laid T 35 g35 := ⟨Try.f35, Try.func35, by kernel_rfl⟩
theorem t37 : Laid T 37 g37 := ⟨Try.f37, Try.func37, by kernel_rfl⟩
theorem t39 : Laid T 39 g39 := ⟨Try.f39, Try.func39, by kernel_rfl⟩
theorem t40 : Laid T 40 g40 := ⟨Try.f40, Try.func40, by kernel_rfl⟩
theorem t41 : Laid T 41 g41 := ⟨Try.f41, Try.func41, by kernel_rfl⟩
theorem t42 : Laid T 42 g42 := ⟨Try.f42, Try.func42, by kernel_rfl⟩
theorem t43 : Laid T 43 g43 := ⟨Try.f43, Try.func43, by kernel_rfl⟩
theorem t44 : Laid T 44 g44 := ⟨Try.f44, Try.func44, by kernel_rfl⟩
theorem t45 : Laid T 45 g45 := ⟨Try.f45, Try.func45, by kernel_rfl⟩
theorem t46 : Laid T 46 g46 := ⟨Try.f46, Try.func46, by kernel_rfl⟩
theorem t47 : Laid T 47 g47 := ⟨Try.f47, Try.func47, by kernel_rfl⟩
theorem t48 : Laid T 48 g48 := ⟨Try.f48, Try.func48, by kernel_rfl⟩
theorem t49 : Laid T 49 g49 := ⟨Try.f49, Try.func49, by kernel_rfl⟩
theorem t50 : Laid T 50 g50 := ⟨Try.f50, Try.func50, by kernel_rfl⟩
theorem t51 : Laid T 51 g51 := ⟨Try.f51, Try.func51, by kernel_rfl⟩
theorem t52 : Laid T 52 g52 := ⟨Try.f52, Try.func52, by kernel_rfl⟩
theorem t53 : Laid T 53 g53 := ⟨Try.f53, Try.func53, by kernel_rfl⟩
theorem t54 : Laid T 54 g54 := ⟨Try.f54, Try.func54, by kernel_rfl⟩
theorem t55 : Laid T 55 g55 := ⟨Try.f55, Try.func55, by kernel_rfl⟩
theorem t56 : Laid T 56 g56 := ⟨Try.f56, Try.func56, by kernel_rfl⟩
theorem t57 : Laid T 57 g57 := ⟨Try.f57, Try.func57, by kernel_rfl⟩
theorem t58 : Laid T 58 g58 := ⟨Try.f58, Try.func58, by kernel_rfl⟩
theorem t59 : Laid T 59 g59 := ⟨Try.f59, Try.func59, by kernel_rfl⟩
theorem t60 : Laid T 60 g60 := ⟨Try.f60, Try.func60, by kernel_rfl⟩
theorem t62 : Laid T 62 g62 := ⟨Try.f62, Try.func62, by kernel_rfl⟩
theorem t63 : Laid T 63 g63 := ⟨Try.f63, Try.func63, by kernel_rfl⟩
theorem t64 : Laid T 64 g64 := ⟨Try.f64, Try.func64, by kernel_rfl⟩
theorem t65 : Laid T 65 g65 := ⟨Try.f65, Try.func65, by kernel_rfl⟩
theorem t66 : Laid T 66 g66 := ⟨Try.f66, Try.func66, by kernel_rfl⟩
theorem t67 : Laid T 67 g67 := ⟨Try.f67, Try.func67, by kernel_rfl⟩
theorem t68 : Laid T 68 g68 := ⟨Try.f68, Try.func68, by kernel_rfl⟩
theorem t69 : Laid T 69 g69 := ⟨Try.f69, Try.func69, by kernel_rfl⟩
theorem t70 : Laid T 70 g70 := ⟨Try.f70, Try.func70, by kernel_rfl⟩
theorem t71 : Laid T 71 g71 := ⟨Try.f71, Try.func71, by kernel_rfl⟩
theorem t72 : Laid T 72 g72 := ⟨Try.f72, Try.func72, by kernel_rfl⟩
theorem t73 : Laid T 73 g73 := ⟨Try.f73, Try.func73, by kernel_rfl⟩
theorem t74 : Laid T 74 g74 := ⟨Try.f74, Try.func74, by kernel_rfl⟩
theorem t75 : Laid T 75 g75 := ⟨Try.f75, Try.func75, by kernel_rfl⟩
theorem t76 : Laid T 76 g76 := ⟨Try.f76, Try.func76, by kernel_rfl⟩
theorem t77 : Laid T 77 g77 := ⟨Try.f77, Try.func77, by kernel_rfl⟩
theorem t78 : Laid T 78 g78 := ⟨Try.f78, Try.func78, by kernel_rfl⟩
theorem t79 : Laid T 79 g79 := ⟨Try.f79, Try.func79, by kernel_rfl⟩
theorem t80 : Laid T 80 g80 := ⟨Try.f80, Try.func80, by kernel_rfl⟩
theorem t81 : Laid T 81 g81 := ⟨Try.f81, Try.func81, by kernel_rfl⟩
theorem t82 : Laid T 82 g82 := ⟨Try.f82, Try.func82, by kernel_rfl⟩
theorem t83 : Laid T 83 g83 := ⟨Try.f83, Try.func83, by kernel_rfl⟩
theorem t84 : Laid T 84 g84 := ⟨Try.f84, Try.func84, by kernel_rfl⟩
theorem t85 : Laid T 85 g85 := ⟨Try.f85, Try.func85, by kernel_rfl⟩
theorem t86 : Laid T 86 g86 := ⟨Try.f86, Try.func86, by kernel_rfl⟩
theorem t88 : Laid T 88 g88 := ⟨Try.f88, Try.func88, by kernel_rfl⟩
theorem t89 : Laid T 89 g89 := ⟨Try.f89, Try.func89, by kernel_rfl⟩
theorem t90 : Laid T 90 g90 := ⟨Try.f90, Try.func90, by kernel_rfl⟩
theorem t91 : Laid T 91 g91 := ⟨Try.f91, Try.func91, by kernel_rfl⟩
theorem t92 : Laid T 92 g92 := ⟨Try.f92, Try.func92, by kernel_rfl⟩
theorem t93 : Laid T 93 g93 := ⟨Try.f93, Try.func93, by kernel_rfl⟩
theorem t94 : Laid T 94 g94 := ⟨Try.f94, Try.func94, by kernel_rfl⟩
theorem t95 : Laid T 95 g95 := ⟨Try.f95, Try.func95, by kernel_rfl⟩
theorem t96 : Laid T 96 g96 := ⟨Try.f96, Try.func96, by kernel_rfl⟩
theorem t97 : Laid T 97 g97 := ⟨Try.f97, Try.func97, by kernel_rfl⟩
theorem t98 : Laid T 98 g98 := ⟨Try.f98, Try.func98, by kernel_rfl⟩
theorem t99 : Laid T 99 g99 := ⟨Try.f99, Try.func99, by kernel_rfl⟩
theorem t100 : Laid T 100 g100 := ⟨Try.f100, Try.func100, by kernel_rfl⟩
def Tab : Table := fun f =>
  match f with
  | 3 => some g3
  | 4 => some g4
  | 5 => some g5
  | 6 => some g6
  | 7 => some g7
  | 8 => some g8
  | 9 => some g9
  | 10 => some g10
  | 11 => some g11
  | 12 => some g12
  | 13 => some g13
  | 14 => some g14
  | 15 => some g15
  | 16 => some g16
  | 17 => some g17
  | 18 => some g18
  | 19 => some g19
  | 20 => some g20
  | 21 => some g21
  | 22 => some g22
  | 23 => some g23
  | 24 => some g24
  | 25 => some g25
  | 26 => some g26
  | 27 => some g27
  | 28 => some g28
  | 29 => some g29
  | 30 => some g30
  | 31 => some g31
  | 32 => some g32
  | 33 => some g33
  | 34 => some g34
  | 35 => some g35
  | 37 => some g37
  | 39 => some g39
  | 40 => some g40
  | 41 => some g41
  | 42 => some g42
  | 43 => some g43
  | 44 => some g44
  | 45 => some g45
  | 46 => some g46
  | 47 => some g47
  | 48 => some g48
  | 49 => some g49
  | 50 => some g50
  | 51 => some g51
  | 52 => some g52
  | 53 => some g53
  | 54 => some g54
  | 55 => some g55
  | 56 => some g56
  | 57 => some g57
  | 58 => some g58
  | 59 => some g59
  | 60 => some g60
  | 62 => some g62
  | 63 => some g63
  | 64 => some g64
  | 65 => some g65
  | 66 => some g66
  | 67 => some g67
  | 68 => some g68
  | 69 => some g69
  | 70 => some g70
  | 71 => some g71
  | 72 => some g72
  | 73 => some g73
  | 74 => some g74
  | 75 => some g75
  | 76 => some g76
  | 77 => some g77
  | 78 => some g78
  | 79 => some g79
  | 80 => some g80
  | 81 => some g81
  | 82 => some g82
  | 83 => some g83
  | 84 => some g84
  | 85 => some g85
  | 86 => some g86
  | 88 => some g88
  | 89 => some g89
  | 90 => some g90
  | 91 => some g91
  | 92 => some g92
  | 93 => some g93
  | 94 => some g94
  | 95 => some g95
  | 96 => some g96
  | 97 => some g97
  | 98 => some g98
  | 99 => some g99
  | 100 => some g100
  | _ => none
theorem table_ok : TableOK T.P T.G Tab := by
  intro f af h
  unfold Tab at h
  split at h
  · cases h; exact t3
  · cases h; exact t4
  · cases h; exact t5
  · cases h; exact t6
  · cases h; exact t7
  · cases h; exact t8
  · cases h; exact t9
  · cases h; exact t10
  · cases h; exact t11
  · cases h; exact t12
  · cases h; exact t13
  · cases h; exact t14
  · cases h; exact t15
  · cases h; exact t16
  · cases h; exact t17
  · cases h; exact t18
  · cases h; exact t19
  · cases h; exact t20
  · cases h; exact t21
  · cases h; exact t22
  · cases h; exact t23
  · cases h; exact t24
  · cases h; exact t25
  · cases h; exact t26
  · cases h; exact t27
  · cases h; exact t28
  · cases h; exact t29
  · cases h; exact t30
  · cases h; exact t31
  · cases h; exact t32
  · cases h; exact t33
  · cases h; exact t34
  · cases h; exact t35
  · cases h; exact t37
  · cases h; exact t39
  · cases h; exact t40
  · cases h; exact t41
  · cases h; exact t42
  · cases h; exact t43
  · cases h; exact t44
  · cases h; exact t45
  · cases h; exact t46
  · cases h; exact t47
  · cases h; exact t48
  · cases h; exact t49
  · cases h; exact t50
  · cases h; exact t51
  · cases h; exact t52
  · cases h; exact t53
  · cases h; exact t54
  · cases h; exact t55
  · cases h; exact t56
  · cases h; exact t57
  · cases h; exact t58
  · cases h; exact t59
  · cases h; exact t60
  · cases h; exact t62
  · cases h; exact t63
  · cases h; exact t64
  · cases h; exact t65
  · cases h; exact t66
  · cases h; exact t67
  · cases h; exact t68
  · cases h; exact t69
  · cases h; exact t70
  · cases h; exact t71
  · cases h; exact t72
  · cases h; exact t73
  · cases h; exact t74
  · cases h; exact t75
  · cases h; exact t76
  · cases h; exact t77
  · cases h; exact t78
  · cases h; exact t79
  · cases h; exact t80
  · cases h; exact t81
  · cases h; exact t82
  · cases h; exact t83
  · cases h; exact t84
  · cases h; exact t85
  · cases h; exact t86
  · cases h; exact t88
  · cases h; exact t89
  · cases h; exact t90
  · cases h; exact t91
  · cases h; exact t92
  · cases h; exact t93
  · cases h; exact t94
  · cases h; exact t95
  · cases h; exact t96
  · cases h; exact t97
  · cases h; exact t98
  · cases h; exact t99
  · cases h; exact t100
  · cases h
end Go.Proofs.Ytbiehhddmcgfaaa.Ev

/- A nil map; the law ExactNil. -/
namespace Go.Proofs.Ytbiehhddmcgfaaa.Ev
set_option maxRecDepth 100000
set_option linter.unusedSimpArgs false
set_option linter.unusedVariables false
variable {R : FRes → Heap → Prop} {H : Heap}

def isTrue : Option (FRes × Heap) → Bool
  | some (.ret (.bool true), _) => true
  | _ => false
theorem of_isTrue {x : Option (FRes × Heap)} (h : isTrue x = true) : ∃ H1, x = some (.ret (.bool true), H1) := by
  unfold isTrue at h
  split at h
  · exact ⟨_, rfl⟩
  · cases h

theorem live_ev : isTrue (evalFn Tab 64 6 [] [.dead]) = true := by kernel_rfl

def H0 : Heap := [.dead]
def On0 (H : Heap) : Prop := ∃ g, H = H0 ++ g
theorem On0.app (h : On0 H) (G : Heap) : On0 (H ++ G) := by
  obtain ⟨g, rfl⟩ := h
  exact ⟨g ++ G, by simp⟩
theorem on0 : On0 H0 := ⟨[], by simp⟩
theorem globs : T.G ≤ H0.length := by
  have : T.G = 1 := by unfold T; kernel_rfl
  rw [this]
  exact Nat.le_refl _

/-- A call that is evaluated over nothing. -/
theorem WD.frameD {f : FuncId} {args : List Value} {H0 H : Heap} {v : Value} (hp : ∃ g, H = H0 ++ g) (hG : T.G ≤ H0.length) (hro : ∀ o ∈ H0, o = .dead)
    (hargs : ∀ a ∈ args, closedV a = true) (hv : Scoped T.G v) (h : WD T f args H0 (fun r _ => r = .ret v)) {R : FRes → Heap → Prop} (hR : R (.ret v) H) : WD T f args H R := by
  obtain ⟨g, rfl⟩ := hp
  intro ρ w args' hr ha
  have hr0 : Rel T.G ρ H0 w := by
    refine ⟨fun b o ho => ?_, fun b c o u hb hc hne hw hl => ?_, hr.glob, hG⟩
    · obtain rfl := hro o (List.mem_of_getElem? ho)
      exact trivial
    · obtain rfl := hro o (List.mem_of_getElem? hb)
      cases hw
  have ha0 : VL H0.length ρ args args'.toList := ⟨ha.1, fun i x y hx hy => (ha.2 i x y hx hy).narrow (.closed (hargs x (List.mem_of_getElem? hx)))⟩
  have nofoot : ∀ c, ¬ Foot ρ H0 c := by
    rintro c ⟨b, o, hb, hw, _⟩
    obtain rfl := hro o (List.mem_of_getElem? hb)
    cases hw
  have hkk : ∀ en w1, (∃ r H1, r = .ret v ∧ RetOK T.G ρ H0 w r H1 en w1) → ∃ r H1, R r H1 ∧ RetOK T.G ρ (H0 ++ g) w r H1 en w1 := by
    rintro en w1 ⟨r, H1, rfl, ρ1, hs, v', rfl, hvr⟩
    have hold : ∀ c, c < w.heap.size → w1.heap[c]? = w.heap[c]? := fun c hc => hs.frame c hc (nofoot c)
    refine ⟨_, _, hR, ρ, ⟨⟨fun b o ho => ?_, hr.inj, hr.glob, hr.many⟩, Nat.le_refl _, fun _ _ => rfl, hs.os, hs.tape, hs.output, hs.size, fun c hc _ => hold c hc, fun c hc => .inl hc, hs.loops, fun c u hu hl => .inl ⟨u, hu, hl⟩⟩, v', rfl, ?_⟩
    · exact (hr.obj b o ho).mono (Nat.le_refl _) rfl (fun _ _ => rfl) (fun hl => hold _ (lt_of_live (hr.obj b o ho) hl))
    · have h1 : VR T.G ρ1 v v' := hvr.narrow hv
      refine (h1.mono (Nat.le_refl _) fun b hb => ?_).mono (by have := hr.many; omega) fun _ _ => rfl
      exact (hr.glob b hb).trans (hs.rel.glob b hb).symm
  rcases h ρ w args' hr0 ha0 with ⟨v', h1, h2⟩ | ⟨h1, h2⟩
  · exact .inl ⟨v', h1, hkk _ _ h2⟩
  · exact .inr ⟨h1, h2.mono hkk⟩

theorem live_s (hH : On0 H) (h : R (.ret (.bool true)) H) : WD T 6 [] H R := by
  obtain ⟨H1, he⟩ := of_isTrue live_ev
  exact WD.frameD hH globs (fun o ho => by simpa [H0] using ho) (by simp) .bool (WD.ev follows table_ok he rfl) h

theorem eqP_nn {H : Heap} : eqP H 0 (.pointer none) (.pointer none) = some true := rfl
theorem eqP_sn {H : Heap} {a : Addr} : eqP H 0 (.pointer (some a)) (.pointer none) = some false := rfl
theorem eqP_ns {H : Heap} {a : Addr} : eqP H 0 (.pointer none) (.pointer (some a)) = some false := rfl
theorem eqF_n {H : Heap} {f : Fn} {a b : Array Value} : eqP H 2 (.func f a b) .nilFunc = some false := rfl


variable {ks : List UInt8} {v : Int}

theorem putN_s (h : R (.ret (.int .i64 1)) H) : WD T 27 [.pointer none, .string (bs ks), .int .i64 v] H R := by
  refine WD.gc0 (WD.of follows t27 (by simp) ?_)
  simp (disch := omega) only [kaa, kab, kac, kad, khm, khn, kho, khp, khq, khr, kae, kaf, kag, kah, kai, kaj, kak, kal, kam, kan, kao, khe, khf, khg, khh, khi, khj, khk, khl, kap, kaq, kar, kas, kat, kau, kav, kaw, kax, kay, kaz, kba, kbb, kbc, kbd, kbe, kbf, kbg, kbh, kbi, kbj, kbk, kbl, kbm, kbn, kbo, kbp, kbq, kbr, kbs, kbt, kbu, kbv, kbw, kbx, kby, kbz, kca, kcb, kcc, kcd, kce, kcf, kcg, kch, kci, kcj, kck, kcl, kcm, aop, kcn, kco, kcp, kcq, kcr, kcs, kct, kcu, kcv, kcw, resultsL, resultOf, kcx, Nat.reduceEqDiff, kcy, kcz, kda, reduceCtorEq, kdb, kdc, kdd, kde, kdf, kdg, kdh, kdi, kdj, kdk, kdl, kdm, kdn, kdo, eq1, kdp, kdq, kdr, kds, kdt, kdu, kdv, kdw, kdx, kdy, kdz, kea, keb, kec, apartOK, apart2, AObj.live, ked, kee, kef, keg, keh, kei, kej, kek, kel, Int.reduceEq, Int.reduceLT, Int.reduceLE, Int.reduceAdd, Int.reduceSub, Int.reduceMul, Int.reduceToNat, kem, ken, keo, kep, keq, ker, kes, ket, keu, kev, kew, kex, key, kez, kfa, kfb, kfc, kfd, kfe, kff, kfg, kfh, kfi, kfj, kfk, kfl, cutCells, kfm, kfn, kfo, kfp, kfq, kfr, kfs, kft, kfu, kfv, kfw, kfx, kfy, Nat.reduceAdd, Nat.reduceLeDiff, Nat.reduceLT, Nat.reduceMul, Nat.reduceSub, kfz, kga, kgb, kgc, kgd, kge, kgf, kgg, kgh, kgi, kgj, kgk, kgl, kgm, kgn, kgo, kgp, kgq, kgr, kgs, kgt, kgu, kgv, kgw, kgx, kgy, kgz, kha, khb, khc, khd, eqP_nn]
  exact ⟨_, rfl, ⟨_, (List.append_nil _).symm⟩, .closed rfl, h⟩
theorem setN_s (h : R (.ret (.int .i64 1)) H) : WD T 28 [.pointer none, .string (bs ks), .int .i64 v] H R := by
  refine WD.gc0 (WD.of follows t28 (by simp) ?_)
  simp (disch := omega) only [kaa, kab, kac, kad, khm, khn, kho, khp, khq, khr, kae, kaf, kag, kah, kai, kaj, kak, kal, kam, kan, kao, khe, khf, khg, khh, khi, khj, khk, khl, kap, kaq, kar, kas, kat, kau, kav, kaw, kax, kay, kaz, kba, kbb, kbc, kbd, kbe, kbf, kbg, kbh, kbi, kbj, kbk, kbl, kbm, kbn, kbo, kbp, kbq, kbr, kbs, kbt, kbu, kbv, kbw, kbx, kby, kbz, kca, kcb, kcc, kcd, kce, kcf, kcg, kch, kci, kcj, kck, kcl, kcm, aop, kcn, kco, kcp, kcq, kcr, kcs, kct, kcu, kcv, kcw, resultsL, resultOf, kcx, Nat.reduceEqDiff, kcy, kcz, kda, reduceCtorEq, kdb, kdc, kdd, kde, kdf, kdg, kdh, kdi, kdj, kdk, kdl, kdm, kdn, kdo, eq1, kdp, kdq, kdr, kds, kdt, kdu, kdv, kdw, kdx, kdy, kdz, kea, keb, kec, apartOK, apart2, AObj.live, ked, kee, kef, keg, keh, kei, kej, kek, kel, Int.reduceEq, Int.reduceLT, Int.reduceLE, Int.reduceAdd, Int.reduceSub, Int.reduceMul, Int.reduceToNat, kem, ken, keo, kep, keq, ker, kes, ket, keu, kev, kew, kex, key, kez, kfa, kfb, kfc, kfd, kfe, kff, kfg, kfh, kfi, kfj, kfk, kfl, cutCells, kfm, kfn, kfo, kfp, kfq, kfr, kfs, kft, kfu, kfv, kfw, kfx, kfy, Nat.reduceAdd, Nat.reduceLeDiff, Nat.reduceLT, Nat.reduceMul, Nat.reduceSub, kfz, kga, kgb, kgc, kgd, kge, kgf, kgg, kgh, kgi, kgj, kgk, kgl, kgm, kgn, kgo, kgp, kgq, kgr, kgs, kgt, kgu, kgv, kgw, kgx, kgy, kgz, kha, khb, khc, khd, eqP_nn]
  exact ⟨_, rfl, ⟨_, (List.append_nil _).symm⟩, .closed rfl, h⟩
theorem dropN_s (h : R (.ret (.tuple #[.int .i64 0, .bool false])) H) : WD T 29 [.pointer none, .string (bs ks)] H R := by
  refine WD.gc0 (WD.of follows t29 (by simp) ?_)
  simp (disch := omega) only [kaa, kab, kac, kad, khm, khn, kho, khp, khq, khr, kae, kaf, kag, kah, kai, kaj, kak, kal, kam, kan, kao, khe, khf, khg, khh, khi, khj, khk, khl, kap, kaq, kar, kas, kat, kau, kav, kaw, kax, kay, kaz, kba, kbb, kbc, kbd, kbe, kbf, kbg, kbh, kbi, kbj, kbk, kbl, kbm, kbn, kbo, kbp, kbq, kbr, kbs, kbt, kbu, kbv, kbw, kbx, kby, kbz, kca, kcb, kcc, kcd, kce, kcf, kcg, kch, kci, kcj, kck, kcl, kcm, aop, kcn, kco, kcp, kcq, kcr, kcs, kct, kcu, kcv, kcw, resultsL, resultOf, kcx, Nat.reduceEqDiff, kcy, kcz, kda, reduceCtorEq, kdb, kdc, kdd, kde, kdf, kdg, kdh, kdi, kdj, kdk, kdl, kdm, kdn, kdo, eq1, kdp, kdq, kdr, kds, kdt, kdu, kdv, kdw, kdx, kdy, kdz, kea, keb, kec, apartOK, apart2, AObj.live, ked, kee, kef, keg, keh, kei, kej, kek, kel, Int.reduceEq, Int.reduceLT, Int.reduceLE, Int.reduceAdd, Int.reduceSub, Int.reduceMul, Int.reduceToNat, kem, ken, keo, kep, keq, ker, kes, ket, keu, kev, kew, kex, key, kez, kfa, kfb, kfc, kfd, kfe, kff, kfg, kfh, kfi, kfj, kfk, kfl, cutCells, kfm, kfn, kfo, kfp, kfq, kfr, kfs, kft, kfu, kfv, kfw, kfx, kfy, Nat.reduceAdd, Nat.reduceLeDiff, Nat.reduceLT, Nat.reduceMul, Nat.reduceSub, kfz, kga, kgb, kgc, kgd, kge, kgf, kgg, kgh, kgi, kgj, kgk, kgl, kgm, kgn, kgo, kgp, kgq, kgr, kgs, kgt, kgu, kgv, kgw, kgx, kgy, kgz, kha, khb, khc, khd, eqP_nn]
  exact ⟨_, rfl, ⟨_, (List.append_nil _).symm⟩, .tup2 (.closed rfl) (.closed rfl), h⟩
theorem getN_s (h : R (.ret (.tuple #[.int .i64 0, .bool false])) H) : WD T 30 [.pointer none, .string (bs ks)] H R := by
  refine WD.gc0 (WD.of follows t30 (by simp) ?_)
  simp (disch := omega) only [kaa, kab, kac, kad, khm, khn, kho, khp, khq, khr, kae, kaf, kag, kah, kai, kaj, kak, kal, kam, kan, kao, khe, khf, khg, khh, khi, khj, khk, khl, kap, kaq, kar, kas, kat, kau, kav, kaw, kax, kay, kaz, kba, kbb, kbc, kbd, kbe, kbf, kbg, kbh, kbi, kbj, kbk, kbl, kbm, kbn, kbo, kbp, kbq, kbr, kbs, kbt, kbu, kbv, kbw, kbx, kby, kbz, kca, kcb, kcc, kcd, kce, kcf, kcg, kch, kci, kcj, kck, kcl, kcm, aop, kcn, kco, kcp, kcq, kcr, kcs, kct, kcu, kcv, kcw, resultsL, resultOf, kcx, Nat.reduceEqDiff, kcy, kcz, kda, reduceCtorEq, kdb, kdc, kdd, kde, kdf, kdg, kdh, kdi, kdj, kdk, kdl, kdm, kdn, kdo, eq1, kdp, kdq, kdr, kds, kdt, kdu, kdv, kdw, kdx, kdy, kdz, kea, keb, kec, apartOK, apart2, AObj.live, ked, kee, kef, keg, keh, kei, kej, kek, kel, Int.reduceEq, Int.reduceLT, Int.reduceLE, Int.reduceAdd, Int.reduceSub, Int.reduceMul, Int.reduceToNat, kem, ken, keo, kep, keq, ker, kes, ket, keu, kev, kew, kex, key, kez, kfa, kfb, kfc, kfd, kfe, kff, kfg, kfh, kfi, kfj, kfk, kfl, cutCells, kfm, kfn, kfo, kfp, kfq, kfr, kfs, kft, kfu, kfv, kfw, kfx, kfy, Nat.reduceAdd, Nat.reduceLeDiff, Nat.reduceLT, Nat.reduceMul, Nat.reduceSub, kfz, kga, kgb, kgc, kgd, kge, kgf, kgg, kgh, kgi, kgj, kgk, kgl, kgm, kgn, kgo, kgp, kgq, kgr, kgs, kgt, kgu, kgv, kgw, kgx, kgy, kgz, kha, khb, khc, khd, eqP_nn]
  exact ⟨_, rfl, ⟨_, (List.append_nil _).symm⟩, .tup2 (.closed rfl) (.closed rfl), h⟩
theorem clearN_s (h : R (.ret (.tuple #[])) H) : WD T 31 [.pointer none] H R := by
  refine WD.of follows t31 (by simp) ?_
  simp (disch := omega) only [kaa, kab, kac, kad, khm, khn, kho, khp, khq, khr, kae, kaf, kag, kah, kai, kaj, kak, kal, kam, kan, kao, khe, khf, khg, khh, khi, khj, khk, khl, kap, kaq, kar, kas, kat, kau, kav, kaw, kax, kay, kaz, kba, kbb, kbc, kbd, kbe, kbf, kbg, kbh, kbi, kbj, kbk, kbl, kbm, kbn, kbo, kbp, kbq, kbr, kbs, kbt, kbu, kbv, kbw, kbx, kby, kbz, kca, kcb, kcc, kcd, kce, kcf, kcg, kch, kci, kcj, kck, kcl, kcm, aop, kcn, kco, kcp, kcq, kcr, kcs, kct, kcu, kcv, kcw, resultsL, resultOf, kcx, Nat.reduceEqDiff, kcy, kcz, kda, reduceCtorEq, kdb, kdc, kdd, kde, kdf, kdg, kdh, kdi, kdj, kdk, kdl, kdm, kdn, kdo, eq1, kdp, kdq, kdr, kds, kdt, kdu, kdv, kdw, kdx, kdy, kdz, kea, keb, kec, apartOK, apart2, AObj.live, ked, kee, kef, keg, keh, kei, kej, kek, kel, Int.reduceEq, Int.reduceLT, Int.reduceLE, Int.reduceAdd, Int.reduceSub, Int.reduceMul, Int.reduceToNat, kem, ken, keo, kep, keq, ker, kes, ket, keu, kev, kew, kex, key, kez, kfa, kfb, kfc, kfd, kfe, kff, kfg, kfh, kfi, kfj, kfk, kfl, cutCells, kfm, kfn, kfo, kfp, kfq, kfr, kfs, kft, kfu, kfv, kfw, kfx, kfy, Nat.reduceAdd, Nat.reduceLeDiff, Nat.reduceLT, Nat.reduceMul, Nat.reduceSub, kfz, kga, kgb, kgc, kgd, kge, kgf, kgg, kgh, kgi, kgj, kgk, kgl, kgm, kgn, kgo, kgp, kgq, kgr, kgs, kgt, kgu, kgv, kgw, kgx, kgy, kgz, kha, khb, khc, khd, eqP_nn]
  exact h
theorem copyN_s (h : R (.ret (.pointer none)) H) : WD T 32 [.pointer none] H R := by
  refine WD.of follows t32 (by simp) ?_
  simp (disch := omega) only [kaa, kab, kac, kad, khm, khn, kho, khp, khq, khr, kae, kaf, kag, kah, kai, kaj, kak, kal, kam, kan, kao, khe, khf, khg, khh, khi, khj, khk, khl, kap, kaq, kar, kas, kat, kau, kav, kaw, kax, kay, kaz, kba, kbb, kbc, kbd, kbe, kbf, kbg, kbh, kbi, kbj, kbk, kbl, kbm, kbn, kbo, kbp, kbq, kbr, kbs, kbt, kbu, kbv, kbw, kbx, kby, kbz, kca, kcb, kcc, kcd, kce, kcf, kcg, kch, kci, kcj, kck, kcl, kcm, aop, kcn, kco, kcp, kcq, kcr, kcs, kct, kcu, kcv, kcw, resultsL, resultOf, kcx, Nat.reduceEqDiff, kcy, kcz, kda, reduceCtorEq, kdb, kdc, kdd, kde, kdf, kdg, kdh, kdi, kdj, kdk, kdl, kdm, kdn, kdo, eq1, kdp, kdq, kdr, kds, kdt, kdu, kdv, kdw, kdx, kdy, kdz, kea, keb, kec, apartOK, apart2, AObj.live, ked, kee, kef, keg, keh, kei, kej, kek, kel, Int.reduceEq, Int.reduceLT, Int.reduceLE, Int.reduceAdd, Int.reduceSub, Int.reduceMul, Int.reduceToNat, kem, ken, keo, kep, keq, ker, kes, ket, keu, kev, kew, kex, key, kez, kfa, kfb, kfc, kfd, kfe, kff, kfg, kfh, kfi, kfj, kfk, kfl, cutCells, kfm, kfn, kfo, kfp, kfq, kfr, kfs, kft, kfu, kfv, kfw, kfx, kfy, Nat.reduceAdd, Nat.reduceLeDiff, Nat.reduceLT, Nat.reduceMul, Nat.reduceSub, kfz, kga, kgb, kgc, kgd, kge, kgf, kgg, kgh, kgi, kgj, kgk, kgl, kgm, kgn, kgo, kgp, kgq, kgr, kgs, kgt, kgu, kgv, kgw, kgx, kgy, kgz, kha, khb, khc, khd, eqP_nn]
  exact h
theorem lenN_s (h : R (.ret (.int .i64 0)) H) : WD T 33 [.pointer none] H R := by
  refine WD.of follows t33 (by simp) ?_
  simp (disch := omega) only [kaa, kab, kac, kad, khm, khn, kho, khp, khq, khr, kae, kaf, kag, kah, kai, kaj, kak, kal, kam, kan, kao, khe, khf, khg, khh, khi, khj, khk, khl, kap, kaq, kar, kas, kat, kau, kav, kaw, kax, kay, kaz, kba, kbb, kbc, kbd, kbe, kbf, kbg, kbh, kbi, kbj, kbk, kbl, kbm, kbn, kbo, kbp, kbq, kbr, kbs, kbt, kbu, kbv, kbw, kbx, kby, kbz, kca, kcb, kcc, kcd, kce, kcf, kcg, kch, kci, kcj, kck, kcl, kcm, aop, kcn, kco, kcp, kcq, kcr, kcs, kct, kcu, kcv, kcw, resultsL, resultOf, kcx, Nat.reduceEqDiff, kcy, kcz, kda, reduceCtorEq, kdb, kdc, kdd, kde, kdf, kdg, kdh, kdi, kdj, kdk, kdl, kdm, kdn, kdo, eq1, kdp, kdq, kdr, kds, kdt, kdu, kdv, kdw, kdx, kdy, kdz, kea, keb, kec, apartOK, apart2, AObj.live, ked, kee, kef, keg, keh, kei, kej, kek, kel, Int.reduceEq, Int.reduceLT, Int.reduceLE, Int.reduceAdd, Int.reduceSub, Int.reduceMul, Int.reduceToNat, kem, ken, keo, kep, keq, ker, kes, ket, keu, kev, kew, kex, key, kez, kfa, kfb, kfc, kfd, kfe, kff, kfg, kfh, kfi, kfj, kfk, kfl, cutCells, kfm, kfn, kfo, kfp, kfq, kfr, kfs, kft, kfu, kfv, kfw, kfx, kfy, Nat.reduceAdd, Nat.reduceLeDiff, Nat.reduceLT, Nat.reduceMul, Nat.reduceSub, kfz, kga, kgb, kgc, kgd, kge, kgf, kgg, kgh, kgi, kgj, kgk, kgl, kgm, kgn, kgo, kgp, kgq, kgr, kgs, kgt, kgu, kgv, kgw, kgx, kgy, kgz, kha, khb, khc, khd, eqP_nn]
  exact h

/-- What All answers: an iterator over a nil map. -/
def IterN (v : Value) (H : Heap) : Prop := ∃ b, v = .func (.func 55) #[] #[.pointer (some ⟨b, 0, none⟩)] ∧ hget H b = .row [.pointer none] 0 true
theorem hget_pre {H K : Heap} {b : Nat} {cs : List Value} {u : Nat} {w : Bool} (hp : H <+: K) (h : hget H b = .row cs u w) : hget K b = .row cs u w := by
  obtain ⟨g, rfl⟩ := hp
  rw [hget_old (hget_lt h rfl)]
  exact h
theorem IterN.eq {v : Value} {H K : Heap} (h : IterN v H) : eqP K 2 v .nilFunc = some false := by
  obtain ⟨b, rfl, _⟩ := h
  rfl
theorem allN_s (h : ∀ v K, H <+: K → IterN v K → R (.ret v) K) : WD T 26 [.pointer none] H R := by
  refine WD.of follows t26 (by simp) ?_
  simp (disch := omega) only [kaa, kab, kac, kad, khm, khn, kho, khp, khq, khr, kae, kaf, kag, kah, kai, kaj, kak, kal, kam, kan, kao, khe, khf, khg, khh, khi, khj, khk, khl, kap, kaq, kar, kas, kat, kau, kav, kaw, kax, kay, kaz, kba, kbb, kbc, kbd, kbe, kbf, kbg, kbh, kbi, kbj, kbk, kbl, kbm, kbn, kbo, kbp, kbq, kbr, kbs, kbt, kbu, kbv, kbw, kbx, kby, kbz, kca, kcb, kcc, kcd, kce, kcf, kcg, kch, kci, kcj, kck, kcl, kcm, aop, kcn, kco, kcp, kcq, kcr, kcs, kct, kcu, kcv, kcw, resultsL, resultOf, kcx, Nat.reduceEqDiff, kcy, kcz, kda, reduceCtorEq, kdb, kdc, kdd, kde, kdf, kdg, kdh, kdi, kdj, kdk, kdl, kdm, kdn, kdo, eq1, kdp, kdq, kdr, kds, kdt, kdu, kdv, kdw, kdx, kdy, kdz, kea, keb, kec, apartOK, apart2, AObj.live, ked, kee, kef, keg, keh, kei, kej, kek, kel, Int.reduceEq, Int.reduceLT, Int.reduceLE, Int.reduceAdd, Int.reduceSub, Int.reduceMul, Int.reduceToNat, kem, ken, keo, kep, keq, ker, kes, ket, keu, kev, kew, kex, key, kez, kfa, kfb, kfc, kfd, kfe, kff, kfg, kfh, kfi, kfj, kfk, kfl, cutCells, kfm, kfn, kfo, kfp, kfq, kfr, kfs, kft, kfu, kfv, kfw, kfx, kfy, Nat.reduceAdd, Nat.reduceLeDiff, Nat.reduceLT, Nat.reduceMul, Nat.reduceSub, kfz, kga, kgb, kgc, kgd, kge, kgf, kgg, kgh, kgi, kgj, kgk, kgl, kgm, kgn, kgo, kgp, kgq, kgr, kgs, kgt, kgu, kgv, kgw, kgx, kgy, kgz, kha, khb, khc, khd]
  exact h _ _ ⟨_, rfl⟩ ⟨H.length, rfl, by rw [hget_base0]; rfl⟩

theorem range_nil {v : Value} (hv : IterN v H) {ps : List Nat} {cz bd : ACode} {e : Env} {Q : Post} (h : Q .norm e (H ++ [.dead])) : WRange T v ps cz bd e H Q := by
  obtain ⟨b, rfl, hb⟩ := hv
  refine WRange.of t55 ?_
  have lb := hget_lt hb rfl
  refine WD.of follows t55 (by simp) ?_
  have hb2 : hget (H ++ [.loop T.P T.G .ready none e ps cz bd]) b = .row [.pointer none] 0 true := by rw [hget_old lb]; exact hb
  simp (disch := omega) only [kaa, kab, kac, kad, khm, khn, kho, khp, khq, khr, kae, kaf, kag, kah, kai, kaj, kak, kal, kam, kan, kao, khe, khf, khg, khh, khi, khj, khk, khl, kap, kaq, kar, kas, kat, kau, kav, kaw, kax, kay, kaz, kba, kbb, kbc, kbd, kbe, kbf, kbg, kbh, kbi, kbj, kbk, kbl, kbm, kbn, kbo, kbp, kbq, kbr, kbs, kbt, kbu, kbv, kbw, kbx, kby, kbz, kca, kcb, kcc, kcd, kce, kcf, kcg, kch, kci, kcj, kck, kcl, kcm, aop, kcn, kco, kcp, kcq, kcr, kcs, kct, kcu, kcv, kcw, resultsL, resultOf, kcx, Nat.reduceEqDiff, kcy, kcz, kda, reduceCtorEq, kdb, kdc, kdd, kde, kdf, kdg, kdh, kdi, kdj, kdk, kdl, kdm, kdn, kdo, eq1, kdp, kdq, kdr, kds, kdt, kdu, kdv, kdw, kdx, kdy, kdz, kea, keb, kec, apartOK, apart2, AObj.live, ked, kee, kef, keg, keh, kei, kej, kek, kel, Int.reduceEq, Int.reduceLT, Int.reduceLE, Int.reduceAdd, Int.reduceSub, Int.reduceMul, Int.reduceToNat, kem, ken, keo, kep, keq, ker, kes, ket, keu, kev, kew, kex, key, kez, kfa, kfb, kfc, kfd, kfe, kff, kfg, kfh, kfi, kfj, kfk, kfl, cutCells, kfm, kfn, kfo, kfp, kfq, kfr, kfs, kft, kfu, kfv, kfw, kfx, kfy, Nat.reduceAdd, Nat.reduceLeDiff, Nat.reduceLT, Nat.reduceMul, Nat.reduceSub, kfz, kga, kgb, kgc, kgd, kge, kgf, kgg, kgh, kgi, kgj, kgk, kgl, kgm, kgn, kgo, kgp, kgq, kgr, kgs, kgt, kgu, kgv, kgw, kgx, kgy, kgz, kha, khb, khc, khd, hb2, eqP_nn]
  refine rangeK_of (st := .ready) (pe := none) (by simp) ?_ (hget_last _ _)
  simp only [set_last]
  exact h

theorem nil_w : WD T 5 [.string (bs ks), .int .i64 v] H0 (fun r _ => r = .ret (.bool true)) := by
  refine WD.of follows t5 (by simp) ?_
  simp (disch := omega) only [kaa, kab, kac, kad, khm, khn, kho, khp, khq, khr, kae, kaf, kag, kah, kai, kaj, kak, kal, kam, kan, kao, khe, khf, khg, khh, khi, khj, khk, khl, kap, kaq, kar, kas, kat, kau, kav, kaw, kax, kay, kaz, kba, kbb, kbc, kbd, kbe, kbf, kbg, kbh, kbi, kbj, kbk, kbl, kbm, kbn, kbo, kbp, kbq, kbr, kbs, kbt, kbu, kbv, kbw, kbx, kby, kbz, kca, kcb, kcc, kcd, kce, kcf, kcg, kch, kci, kcj, kck, kcl, kcm, aop, kcn, kco, kcp, kcq, kcr, kcs, kct, kcu, kcv, kcw, resultsL, resultOf, kcx, Nat.reduceEqDiff, kcy, kcz, kda, reduceCtorEq, kdb, kdc, kdd, kde, kdf, kdg, kdh, kdi, kdj, kdk, kdl, kdm, kdn, kdo, eq1, kdp, kdq, kdr, kds, kdt, kdu, kdv, kdw, kdx, kdy, kdz, kea, keb, kec, apartOK, apart2, AObj.live, ked, kee, kef, keg, keh, kei, kej, kek, kel, Int.reduceEq, Int.reduceLT, Int.reduceLE, Int.reduceAdd, Int.reduceSub, Int.reduceMul, Int.reduceToNat, kem, ken, keo, kep, keq, ker, kes, ket, keu, kev, kew, kex, key, kez, kfa, kfb, kfc, kfd, kfe, kff, kfg, kfh, kfi, kfj, kfk, kfl, cutCells, kfm, kfn, kfo, kfp, kfq, kfr, kfs, kft, kfu, kfv, kfw, kfx, kfy, Nat.reduceAdd, Nat.reduceLeDiff, Nat.reduceLT, Nat.reduceMul, Nat.reduceSub, kfz, kga, kgb, kgc, kgd, kge, kgf, kgg, kgh, kgi, kgj, kgk, kgl, kgm, kgn, kgo, kgp, kgq, kgr, kgs, kgt, kgu, kgv, kgw, kgx, kgy, kgz, kha, khb, khc, khd]
  refine live_s (on0.app _) ?_
  simp (disch := omega) only [kaa, kab, kac, kad, khm, khn, kho, khp, khq, khr, kae, kaf, kag, kah, kai, kaj, kak, kal, kam, kan, kao, khe, khf, khg, khh, khi, khj, khk, khl, kap, kaq, kar, kas, kat, kau, kav, kaw, kax, kay, kaz, kba, kbb, kbc, kbd, kbe, kbf, kbg, kbh, kbi, kbj, kbk, kbl, kbm, kbn, kbo, kbp, kbq, kbr, kbs, kbt, kbu, kbv, kbw, kbx, kby, kbz, kca, kcb, kcc, kcd, kce, kcf, kcg, kch, kci, kcj, kck, kcl, kcm, aop, kcn, kco, kcp, kcq, kcr, kcs, kct, kcu, kcv, kcw, resultsL, resultOf, kcx, Nat.reduceEqDiff, kcy, kcz, kda, reduceCtorEq, kdb, kdc, kdd, kde, kdf, kdg, kdh, kdi, kdj, kdk, kdl, kdm, kdn, kdo, eq1, kdp, kdq, kdr, kds, kdt, kdu, kdv, kdw, kdx, kdy, kdz, kea, keb, kec, apartOK, apart2, AObj.live, ked, kee, kef, keg, keh, kei, kej, kek, kel, Int.reduceEq, Int.reduceLT, Int.reduceLE, Int.reduceAdd, Int.reduceSub, Int.reduceMul, Int.reduceToNat, kem, ken, keo, kep, keq, ker, kes, ket, keu, kev, kew, kex, key, kez, kfa, kfb, kfc, kfd, kfe, kff, kfg, kfh, kfi, kfj, kfk, kfl, cutCells, kfm, kfn, kfo, kfp, kfq, kfr, kfs, kft, kfu, kfv, kfw, kfx, kfy, Nat.reduceAdd, Nat.reduceLeDiff, Nat.reduceLT, Nat.reduceMul, Nat.reduceSub, kfz, kga, kgb, kgc, kgd, kge, kgf, kgg, kgh, kgi, kgj, kgk, kgl, kgm, kgn, kgo, kgp, kgq, kgr, kgs, kgt, kgu, kgv, kgw, kgx, kgy, kgz, kha, khb, khc, khd]
  (repeat ((first | refine putN_s ?_ | refine setN_s ?_ | refine dropN_s ?_ | refine getN_s ?_ | refine clearN_s ?_ | refine copyN_s ?_); try simp (disch := omega) only [kaa, kab, kac, kad, khm, khn, kho, khp, khq, khr, kae, kaf, kag, kah, kai, kaj, kak, kal, kam, kan, kao, khe, khf, khg, khh, khi, khj, khk, khl, kap, kaq, kar, kas, kat, kau, kav, kaw, kax, kay, kaz, kba, kbb, kbc, kbd, kbe, kbf, kbg, kbh, kbi, kbj, kbk, kbl, kbm, kbn, kbo, kbp, kbq, kbr, kbs, kbt, kbu, kbv, kbw, kbx, kby, kbz, kca, kcb, kcc, kcd, kce, kcf, kcg, kch, kci, kcj, kck, kcl, kcm, aop, kcn, kco, kcp, kcq, kcr, kcs, kct, kcu, kcv, kcw, resultsL, resultOf, kcx, Nat.reduceEqDiff, kcy, kcz, kda, reduceCtorEq, kdb, kdc, kdd, kde, kdf, kdg, kdh, kdi, kdj, kdk, kdl, kdm, kdn, kdo, eq1, kdp, kdq, kdr, kds, kdt, kdu, kdv, kdw, kdx, kdy, kdz, kea, keb, kec, apartOK, apart2, AObj.live, ked, kee, kef, keg, keh, kei, kej, kek, kel, Int.reduceEq, Int.reduceLT, Int.reduceLE, Int.reduceAdd, Int.reduceSub, Int.reduceMul, Int.reduceToNat, kem, ken, keo, kep, keq, ker, kes, ket, keu, kev, kew, kex, key, kez, kfa, kfb, kfc, kfd, kfe, kff, kfg, kfh, kfi, kfj, kfk, kfl, cutCells, kfm, kfn, kfo, kfp, kfq, kfr, kfs, kft, kfu, kfv, kfw, kfx, kfy, Nat.reduceAdd, Nat.reduceLeDiff, Nat.reduceLT, Nat.reduceMul, Nat.reduceSub, kfz, kga, kgb, kgc, kgd, kge, kgf, kgg, kgh, kgi, kgj, kgk, kgl, kgm, kgn, kgo, kgp, kgq, kgr, kgs, kgt, kgu, kgv, kgw, kgx, kgy, kgz, kha, khb, khc, khd, eqP_nn]))
  refine allN_s fun v1 K hp hv1 => ?_
  have h4 : hget K H0.length = .row [.bool false] 0 true := hget_pre hp (by rw [hget_base0]; rfl)
  clear hp
  have l4 := hget_lt h4 rfl
  have q1 : ∀ K, eqP K 2 v1 .nilFunc = some false := fun K => hv1.eq
  simp (disch := omega) only [kaa, kab, kac, kad, khm, khn, kho, khp, khq, khr, kae, kaf, kag, kah, kai, kaj, kak, kal, kam, kan, kao, khe, khf, khg, khh, khi, khj, khk, khl, kap, kaq, kar, kas, kat, kau, kav, kaw, kax, kay, kaz, kba, kbb, kbc, kbd, kbe, kbf, kbg, kbh, kbi, kbj, kbk, kbl, kbm, kbn, kbo, kbp, kbq, kbr, kbs, kbt, kbu, kbv, kbw, kbx, kby, kbz, kca, kcb, kcc, kcd, kce, kcf, kcg, kch, kci, kcj, kck, kcl, kcm, aop, kcn, kco, kcp, kcq, kcr, kcs, kct, kcu, kcv, kcw, resultsL, resultOf, kcx, Nat.reduceEqDiff, kcy, kcz, kda, reduceCtorEq, kdb, kdc, kdd, kde, kdf, kdg, kdh, kdi, kdj, kdk, kdl, kdm, kdn, kdo, eq1, kdp, kdq, kdr, kds, kdt, kdu, kdv, kdw, kdx, kdy, kdz, kea, keb, kec, apartOK, apart2, AObj.live, ked, kee, kef, keg, keh, kei, kej, kek, kel, Int.reduceEq, Int.reduceLT, Int.reduceLE, Int.reduceAdd, Int.reduceSub, Int.reduceMul, Int.reduceToNat, kem, ken, keo, kep, keq, ker, kes, ket, keu, kev, kew, kex, key, kez, kfa, kfb, kfc, kfd, kfe, kff, kfg, kfh, kfi, kfj, kfk, kfl, cutCells, kfm, kfn, kfo, kfp, kfq, kfr, kfs, kft, kfu, kfv, kfw, kfx, kfy, Nat.reduceAdd, Nat.reduceLeDiff, Nat.reduceLT, Nat.reduceMul, Nat.reduceSub, kfz, kga, kgb, kgc, kgd, kge, kgf, kgg, kgh, kgi, kgj, kgk, kgl, kgm, kgn, kgo, kgp, kgq, kgr, kgs, kgt, kgu, kgv, kgw, kgx, kgy, kgz, kha, khb, khc, khd, q1, h4]
  refine range_nil hv1 ?_
  simp (disch := omega) only [kaa, kab, kac, kad, khm, khn, kho, khp, khq, khr, kae, kaf, kag, kah, kai, kaj, kak, kal, kam, kan, kao, khe, khf, khg, khh, khi, khj, khk, khl, kap, kaq, kar, kas, kat, kau, kav, kaw, kax, kay, kaz, kba, kbb, kbc, kbd, kbe, kbf, kbg, kbh, kbi, kbj, kbk, kbl, kbm, kbn, kbo, kbp, kbq, kbr, kbs, kbt, kbu, kbv, kbw, kbx, kby, kbz, kca, kcb, kcc, kcd, kce, kcf, kcg, kch, kci, kcj, kck, kcl, kcm, aop, kcn, kco, kcp, kcq, kcr, kcs, kct, kcu, kcv, kcw, resultsL, resultOf, kcx, Nat.reduceEqDiff, kcy, kcz, kda, reduceCtorEq, kdb, kdc, kdd, kde, kdf, kdg, kdh, kdi, kdj, kdk, kdl, kdm, kdn, kdo, eq1, kdp, kdq, kdr, kds, kdt, kdu, kdv, kdw, kdx, kdy, kdz, kea, keb, kec, apartOK, apart2, AObj.live, ked, kee, kef, keg, keh, kei, kej, kek, kel, Int.reduceEq, Int.reduceLT, Int.reduceLE, Int.reduceAdd, Int.reduceSub, Int.reduceMul, Int.reduceToNat, kem, ken, keo, kep, keq, ker, kes, ket, keu, kev, kew, kex, key, kez, kfa, kfb, kfc, kfd, kfe, kff, kfg, kfh, kfi, kfj, kfk, kfl, cutCells, kfm, kfn, kfo, kfp, kfq, kfr, kfs, kft, kfu, kfv, kfw, kfx, kfy, Nat.reduceAdd, Nat.reduceLeDiff, Nat.reduceLT, Nat.reduceMul, Nat.reduceSub, kfz, kga, kgb, kgc, kgd, kge, kgf, kgg, kgh, kgi, kgj, kgk, kgl, kgm, kgn, kgo, kgp, kgq, kgr, kgs, kgt, kgu, kgv, kgw, kgx, kgy, kgz, kha, khb, khc, khd, h4, eqP_nn]
  have n0 : ((0 : Nat) : Int) = 0 := rfl
  (repeat ((first | refine lenN_s ?_); try simp (disch := omega) only [kaa, kab, kac, kad, khm, khn, kho, khp, khq, khr, kae, kaf, kag, kah, kai, kaj, kak, kal, kam, kan, kao, khe, khf, khg, khh, khi, khj, khk, khl, kap, kaq, kar, kas, kat, kau, kav, kaw, kax, kay, kaz, kba, kbb, kbc, kbd, kbe, kbf, kbg, kbh, kbi, kbj, kbk, kbl, kbm, kbn, kbo, kbp, kbq, kbr, kbs, kbt, kbu, kbv, kbw, kbx, kby, kbz, kca, kcb, kcc, kcd, kce, kcf, kcg, kch, kci, kcj, kck, kcl, kcm, aop, kcn, kco, kcp, kcq, kcr, kcs, kct, kcu, kcv, kcw, resultsL, resultOf, kcx, Nat.reduceEqDiff, kcy, kcz, kda, reduceCtorEq, kdb, kdc, kdd, kde, kdf, kdg, kdh, kdi, kdj, kdk, kdl, kdm, kdn, kdo, eq1, kdp, kdq, kdr, kds, kdt, kdu, kdv, kdw, kdx, kdy, kdz, kea, keb, kec, apartOK, apart2, AObj.live, ked, kee, kef, keg, keh, kei, kej, kek, kel, Int.reduceEq, Int.reduceLT, Int.reduceLE, Int.reduceAdd, Int.reduceSub, Int.reduceMul, Int.reduceToNat, kem, ken, keo, kep, keq, ker, kes, ket, keu, kev, kew, kex, key, kez, kfa, kfb, kfc, kfd, kfe, kff, kfg, kfh, kfi, kfj, kfk, kfl, cutCells, kfm, kfn, kfo, kfp, kfq, kfr, kfs, kft, kfu, kfv, kfw, kfx, kfy, Nat.reduceAdd, Nat.reduceLeDiff, Nat.reduceLT, Nat.reduceMul, Nat.reduceSub, kfz, kga, kgb, kgc, kgd, kge, kgf, kgg, kgh, kgi, kgj, kgk, kgl, kgm, kgn, kgo, kgp, kgq, kgr, kgs, kgt, kgu, kgv, kgw, kgx, kgy, kgz, kha, khb, khc, khd, eqP_nn, h4, hget_oldS, hget_set']))

end Go.Proofs.Ytbiehhddmcgfaaa.Ev

/- A law's arguments as its row reads them: rows of cells that nothing writes, and what stands in them. Conditions: none. -/
namespace Go.Proofs.Ytbiehhddmcgfaaa.Ev
open Go.RowKit Go.ChangeShapes Go.WideShapes

/-- What data stands in some cells. -/
inductive Rep (P : Program) (H : Heap) {X : Type} : TypeId → DataW X → List Value → Prop where
  | bool {t : TypeId} (b : Bool) (hu : P.underlying t = some .bool) : Rep P H t (.lit (.bool b)) [.bool b]
  | int {t : TypeId} (k : IntKind) (n : Int) (hu : P.underlying t = some (.int k)) (hw : (Lit.int k n).wf = true) : Rep P H t (.lit (.int k n)) [.int k n]
  | str {t : TypeId} (l : List UInt8) (hu : P.underlying t = some .string) (hl : l.length ≤ maxLen) : Rep P H t (.lit (.string l)) [.string (bs l)]
  | struct {t : TypeId} {fs : Array Field} {ds : List (DataW X)} {ass : List (List Value)} (hu : P.underlying t = some (.struct fs)) (h1 : ds.length = fs.size) (h2 : ass.length = fs.size)
      (h : ∀ (i : Nat) (f : Field) (d : DataW X) (cz : List Value), fs[i]? = some f → ds[i]? = some d → ass[i]? = some cz → Rep P H f.type d cz)
      (hl : ∀ (i : Nat) (f : Field) (cz : List Value), fs[i]? = some f → ass[i]? = some cz → cz.length = P.cellsOf f.type) : Rep P H t (.agg ds) ass.flatten
  | nilS {t e : TypeId} (hu : P.underlying t = some (.slice e)) : Rep P H t .nil [.slice none 0 0]
  | empty {t e : TypeId} {sp : List (DataW X)} (hu : P.underlying t = some (.slice e)) : Rep P H t (.slice [] sp) [.slice (some ⟨0, 0, some 0⟩) 0 0]
  | slice {t e : TypeId} {b : Nat} {ds sp : List (DataW X)} {ass : List (List Value)} (hu : P.underlying t = some (.slice e)) (hne : ds ≠ []) (hb : hget H b = .row ass.flatten 0 false) (h2 : ass.length = ds.length)
      (h : ∀ (i : Nat) (d : DataW X) (cz : List Value), ds[i]? = some d → ass[i]? = some cz → Rep P H e d cz)
      (hl : ∀ (i : Nat) (cz : List Value), ass[i]? = some cz → cz.length = P.cellsOf e) : Rep P H t (.slice ds sp) [.slice (some ⟨b, 0, none⟩) ds.length ds.length]

theorem Rep.mono {P : Program} {H g : Heap} {X : Type} {t : TypeId} {d : DataW X} {cz : List Value} (h : Rep P H t d cz) : Rep P (H ++ g) t d cz := by
  induction h with
  | bool b hu => exact .bool b hu
  | int k n hu hw => exact .int k n hu hw
  | str l hu hl => exact .str l hu hl
  | struct hu h1 h2 h hl ih => exact .struct hu h1 h2 ih hl
  | nilS hu => exact .nilS hu
  | empty hu => exact .empty hu
  | slice hu hne hb h2 h hl ih => exact .slice hu hne (by rw [hget_old (hget_lt hb rfl)]; exact hb) h2 ih hl

/-- A set of types of plain data: numbers, texts, structs and lists of them. -/
def plainSet (P : Program) (L : List TypeId) : Bool := L.all fun t => decide (t < P.types.size) && match P.underlying t with
  | some .bool | some (.int _) | some .string => true
  | some (.struct fs) => fs.toList.all fun f => L.contains f.type
  | some (.slice e) => L.contains e && decide (0 < P.cellsOf e)
  | _ => false

def chunks : List Nat → List Value → List (List Value)
  | [], _ => []
  | n :: ns, cs => cs.take n :: chunks ns (cs.drop n)

theorem chunks_flat : ∀ (ns : List Nat) (cs : List Value), cs.length = ns.sum → (chunks ns cs).flatten = cs
  | [], cs, h => by simp at h; simp [chunks, h]
  | n :: ns, cs, h => by
    rw [chunks, List.flatten_cons, chunks_flat ns _ (by simp at h ⊢; omega), List.take_append_drop]

theorem chunks_len : ∀ (ns : List Nat) (cs : List Value), (chunks ns cs).length = ns.length
  | [], _ => rfl
  | n :: ns, cs => by rw [chunks, List.length_cons, List.length_cons, chunks_len ns]

theorem chunks_get : ∀ (ns : List Nat) (cs : List Value) (j n : Nat), ns[j]? = some n → (chunks ns cs)[j]? = some ((cs.drop (ns.take j).sum).take n)
  | [], _, j, n, h => by simp at h
  | m :: ns, cs, 0, n, h => by simp at h; simp [chunks, h]
  | m :: ns, cs, j + 1, n, h => by
    have h' : ns[j]? = some n := by simpa using h
    have := chunks_get ns (cs.drop m) j n h'
    simp only [chunks, List.getElem?_cons_succ, List.take_succ_cons, List.sum_cons]
    rw [this, List.drop_drop]

theorem VL.flat {n : Nat} {ρ : Nat → Place} : ∀ (xss yss : List (List Value)), xss.length = yss.length → (∀ (i : Nat) (xs ys : List Value), xss[i]? = some xs → yss[i]? = some ys → VL n ρ xs ys) → VL n ρ xss.flatten yss.flatten
  | [], [], _, _ => VL.nil
  | [], _ :: _, h, _ => by simp at h
  | _ :: _, [], h, _ => by simp at h
  | xs :: xss, ys :: yss, h, hh => by
    rw [List.flatten_cons, List.flatten_cons]
    exact (hh 0 xs ys rfl rfl).append (VL.flat xss yss (by simpa using h) fun i a b ha hb => hh (i + 1) a b (by simpa using ha) (by simpa using hb))

section
variable {X : Type} {enc : TypeId × Value → X} {P : Program} {G : Nat} {W : World} {base : Nat} {sp : Nat → Bool} {held : Bool} {L : List TypeId}

/-- Some cells can be told in a heap of the evaluator's. -/
def Opens (P : Program) (G : Nat) (W : World) (t : TypeId) (cs : List Value) (d : DataW X) : Prop :=
  ∀ (H : Heap) (ρ : Nat → Place), (∀ o ∈ H, o.wrt = false) → Rel G ρ H W → ∃ (g : Heap) (ρ' : Nat → Place) (cz : List Value), Rel G ρ' (H ++ g) W ∧ (∀ b, b < H.length → ρ' b = ρ b) ∧ (∀ o ∈ g, ∃ c, o = .row c 0 false) ∧ VL (H ++ g).length ρ' cz cs ∧ Rep P (H ++ g) t d cz

theorem ro_app {H g : Heap} (h : ∀ o ∈ H, o.wrt = false) (hg : ∀ o ∈ g, ∃ c, o = .row c 0 false) : ∀ o ∈ H ++ g, o.wrt = false := fun o ho => by
  rcases List.mem_append.1 ho with ho | ho
  · exact h o ho
  · obtain ⟨c, rfl⟩ := hg o ho; rfl

theorem opens_list : ∀ (l : List (TypeId × List Value × DataW X)), (∀ q ∈ l, Opens P G W q.1 q.2.1 q.2.2) → ∀ (H : Heap) (ρ : Nat → Place), (∀ o ∈ H, o.wrt = false) → Rel G ρ H W →
    ∃ (g : Heap) (ρ' : Nat → Place) (ass : List (List Value)), Rel G ρ' (H ++ g) W ∧ (∀ b, b < H.length → ρ' b = ρ b) ∧ (∀ o ∈ g, ∃ c, o = .row c 0 false) ∧ ass.length = l.length ∧
      ∀ (i : Nat) (q : TypeId × List Value × DataW X) (cz : List Value), l[i]? = some q → ass[i]? = some cz → VL (H ++ g).length ρ' cz q.2.1 ∧ Rep P (H ++ g) q.1 q.2.2 cz
  | [], _, H, ρ, _, hr => ⟨[], ρ, [], by simpa using hr, fun _ _ => rfl, fun o ho => (by cases ho), rfl, fun i q cz h => by simp at h⟩
  | q :: l, h, H, ρ, hro, hr => by
    obtain ⟨g, ρ1, cz, hr1, hs1, hg1, hv1, hp1⟩ := h q (by simp) H ρ hro hr
    obtain ⟨g2, ρ2, ass, hr2, hs2, hg2, hl2, hh⟩ := opens_list l (fun q hq => h q (by simp [hq])) (H ++ g) ρ1 (ro_app hro hg1) hr1
    rw [List.append_assoc] at hr2 hh
    refine ⟨g ++ g2, ρ2, cz :: ass, hr2, fun b hb => (hs2 b (by simp; omega)).trans (hs1 b hb), fun o ho => ?_, by simp [hl2], fun i q' cz' hq has => ?_⟩
    · rcases List.mem_append.1 ho with ho | ho
      · exact hg1 o ho
      · exact hg2 o ho
    · cases i with
      | zero =>
        simp at hq has
        subst hq; subst has
        refine ⟨hv1.mono (by simp) hs2, ?_⟩
        rw [← List.append_assoc]
        exact hp1.mono
      | succ i => exact hh i q' cz' (by simpa using hq) (by simpa using has)

theorem mem_plain (hP : plainSet P L = true) {t : TypeId} (ht : L.contains t = true) : (decide (t < P.types.size) && (match P.underlying t with
    | some .bool | some (.int _) | some .string => true
    | some (.struct fs) => fs.toList.all fun f => L.contains f.type
    | some (.slice e) => L.contains e && decide (0 < P.cellsOf e)
    | _ => false)) = true := by
  unfold plainSet at hP
  exact List.all_eq_true.1 hP t (List.contains_iff_mem.1 ht)

theorem flat_get {c : Nat} (hc : 0 < c) : ∀ (css : List (List Value)) (k j : Nat) (cs : List Value), (∀ (i : Nat) (cz : List Value), css[i]? = some cz → cz.length = c) → css[k]? = some cs → j < c → css.flatten[k * c + j]? = cs[j]?
  | [], k, j, cs, _, h, _ => by simp at h
  | a :: css, 0, j, cs, hl, h, hj => by
    have h1 := hl 0 a rfl
    simp at h
    subst h
    rw [List.flatten_cons, Nat.zero_mul, Nat.zero_add, List.getElem?_append_left (by omega)]
  | a :: css, k + 1, j, cs, hl, h, hj => by
    have h1 := hl 0 a rfl
    have := flat_get hc css k j cs (fun i cz hi => hl (i + 1) cz (by simpa using hi)) (by simpa using h) hj
    rw [List.flatten_cons, List.getElem?_append_right (by rw [h1, Nat.add_mul]; omega), h1, show (k + 1) * c + j - c = k * c + j by rw [Nat.add_mul]; omega]
    exact this

theorem flat_len {c : Nat} : ∀ (css : List (List Value)), (∀ (i : Nat) (cz : List Value), css[i]? = some cz → cz.length = c) → css.flatten.length = css.length * c
  | [], _ => by simp
  | a :: css, hl => by
    rw [List.flatten_cons, List.length_append, hl 0 a rfl, flat_len css (fun i cz hi => hl (i + 1) cz (by simpa using hi)), List.length_cons, Nat.add_mul]
    omega

/-- A row that nothing writes, new in the evaluator's heap. -/
theorem rel_row {H : Heap} {ρ : Nat → Place} (hro : ∀ o ∈ H, o.wrt = false) (hr : Rel G ρ H W) {a : Addr} {cs : List Value} {cells : Array Value} {t : TypeId} {fr : Nat × Nat} {ext0 : Nat} (hh : W.heap[a.block]? = some (.cells cells t fr))
    (hc : ∀ (i : Nat) (v : Value), cs[i]? = some v → ∃ v', cells[a.off + i]? = some v' ∧ VR H.length ρ v v') : Rel G (ext ρ H.length ⟨a.block, a.off, ext0⟩) (H ++ [.row cs 0 false]) W := by
  have cases_ : ∀ b u, (H ++ [AObj.row cs 0 false])[b]? = some u → (b < H.length ∧ H[b]? = some u) ∨ (b = H.length ∧ u = .row cs 0 false) := fun b u h => by
    by_cases hb : b < H.length
    · rw [List.getElem?_append_left hb] at h; exact .inl ⟨hb, h⟩
    · rw [List.getElem?_append_right (by omega)] at h
      obtain ⟨h1, h2⟩ := List.getElem?_eq_some_iff.1 h
      simp at h1
      have : b = H.length := by omega
      subst this
      simp at h2
      exact .inr ⟨rfl, h2.symm⟩
  have hlen : (H ++ [AObj.row cs 0 false]).length = H.length + 1 := by simp
  refine ⟨fun b u hu => ?_, fun b c u v hu hv hne hw hl => ?_, fun g hg => ?_, by rw [hlen]; have := hr.many; omega⟩
  · rcases cases_ b u hu with ⟨hb, hu⟩ | ⟨rfl, rfl⟩
    · exact (hr.obj b u hu).mono (by omega) (ext_lt hb) (fun c hc => ext_lt hc) (fun _ => rfl)
    · rw [OR, ext_same]
      refine ⟨cells, t, fr, hh, fun i v hi => ?_, fun h => by cases h⟩
      obtain ⟨v', h1, h2⟩ := hc i v hi
      exact ⟨v', h1, h2.mono (by omega) fun b hb => ext_lt hb⟩
  · rcases cases_ b u hu with ⟨hb, hu2⟩ | ⟨rfl, rfl⟩
    · rw [hro u (List.mem_of_getElem? hu2)] at hw
      cases hw
    · cases hw
  · rw [ext_lt (Nat.lt_of_lt_of_le hg hr.many)]; exact hr.glob g hg

theorem opens_trod (hl : laidOutB P = true) (hm : mapsRowed P = true) (hP : plainSet P L = true) : ∀ (n : Nat) (t : TypeId) (cs : List Value) (x : DataW X × List MemPlace), L.contains t = true →
    DataW.trod enc P W base (fun _ => true) held n t cs = some x → Opens P G W t cs x.1 := by
  intro n
  induction n with
  | zero => intro t cs x _ h; simp [DataW.trod] at h
  | succ n ih =>
    intro t cs x ht h
    have hk := mem_plain hP ht
    simp only [Bool.and_eq_true, decide_eq_true_eq] at hk
    obtain ⟨htp, hk⟩ := hk
    have K := kids_rows hl hm
    intro H ρ hro hr
    split at hk
    · rename_i hu
      obtain ⟨b, rfl, rfl⟩ := DataW.trod_bool hu h
      exact ⟨[], ρ, [.bool b], by simpa using hr, fun _ _ => rfl, fun o ho => (by cases ho), VL.cons (.bool b) VL.nil, .bool b hu⟩
    · rename_i k hu
      obtain ⟨m, rfl, rfl, hw⟩ := DataW.trod_int hu h
      exact ⟨[], ρ, [.int k m], by simpa using hr, fun _ _ => rfl, fun o ho => (by cases ho), VL.cons (.int k m) VL.nil, .int k m hu hw⟩
    · rename_i hu
      obtain ⟨s, rfl, rfl, hs⟩ := DataW.trod_string hu h
      exact ⟨[], ρ, [.string s], by simpa using hr, fun _ _ => rfl, fun o ho => (by cases ho), VL.cons (.string s) VL.nil, .str s.data.toList hu (by simpa using hs)⟩
    · rename_i fs hu
      obtain ⟨xs, m, hm1, rfl, hlen, hxl, hf⟩ := DataW.trod_struct hu h
      cases hm1
      obtain ⟨_, hsum, hoff⟩ := K.struct htp hu
      -- the fields, one by one
      have hget : ∀ (i : Nat) (f : Field) (y : DataW X × List MemPlace), fs[i]? = some f → xs[i]? = some y → DataW.trod enc P W base (fun _ => true) held n f.type ((cs.drop f.offset).take (P.cellsOf f.type)) = some y := fun i f y hfi hy => by
        rw [hf i f hfi, hy]
      let l : List (TypeId × List Value × DataW X) := (List.range fs.size).map fun i => ((fs[i]?.map (·.type)).getD 0, ((chunks (fs.toList.map fun f => P.cellsOf f.type) cs)[i]?).getD [], (xs[i]?.map (·.1)).getD .nil)
      have hl1 : ∀ i, i < fs.size → ∃ f y, fs[i]? = some f ∧ xs[i]? = some y ∧ l[i]? = some (f.type, (cs.drop f.offset).take (P.cellsOf f.type), y.1) := fun i hi => by
        have e1 : fs[i]? = some fs[i] := Array.getElem?_eq_getElem hi
        have e2 : xs[i]? = some (xs[i]'(by omega)) := List.getElem?_eq_getElem (by omega)
        refine ⟨_, _, e1, e2, ?_⟩
        have e3 : fs.toList[i]? = some fs[i] := by rw [Array.getElem?_toList]; exact e1
        have e4 := chunks_get (fs.toList.map fun f => P.cellsOf f.type) cs i (P.cellsOf fs[i].type) (by simp [hi])
        have e5 := hoff i _ e3
        rw [List.map_take] at e5
        rw [← e5] at e4
        simp only [l, List.getElem?_map, List.getElem?_range hi, Option.map_some, e1, e2, e4, Option.getD_some]
      have hlL : l.length = fs.size := by simp [l]
      obtain ⟨g, ρ', ass, hr', hs', hg', hal, hh⟩ := opens_list l (fun q hq => by
        obtain ⟨i, hi⟩ := List.getElem?_of_mem hq
        have hi2 : i < fs.size := by rw [← hlL]; exact (List.getElem?_eq_some_iff.1 hi).1
        obtain ⟨f, y, h1, h2, h3⟩ := hl1 i hi2
        rw [hi] at h3
        cases h3
        refine ih f.type _ y ?_ (hget i f y h1 h2)
        have hmem : f ∈ fs.toList := by
          have : fs.toList[i]? = some f := by simpa using h1
          exact List.mem_of_getElem? this
        exact List.all_eq_true.1 hk f hmem) H ρ hro hr
      refine ⟨g, ρ', ass.flatten, hr', hs', hg', ?_, ?_⟩
      · have hflat := chunks_flat (fs.toList.map fun f => P.cellsOf f.type) cs (by rw [hlen, hsum])
        rw [← hflat]
        refine VL.flat _ _ (by rw [hal, hlL, chunks_len]; simp) fun i a b ha hb => ?_
        have hi : i < fs.size := by rw [← hlL, ← hal]; exact (List.getElem?_eq_some_iff.1 ha).1
        obtain ⟨f, y, h1, h2, h3⟩ := hl1 i hi
        have e4 := chunks_get (fs.toList.map fun f => P.cellsOf f.type) cs i (P.cellsOf f.type) (by
          have : fs.toList[i]? = some f := by simpa using h1
          simp [this])
        have e5 := hoff i f (by simpa using h1)
        rw [List.map_take] at e5
        rw [← e5] at e4
        rw [hb] at e4
        cases e4
        exact (hh i _ a h3 ha).1
      · refine .struct hu (by simpa using hxl) (by rw [hal, hlL]) (fun i f d cz hfi hd ha => ?_) (fun i f cz hfi ha => ?_)
        · have hi : i < fs.size := (Array.getElem?_eq_some_iff.1 hfi).1
          obtain ⟨f', y, h1, h2, h3⟩ := hl1 i hi
          rw [hfi] at h1
          cases h1
          rw [List.getElem?_map, h2] at hd
          cases hd
          exact (hh i _ cz h3 ha).2
        · have hi : i < fs.size := (Array.getElem?_eq_some_iff.1 hfi).1
          obtain ⟨f', y, h1, h2, h3⟩ := hl1 i hi
          rw [hfi] at h1
          cases h1
          have := (hh i _ cz h3 ha).1.1
          rw [this]
          have e5 := hoff i f (by simpa using hfi)
          have hle : f.offset + P.cellsOf f.type ≤ cs.length := by
            rw [hlen, hsum, e5]
            have : fs.toList[i]? = some f := by simpa using hfi
            obtain ⟨h7, h8⟩ := List.getElem?_eq_some_iff.1 this
            have e6 : fs.toList = fs.toList.take i ++ f :: fs.toList.drop (i + 1) := by
              rw [← h8, ← List.drop_eq_getElem_cons h7, List.take_append_drop]
            conv => rhs; rw [e6]
            rw [List.map_append, List.sum_append, List.map_cons, List.sum_cons]
            omega
          rw [List.length_take, List.length_drop]
          omega
    · rename_i e hu
      simp only [Bool.and_eq_true, decide_eq_true_eq] at hk
      rcases DataW.trod_slice hu h with ⟨rfl, rfl⟩ | ⟨a, len, cap, elems, rest, m, hm1, rfl, rfl, hbase, hlc, hcm, hel, hge, _, _⟩
      · exact ⟨[], ρ, [.slice none 0 0], by simpa using hr, fun _ _ => rfl, fun o ho => (by cases ho), VL.cons .slNil VL.nil, .nilS hu⟩
      cases hm1
      by_cases h0 : elems = []
      · subst h0
        obtain rfl : len = 0 := by simpa using hel.symm
        exact ⟨[], ρ, [.slice (some ⟨0, 0, some 0⟩) 0 0], by simpa using hr, fun _ _ => rfl, fun o ho => (by cases ho), VL.cons (.slE 0 0 0 a cap) VL.nil, .empty hu⟩
      have hlen0 : 0 < len := by rw [← hel]; exact List.length_pos_iff.2 h0
      have hcell : ∀ i, i < len → ∃ csi y, W.cells? base (a.add (i * P.cellsOf e)) (P.cellsOf e) = some csi ∧ elems[i]? = some y ∧ DataW.trod enc P W base (fun _ => true) held n e csi = some y := fun i hi => by
        have h1 := hge i hi
        have h2 : elems[i]? = some (elems[i]'(by omega)) := List.getElem?_eq_getElem (by omega)
        rw [h2] at h1
        obtain ⟨csi, h3, h4⟩ := Option.bind_eq_some_iff.1 h1
        exact ⟨csi, _, h3, h2, h4⟩
      let css : List (List Value) := (List.range len).map fun i => (W.cells? base (a.add (i * P.cellsOf e)) (P.cellsOf e)).getD []
      have hcss : ∀ i, i < len → ∃ csi y, css[i]? = some csi ∧ W.cells? base (a.add (i * P.cellsOf e)) (P.cellsOf e) = some csi ∧ elems[i]? = some y ∧ DataW.trod enc P W base (fun _ => true) held n e csi = some y := fun i hi => by
        obtain ⟨csi, y, h1, h2, h3⟩ := hcell i hi
        exact ⟨csi, y, by simp [css, hi, h1], h1, h2, h3⟩
      have hcssL : css.length = len := by simp [css]
      let l : List (TypeId × List Value × DataW X) := (List.range len).map fun i => (e, (css[i]?).getD [], (elems[i]?.map (·.1)).getD .nil)
      have hl1 : ∀ i, i < len → ∃ csi y, css[i]? = some csi ∧ W.cells? base (a.add (i * P.cellsOf e)) (P.cellsOf e) = some csi ∧ elems[i]? = some y ∧ DataW.trod enc P W base (fun _ => true) held n e csi = some y ∧ l[i]? = some (e, csi, y.1) := fun i hi => by
        obtain ⟨csi, y, h1, h2, h3, h4⟩ := hcss i hi
        exact ⟨csi, y, h1, h2, h3, h4, by simp [l, hi, h1, h3]⟩
      have hlL : l.length = len := by simp [l]
      obtain ⟨g, ρ', ass, hr', hs', hg', hal, hh⟩ := opens_list l (fun q hq => by
        obtain ⟨i, hi⟩ := List.getElem?_of_mem hq
        have hi2 : i < len := by rw [← hlL]; exact (List.getElem?_eq_some_iff.1 hi).1
        obtain ⟨csi, y, h1, h2, h3, h4, h5⟩ := hl1 i hi2
        rw [hi] at h5
        cases h5
        exact ih e _ y hk.1 h4) H ρ hro hr
      have hasl : ∀ (i : Nat) (cz : List Value), ass[i]? = some cz → cz.length = P.cellsOf e := fun i cz ha => by
        have hi : i < len := by rw [← hlL, ← hal]; exact (List.getElem?_eq_some_iff.1 ha).1
        obtain ⟨csi, y, h1, h2, h3, h4, h5⟩ := hl1 i hi
        rw [(hh i _ cz h5 ha).1.1]
        exact (World.cells?_some h2).2.1
      -- the block itself
      obtain ⟨cs0, y0, g1, g2, _⟩ := hcell 0 hlen0
      obtain ⟨_, gl, gc⟩ := World.cells?_some g1
      have gc0 := gc 0 hk.2
      rw [Nat.zero_mul] at gc0
      have hadd : ∀ (k j : Nat), ((a.add k).add j) = if k + j = 0 then a else ⟨a.block, a.off + (k + j), none⟩ := fun k j => by
        unfold Addr.add
        by_cases hk0 : k = 0
        · subst hk0
          by_cases hj0 : j = 0
          · subst hj0; rfl
          · simp [hj0]
        · by_cases hj0 : j = 0
          · subst hj0; simp [hk0]
          · simp only [if_neg hk0, if_neg hj0, if_neg (show ¬ k + j = 0 by omega), Nat.add_assoc]
      have hblk : ∃ cells ty fr, W.heap[a.block]? = some (.cells cells ty fr) ∧ a.spot = none := by
        have h7 : W.cell? a = cs0[0]? := by simpa [hadd] using gc0
        have h8 : cs0[0]? = some (cs0[0]'(by omega)) := List.getElem?_eq_getElem (by omega)
        rw [h8] at h7
        unfold World.cell? at h7
        split at h7
        · rename_i c ty fr hc
          split at h7
          · cases h7
          · rename_i hsp
            exact ⟨c, ty, fr, hc, by simpa using hsp⟩
        · cases h7
      obtain ⟨cells, ty, fr, hh0, hsp⟩ := hblk
      have hcellat : ∀ (i : Nat) (v : Value), ass.flatten[i]? = some v → ∃ v', cells[a.off + i]? = some v' ∧ VR (H ++ g).length ρ' v v' := fun i v hv => by
        have hi : i < ass.flatten.length := (List.getElem?_eq_some_iff.1 hv).1
        rw [flat_len ass hasl, hal, hlL] at hi
        have hq : i / P.cellsOf e < len := (Nat.div_lt_iff_lt_mul hk.2).2 hi
        have hm2 : i % P.cellsOf e < P.cellsOf e := Nat.mod_lt _ hk.2
        have hid : i / P.cellsOf e * P.cellsOf e + i % P.cellsOf e = i := Nat.div_add_mod' i (P.cellsOf e)
        obtain ⟨csi, y, h1, h2, h3, h4, h5⟩ := hl1 _ hq
        have ha : ass[i / P.cellsOf e]? = some (ass[i / P.cellsOf e]'(by rw [hal, hlL]; exact hq)) := List.getElem?_eq_getElem _
        obtain ⟨hv1, _⟩ := hh _ _ _ h5 ha
        have hfg := flat_get hk.2 ass _ _ _ hasl ha hm2
        rw [hid, hv] at hfg
        obtain ⟨v', hv', hvr⟩ := hv1.get hfg.symm
        refine ⟨v', ?_, hvr⟩
        have h9 := (World.cells?_some h2).2.2 _ hm2
        rw [hadd, hid, hv'] at h9
        by_cases hi0 : i = 0
        · subst hi0
          simp only [if_true] at h9
          unfold World.cell? at h9
          rw [hh0, hsp] at h9
          simpa using h9
        · rw [if_neg hi0] at h9
          unfold World.cell? at h9
          simpa [hh0] using h9
      have hr2 := rel_row (a := a) (cs := ass.flatten) (ext0 := cap - len) (ro_app hro hg') hr' hh0 hcellat
      refine ⟨g ++ [.row ass.flatten 0 false], ext ρ' (H ++ g).length ⟨a.block, a.off, cap - len⟩, [.slice (some ⟨(H ++ g).length, 0, none⟩) len len], by rw [← List.append_assoc]; exact hr2, fun b hb => ?_, fun o ho => ?_, ?_, ?_⟩
      · rw [ext_lt (by rw [List.length_append]; omega)]; exact hs' b hb
      · rcases List.mem_append.1 ho with ho | ho
        · exact hg' o ho
        · rw [List.mem_singleton.1 ho]; exact ⟨_, rfl⟩
      · have := VR.sl (n := (H ++ (g ++ [AObj.row ass.flatten 0 false])).length) (ρ := ext ρ' (H ++ g).length ⟨a.block, a.off, cap - len⟩) (H ++ g).length 0 len len cap (by simp only [List.length_append, List.length_cons, List.length_nil]; omega) (Nat.le_refl _) hlc (by rw [ext_same]; show cap ≤ len + (cap - len); omega)
        rw [ext_same, Nat.add_zero] at this
        have ha2 : (⟨a.block, a.off, none⟩ : Addr) = a := by rw [← hsp]
        rw [ha2] at this
        exact VL.cons this VL.nil
      · have := Rep.slice (P := P) (H := H ++ (g ++ [AObj.row ass.flatten 0 false])) (t := t) (e := e) (b := (H ++ g).length) (ds := elems.map (·.1)) (sp := rest.map (·.1)) (ass := ass) hu (by simpa using h0) (by rw [← List.append_assoc]; exact hget_last _ _) (by rw [hal, hlL, List.length_map, hel])
          (fun i d cz hd ha => by
            have hi : i < len := by rw [← hlL, ← hal]; exact (List.getElem?_eq_some_iff.1 ha).1
            obtain ⟨csi, y, h1, h2, h3, h4, h5⟩ := hl1 i hi
            rw [List.getElem?_map, h3] at hd
            cases hd
            have := (hh i _ cz h5 ha).2
            rw [← List.append_assoc]
            exact this.mono) hasl
        rw [List.length_map, hel] at this
        exact this
    · cases hk

/-! ### The call's end -/

def slicesPos (P : Program) : Bool := (List.range P.types.size).all fun t => match P.underlying t with
  | some (.slice e) => decide (0 < P.cellsOf e)
  | _ => true

theorem args_stay {W' : World} (hl : laidOutB P = true) (hm : mapsRowed P = true) (hp : slicesPos P = true) (bel : Below W.heap.size W W') :
    ∀ {ts : List TypeId} {vs : List Value} {ds : List (DataW X)} {ps : List MemPlace}, (∀ t ∈ ts, t < P.types.size) → DataW.TrodAll enc P W 0 (fun _ => true) true ts vs ds ps →
      DataW.TrodAll enc P W' 0 (fun b => decide (b < W.heap.size)) true ts vs ds ps
  | [], vs, ds, ps, _, h => by
    obtain ⟨rfl, rfl, rfl⟩ := trodAll_nil h
    rfl
  | t :: ts, vs, ds, ps, ht, h => by
    obtain ⟨v, vs1, d, ds1, p, q, rfl, rfl, rfl, ⟨fuel, h1⟩, h2⟩ := trodAll_cons h
    have hlt := DataW.trod_lt fuel t v.cells.toList _ h1
    refine ⟨p, q, ⟨fuel, DataW.trod_stays (kids_rows hl hm) (fun {t e} htt hu => ?_) (fun h => by cases h) (ht t (by simp)) h1 (fun x hx => bel.same (hlt x hx)) (fun x hx => by simpa using hlt x hx)⟩, args_stay hl hm hp bel (fun u hu => ht u (by simp [hu])) h2, rfl⟩
    have := List.all_eq_true.1 hp t (List.mem_range.2 htt)
    simpa [hu] using this

/-! ### The call's arguments -/

/-- An argument tells some data. -/
def ArgRep (P : Program) (H : Heap) (t : TypeId) (d : DataW X) (a : Value) : Prop := ∃ cz, Rep P H t d cz ∧ (((∃ fs, P.underlying t = some (.struct fs)) ∧ a = .agg cz.toArray) ∨ cz = [a])

theorem ArgRep.mono {H g : Heap} {t : TypeId} {d : DataW X} {a : Value} (h : ArgRep P H t d a) : ArgRep P (H ++ g) t d a := by
  obtain ⟨cz, h1, h2⟩ := h
  exact ⟨cz, h1.mono, h2⟩

theorem vr_single {n : Nat} {ρ : Nat → Place} {a : Value} {v : Value} (h : VL n ρ [a] v.cells.toList) (hv : ∀ cs, v ≠ .agg cs) : VR n ρ a v := by
  have : v.cells.toList = [v] := by
    cases v <;> first | rfl | exact absurd rfl (hv _)
  rw [this] at h
  exact h.head

theorem open_args (hl : laidOutB P = true) (hm : mapsRowed P = true) (hP : plainSet P L = true) {r : Reach} {b0 : Nat} : ∀ {ts : List TypeId} {vs : List Value} {ds : List (DataW X)} {ps : List MemPlace},
    (∀ t ∈ ts, L.contains t = true) → DataW.TrodAll enc P W base (fun _ => true) held ts vs ds ps → (∀ (j : Nat) t v, ts[j]? = some t → vs[j]? = some v → Value.okWide P W r b0 t v) →
    ∀ (H : Heap) (ρ : Nat → Place), (∀ o ∈ H, o.wrt = false) → Rel G ρ H W → ∃ (g : Heap) (ρ' : Nat → Place) (avs : List Value), Rel G ρ' (H ++ g) W ∧ (∀ b, b < H.length → ρ' b = ρ b) ∧ (∀ o ∈ g, ∃ c, o = .row c 0 false) ∧
      VL (H ++ g).length ρ' avs vs ∧ avs.length = ts.length ∧ ∀ (j : Nat) t d a, ts[j]? = some t → ds[j]? = some d → avs[j]? = some a → ArgRep P (H ++ g) t d a
  | [], vs, ds, ps, _, h, _, H, ρ, hro, hr => by
    obtain ⟨rfl, rfl, rfl⟩ := trodAll_nil h
    exact ⟨[], ρ, [], by simpa using hr, fun _ _ => rfl, fun o ho => (by cases ho), VL.nil, rfl, fun j t d a h => by simp at h⟩
  | t :: ts, vs, ds, ps, hts, h, hok, H, ρ, hro, hr => by
    obtain ⟨v, vs1, d, ds1, p, q, rfl, rfl, rfl, ⟨fuel, h1⟩, h2⟩ := trodAll_cons h
    have htc := hts t (by simp)
    obtain ⟨g, ρ1, cz, hr1, hs1, hg1, hv1, hp1⟩ := opens_trod (G := G) hl hm hP fuel t _ _ htc h1 H ρ hro hr
    obtain ⟨g2, ρ2, avs, hr2, hs2, hg2, hv2, hl2, hh⟩ := open_args hl hm hP (fun u hu => hts u (by simp [hu])) h2 (fun j t v hj hv => hok (j + 1) t v (by simpa using hj) (by simpa using hv)) (H ++ g) ρ1 (ro_app hro hg1) hr1
    rw [List.append_assoc] at hr2 hh hv2
    have hval := hok 0 t v rfl rfl
    have hk := mem_plain hP htc
    simp only [Bool.and_eq_true, decide_eq_true_eq] at hk
    obtain ⟨_, hk⟩ := hk
    have single : (∀ cs, v ≠ .agg cs) → (∃ a, cz = [a]) → ∃ a, VR (H ++ g).length ρ1 a v ∧ ArgRep P (H ++ g) t d a := fun hna ⟨a, ha⟩ => by
      subst ha
      exact ⟨a, vr_single hv1 hna, [a], hp1, .inr rfl⟩
    have one : (∀ cs, v ≠ .agg cs) → ∃ a, cz = [a] := fun hna => by
      have : v.cells.toList = [v] := by
        cases v <;> first | rfl | exact absurd rfl (hna _)
      have h3 := hv1.1
      rw [this] at h3
      match cz, h3 with
      | [a], _ => exact ⟨a, rfl⟩
    have hex : ∃ a, VR (H ++ g).length ρ1 a v ∧ ArgRep P (H ++ g) t d a := by
      split at hk
      · rename_i hu
        obtain ⟨b, rfl⟩ := okWide_bool hu hval
        exact single (fun _ h => by cases h) (one fun _ h => by cases h)
      · rename_i k hu
        obtain ⟨b, rfl⟩ := okWide_int hu hval
        exact single (fun _ h => by cases h) (one fun _ h => by cases h)
      · rename_i hu
        obtain ⟨b, rfl⟩ := okWide_string hu hval
        exact single (fun _ h => by cases h) (one fun _ h => by cases h)
      · rename_i fs hu
        obtain ⟨cs, rfl, _⟩ := okWide_struct hu hval
        refine ⟨.agg cz.toArray, ?_, cz, hp1, .inl ⟨⟨fs, hu⟩, rfl⟩⟩
        have := hv1.agg
        simpa [Value.cells] using this
      · rename_i e hu
        obtain ⟨a, l, c, rfl⟩ := okWide_slice hu hval
        exact single (fun _ h => by cases h) (one fun _ h => by cases h)
      · cases hk
    obtain ⟨a, ha1, ha2⟩ := hex
    refine ⟨g ++ g2, ρ2, a :: avs, hr2, fun b hb => (hs2 b (by simp; omega)).trans (hs1 b hb), fun o ho => ?_, VL.cons (ha1.mono (by simp) hs2) hv2, by simp [hl2], fun j t' d' a' hj hd ha => ?_⟩
    · rcases List.mem_append.1 ho with ho | ho
      · exact hg1 o ho
      · exact hg2 o ho
    · cases j with
      | zero =>
        simp at hj hd ha
        subst hj; subst hd; subst ha
        rw [← List.append_assoc]
        exact ha2.mono
      | succ j => exact hh j t' d' a' (by simpa using hj) (by simpa using hd) (by simpa using ha)

/-! ### What an argument is -/

theorem Rep.inv_int {H : Heap} {t : TypeId} {k : IntKind} {d : DataW X} {cz : List Value} (hu : P.underlying t = some (.int k)) (h : Rep P H t d cz) : ∃ n, d = .lit (.int k n) ∧ cz = [.int k n] ∧ (Lit.int k n).wf = true := by
  cases h with
  | int k' n hu' hw => rw [hu] at hu'; cases hu'; exact ⟨n, rfl, rfl, hw⟩
  | bool b hu' => rw [hu] at hu'; cases hu'
  | str l hu' hl => rw [hu] at hu'; cases hu'
  | struct hu' => rw [hu] at hu'; cases hu'
  | nilS hu' => rw [hu] at hu'; cases hu'
  | empty hu' => rw [hu] at hu'; cases hu'
  | slice hu' => rw [hu] at hu'; cases hu'

theorem Rep.inv_bool {H : Heap} {t : TypeId} {d : DataW X} {cz : List Value} (hu : P.underlying t = some .bool) (h : Rep P H t d cz) : ∃ b, d = .lit (.bool b) ∧ cz = [.bool b] := by
  cases h with
  | int k' n hu' hw => rw [hu] at hu'; cases hu'
  | bool b hu' => exact ⟨b, rfl, rfl⟩
  | str l hu' hl => rw [hu] at hu'; cases hu'
  | struct hu' => rw [hu] at hu'; cases hu'
  | nilS hu' => rw [hu] at hu'; cases hu'
  | empty hu' => rw [hu] at hu'; cases hu'
  | slice hu' => rw [hu] at hu'; cases hu'

theorem Rep.inv_str {H : Heap} {t : TypeId} {d : DataW X} {cz : List Value} (hu : P.underlying t = some .string) (h : Rep P H t d cz) : ∃ l, d = .lit (.string l) ∧ cz = [.string (bs l)] ∧ l.length ≤ maxLen := by
  cases h with
  | int k' n hu' hw => rw [hu] at hu'; cases hu'
  | bool b hu' => rw [hu] at hu'; cases hu'
  | str l hu' hl => exact ⟨l, rfl, rfl, hl⟩
  | struct hu' => rw [hu] at hu'; cases hu'
  | nilS hu' => rw [hu] at hu'; cases hu'
  | empty hu' => rw [hu] at hu'; cases hu'
  | slice hu' => rw [hu] at hu'; cases hu'

theorem Rep.inv_struct {H : Heap} {t : TypeId} {fs : Array Field} {d : DataW X} {cz : List Value} (hu : P.underlying t = some (.struct fs)) (h : Rep P H t d cz) : ∃ (ds : List (DataW X)) (ass : List (List Value)), d = .agg ds ∧ cz = ass.flatten ∧ ds.length = fs.size ∧ ass.length = fs.size ∧
    ∀ (i : Nat) (f : Field) (d : DataW X) (cz : List Value), fs[i]? = some f → ds[i]? = some d → ass[i]? = some cz → Rep P H f.type d cz := by
  cases h with
  | int k' n hu' hw => rw [hu] at hu'; cases hu'
  | bool b hu' => rw [hu] at hu'; cases hu'
  | str l hu' hl => rw [hu] at hu'; cases hu'
  | struct hu' h1 h2 h3 h4 => rw [hu] at hu'; cases hu'; exact ⟨_, _, rfl, rfl, h1, h2, h3⟩
  | nilS hu' => rw [hu] at hu'; cases hu'
  | empty hu' => rw [hu] at hu'; cases hu'
  | slice hu' => rw [hu] at hu'; cases hu'

theorem Rep.inv_slice {H : Heap} {t e : TypeId} {d : DataW X} {cz : List Value} (hu : P.underlying t = some (.slice e)) (h : Rep P H t d cz) : (d = .nil ∧ cz = [.slice none 0 0]) ∨ (∃ sp, d = .slice [] sp ∧ cz = [.slice (some ⟨0, 0, some 0⟩) 0 0]) ∨
    ∃ (b : Nat) (ds sp : List (DataW X)) (ass : List (List Value)), d = .slice ds sp ∧ ds ≠ [] ∧ cz = [.slice (some ⟨b, 0, none⟩) ds.length ds.length] ∧ hget H b = .row ass.flatten 0 false ∧ ass.length = ds.length ∧
      (∀ (i : Nat) (d : DataW X) (cz : List Value), ds[i]? = some d → ass[i]? = some cz → Rep P H e d cz) ∧ (∀ (i : Nat) (cz : List Value), ass[i]? = some cz → cz.length = P.cellsOf e) := by
  cases h with
  | int k' n hu' hw => rw [hu] at hu'; cases hu'
  | bool b hu' => rw [hu] at hu'; cases hu'
  | str l hu' hl => rw [hu] at hu'; cases hu'
  | struct hu' => rw [hu] at hu'; cases hu'
  | nilS hu' => exact .inl ⟨rfl, rfl⟩
  | empty hu' => exact .inr (.inl ⟨_, rfl, rfl⟩)
  | slice hu' hne hb h2 h3 h4 => rw [hu] at hu'; cases hu'; exact .inr (.inr ⟨_, _, _, _, rfl, hne, rfl, hb, h2, h3, h4⟩)

/-- A struct of two fields. -/
theorem Rep.inv_two {H : Heap} {t : TypeId} {f0 f1 : Field} {d : DataW X} {cz : List Value} (hu : P.underlying t = some (.struct #[f0, f1])) (h : Rep P H t d cz) : ∃ d0 d1 a0 a1, d = .agg [d0, d1] ∧ cz = a0 ++ a1 ∧ Rep P H f0.type d0 a0 ∧ Rep P H f1.type d1 a1 := by
  obtain ⟨ds, ass, rfl, rfl, h1, h2, h3⟩ := h.inv_struct hu
  match ds, ass, h1, h2, h3 with
  | [d0, d1], [a0, a1], _, _, h3 => exact ⟨d0, d1, a0, a1, rfl, by simp, h3 0 f0 d0 a0 rfl rfl rfl, h3 1 f1 d1 a1 rfl rfl rfl⟩

/-- An unsigned number of 64 bits. -/
theorem Rep.inv_u64 {H : Heap} {t : TypeId} {d : DataW X} {cz : List Value} (hu : P.underlying t = some (.int .u64)) (h : Rep P H t d cz) : ∃ n : Nat, d = .lit (.int .u64 n) ∧ cz = [.int .u64 (n : Int)] ∧ n < 18446744073709551616 := by
  obtain ⟨n, rfl, rfl, hw⟩ := h.inv_int hu
  have hw : (0 : Int) ≤ n ∧ n ≤ 18446744073709551615 := by
    simpa [Lit.wf, IntKind.min, IntKind.max, IntKind.signed, IntKind.bits] using hw
  refine ⟨n.toNat, ?_, ?_, by omega⟩ <;> rw [Int.toNat_of_nonneg hw.1]

/-- A number of 64 bits. -/
theorem Rep.inv_i64 {H : Heap} {t : TypeId} {d : DataW X} {cz : List Value} (hu : P.underlying t = some (.int .i64)) (h : Rep P H t d cz) : ∃ n : Int, d = .lit (.int .i64 n) ∧ cz = [.int .i64 n] ∧ -9223372036854775808 ≤ n ∧ n < 9223372036854775808 := by
  obtain ⟨n, rfl, rfl, hw⟩ := h.inv_int hu
  have hw : (-9223372036854775808 : Int) ≤ n ∧ n ≤ 9223372036854775807 := by
    simpa [Lit.wf, IntKind.min, IntKind.max, IntKind.signed, IntKind.bits] using hw
  exact ⟨n, rfl, rfl, hw.1, by omega⟩

end

end Go.Proofs.Ytbiehhddmcgfaaa.Ev

/- ExactNil: a nil map: whatever the inputs, the law answers true. Conditions: none. -/
namespace Go.Proofs.Ytbiehhddmcgfaaa.Ev
open Go.ChangeShapes Go.WideShapes Go.ChangeAt Go.RowKit

theorem own : ownKnob Try.prog.godebug = none := by kernel_rfl

theorem VL.narrow {n m : Nat} {ρ ρ' : Nat → Place} {xs ys : List Value} (h : VL m ρ' xs ys) (hs : ∀ x ∈ xs, Scoped n x) (he : ∀ b, b < n → ρ' b = ρ b) : VL n ρ xs ys :=
  ⟨h.1, fun i x y hx hy => ((h.2 i x y hx hy).narrow (hs x (List.mem_of_getElem? hx))).mono (Nat.le_refl _) fun b hb => (he b hb).symm⟩

theorem int_arg {P : Program} {H : Heap} {X : Type} {t : TypeId} {d : DataW X} {a : Value} (hu : P.underlying t = some (.int .i64)) (h : ArgRep P H t d a) : ∃ n : Int, d = .lit (.int .i64 n) ∧ a = .int .i64 n := by
  obtain ⟨cs, hr, hcase⟩ := h
  obtain ⟨n, rfl, rfl, _⟩ := hr.inv_i64 hu
  rcases hcase with ⟨⟨fs, hf⟩, _⟩ | h
  · rw [hu] at hf; cases hf
  · simp at h; exact ⟨n, rfl, h.symm⟩

theorem str_arg {P : Program} {H : Heap} {X : Type} {t : TypeId} {d : DataW X} {a : Value} (hu : P.underlying t = some .string) (h : ArgRep P H t d a) : ∃ l, d = .lit (.string l) ∧ a = .string (bs l) := by
  obtain ⟨cs, hr, hcase⟩ := h
  obtain ⟨l, rfl, rfl, _⟩ := hr.inv_str hu
  rcases hcase with ⟨⟨fs, hf⟩, _⟩ | h
  · rw [hu] at hf; cases hf
  · simp at h; exact ⟨l, rfl, h.symm⟩

abbrev ρ0 : Nat → Place := fun b => ⟨b, 0, 0⟩
theorem dead0 {b : Nat} {o : AObj} (h : H0[b]? = some o) : o = .dead := by
  have := List.mem_of_getElem? h
  simpa [H0] using this
theorem rel_one (w : World) : Rel 1 ρ0 H0 w := by
  refine ⟨fun b o h => ?_, fun b c o u h _ _ hw => ?_, fun g _ => rfl, Nat.le_refl _⟩
  · obtain rfl := dead0 h
    exact trivial
  · obtain rfl := dead0 h
    cases hw
theorem rel_globs (w : World) : Rel T.G ρ0 H0 w := by
  have : T.G = 1 := by unfold T; kernel_rfl
  rw [this]
  exact rel_one w
theorem H0_ro : ∀ o ∈ H0, o.wrt = false := fun o ho => by
  have : o = .dead := by simpa [H0] using ho
  subst this
  rfl

set_option maxRecDepth 100000 in
theorem exactNil_lifted (os : Os) (started : os.Started) (H : Type) (enc : TypeId × Value → H) :
    ReturnsInHanded {} Try.checked os 5 .any (Rows.exactNilSpec.pre6 enc Try.prog Try.f5 [] false)
      (Rows.exactNilSpec.post enc Try.prog Try.f5 false true false false) := by
  refine returnsInHanded_of_change_sized (C := Try.checked) own started (by kernel_rfl) Try.func5
    (ChangeSpec.witness6 (enc := enc) (C := Try.checked) (os := os) false ⟨#[], #[.string ByteArray.empty, .int .i64 0], []⟩ 8 (by kernel_rfl) (by kernel_rfl) (by kernel_rfl) (by kernel_rfl)) ?_
  intro W base args ds gs before hval0 hW _ hsz _
  have hval : ∀ (j : Nat) t v, Try.f5.params[j]? = some t → args[j]? = some v → Value.okWide Try.prog W .any base t v := hval0
  have hW' := hW
  obtain ⟨p, q, hA0, hV, rfl, hfz, hnd⟩ := hW
  have hA : DataW.TrodAll enc Try.prog W 0 (fun _ => true) true Try.f5.params.toList args.toList ds p := hA0
  rw [Try.params5] at hA hval
  obtain ⟨rfl, rfl⟩ := trodVars_none hV
  obtain ⟨g, ρ', avs, hr, hs, hg, hvl, hlen, hrep⟩ := open_args (G := 1) (L := [9, 3]) (by kernel_rfl) (by kernel_rfl) (by kernel_rfl) (by decide) hA (fun j t v h1 h2 => hval j t v (by simpa using h1) (by simpa using h2)) H0 ρ0 H0_ro (rel_one W)
  have hA1 := hA
  obtain ⟨v0, vs0, d0, ds0, p0, q0, hargs, rfl, rfl, h0, r0⟩ := trodAll_cons hA1
  obtain ⟨v1, vs1, d1, ds1, p1, q1, rfl, rfl, rfl, h1, r1⟩ := trodAll_cons r0
  obtain ⟨rfl, rfl, rfl⟩ := trodAll_nil r1
  obtain rfl : args = #[v0, v1] := by cases args; simp_all
  match avs, hlen with
  | [a0, a1], _ =>
  obtain ⟨l, rfl, rfl⟩ := str_arg Try.underlying9 (hrep 0 9 d0 a0 rfl rfl rfl)
  obtain ⟨n, rfl, rfl⟩ := int_arg Try.underlying3 (hrep 1 3 d1 a1 rfl rfl rfl)
  refine (wd_true t5 (H := H0) (nil_w (ks := l) (v := n)) (rel_globs W) (args' := #[v0, v1]) (VL.narrow hvl (fun x hx => ?_) hs) H0_ro).mono fun e W' ⟨he, bel⟩ => ?_
  · simp only [List.mem_cons, List.not_mem_nil, or_false] at hx
    rcases hx with rfl | rfl
    · exact .string
    · exact .closed rfl
  subst he
  exact ⟨_, rfl, _, _, _, [], _, [], hW', trodAll_mk1 (shut_bool Try.underlying4 _), args_stay (by kernel_rfl) (by kernel_rfl) (by kernel_rfl) bel (by decide) hA, rfl, bel.frame _, fun h => by cases h⟩

theorem exactNil_holds : Rows.ExactNilSaid :=
  OpenClaim.holds_of_wide 5 Try.f5 rfl rfl rfl rfl rfl rfl rfl ⟨rfl, rfl, rfl, rfl, rfl⟩ rfl rfl rfl rfl rfl (by kernel_rfl) Try.func5 (by kernel_rfl)
    (of_decide_eq_true (by kernel_rfl)) (by unfold Func.isWrapper; first | (rw [if_pos (by decide +kernel)]; kernel_rfl) | (rw [if_neg (by decide +kernel)]; exact ⟨rfl, rfl⟩))
    (fun os started H enc _ => exactNil_lifted os started H enc)

#print axioms exactNil_holds
end Go.Proofs.Ytbiehhddmcgfaaa.Ev
