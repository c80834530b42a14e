/- The table of the evaluator's functions; each is what the program's own function is laid as. Conditions: none. -/
import Derived.Test.YtedemfmafdilmaaDoorEvU
import Derived.Test.YtedemfmafdilmaaDoorEvExt
import Derived.Test.YtedemfmafdilmaaDoorProg
import Derived.Test.YtedemfmafdilmaaDoorEvTab0
import Derived.Test.YtedemfmafdilmaaDoorEvTab1
namespace Go.Proofs.YtedemfmafdilmaaDoor.Ev
set_option maxRecDepth 100000
noncomputable def T : Pg := ⟨Tryd.prog, Tryd.prog.globals.size⟩
theorem follows : T.P.follows .mixedOrders = true := by kernel_rfl
theorem t3 : Laid T 3 g3 := ⟨Tryd.f3, Tryd.func3, by kernel_rfl⟩
theorem t4 : Laid T 4 g4 := ⟨Tryd.f4, Tryd.func4, by kernel_rfl⟩
theorem t5 : Laid T 5 g5 := ⟨Tryd.f5, Tryd.func5, by kernel_rfl⟩
theorem t6 : Laid T 6 g6 := ⟨Tryd.f6, Tryd.func6, by kernel_rfl⟩
theorem t8 : Laid T 8 g8 := ⟨Tryd.f8, Tryd.func8, by kernel_rfl⟩
theorem t9 : Laid T 9 g9 := ⟨Tryd.f9, Tryd.func9, by kernel_rfl⟩
theorem t10 : Laid T 10 g10 := ⟨Tryd.f10, Tryd.func10, by kernel_rfl⟩
theorem t11 : Laid T 11 g11 := ⟨Tryd.f11, Tryd.func11, by kernel_rfl⟩
theorem t12 : Laid T 12 g12 := ⟨Tryd.f12, Tryd.func12, by kernel_rfl⟩
theorem t13 : Laid T 13 g13 := ⟨Tryd.f13, Tryd.func13, by kernel_rfl⟩
theorem t14 : Laid T 14 g14 := ⟨Tryd.f14, Tryd.func14, by kernel_rfl⟩
theorem t15 : Laid T 15 g15 := ⟨Tryd.f15, Tryd.func15, by kernel_rfl⟩
theorem t17 : Laid T 17 g17 := ⟨Tryd.f17, Tryd.func17, by kernel_rfl⟩
theorem t18 : Laid T 18 g18 := ⟨Tryd.f18, Tryd.func18, by kernel_rfl⟩
theorem t19 : Laid T 19 g19 := ⟨Tryd.f19, Tryd.func19, by kernel_rfl⟩
theorem t20 : Laid T 20 g20 := ⟨Tryd.f20, Tryd.func20, by kernel_rfl⟩
theorem t21 : Laid T 21 g21 := ⟨Tryd.f21, Tryd.func21, by kernel_rfl⟩
theorem t22 : Laid T 22 g22 := ⟨Tryd.f22, Tryd.func22, by kernel_rfl⟩
theorem t23 : Laid T 23 g23 := ⟨Tryd.f23, Tryd.func23, by kernel_rfl⟩
theorem t24 : Laid T 24 g24 := ⟨Tryd.f24, Tryd.func24, by kernel_rfl⟩
theorem t25 : Laid T 25 g25 := ⟨Tryd.f25, Tryd.func25, by kernel_rfl⟩
theorem t26 : Laid T 26 g26 := ⟨Tryd.f26, Tryd.func26, by kernel_rfl⟩
theorem t28 : Laid T 28 g28 := ⟨Tryd.f28, Tryd.func28, by kernel_rfl⟩
theorem t29 : Laid T 29 g29 := ⟨Tryd.f29, Tryd.func29, by kernel_rfl⟩
theorem t30 : Laid T 30 g30 := ⟨Tryd.f30, Tryd.func30, by kernel_rfl⟩
theorem t31 : Laid T 31 g31 := ⟨Tryd.f31, Tryd.func31, by kernel_rfl⟩
theorem t32 : Laid T 32 g32 := ⟨Tryd.f32, Tryd.func32, by kernel_rfl⟩
theorem t33 : Laid T 33 g33 := ⟨Tryd.f33, Tryd.func33, by kernel_rfl⟩
theorem t34 : Laid T 34 g34 := ⟨Tryd.f34, Tryd.func34, by kernel_rfl⟩
theorem t35 : Laid T 35 g35 := ⟨Tryd.f35, Tryd.func35, by kernel_rfl⟩
theorem t36 : Laid T 36 g36 := ⟨Tryd.f36, Tryd.func36, by kernel_rfl⟩
theorem t37 : Laid T 37 g37 := ⟨Tryd.f37, Tryd.func37, by kernel_rfl⟩
theorem t38 : Laid T 38 g38 := ⟨Tryd.f38, Tryd.func38, by kernel_rfl⟩
theorem t39 : Laid T 39 g39 := ⟨Tryd.f39, Tryd.func39, by kernel_rfl⟩
theorem t40 : Laid T 40 g40 := ⟨Tryd.f40, Tryd.func40, by kernel_rfl⟩
theorem t41 : Laid T 41 g41 := ⟨Tryd.f41, Tryd.func41, by kernel_rfl⟩
theorem t42 : Laid T 42 g42 := ⟨Tryd.f42, Tryd.func42, by kernel_rfl⟩
theorem t43 : Laid T 43 g43 := ⟨Tryd.f43, Tryd.func43, by kernel_rfl⟩
theorem t44 : Laid T 44 g44 := ⟨Tryd.f44, Tryd.func44, by kernel_rfl⟩
theorem t45 : Laid T 45 g45 := ⟨Tryd.f45, Tryd.func45, by kernel_rfl⟩
theorem t46 : Laid T 46 g46 := ⟨Tryd.f46, Tryd.func46, by kernel_rfl⟩
theorem t47 : Laid T 47 g47 := ⟨Tryd.f47, Tryd.func47, by kernel_rfl⟩
theorem t48 : Laid T 48 g48 := ⟨Tryd.f48, Tryd.func48, by kernel_rfl⟩
theorem t49 : Laid T 49 g49 := ⟨Tryd.f49, Tryd.func49, by kernel_rfl⟩
theorem t50 : Laid T 50 g50 := ⟨Tryd.f50, Tryd.func50, by kernel_rfl⟩
theorem t51 : Laid T 51 g51 := ⟨Tryd.f51, Tryd.func51, by kernel_rfl⟩
theorem t52 : Laid T 52 g52 := ⟨Tryd.f52, Tryd.func52, by kernel_rfl⟩
theorem t53 : Laid T 53 g53 := ⟨Tryd.f53, Tryd.func53, by kernel_rfl⟩
theorem t54 : Laid T 54 g54 := ⟨Tryd.f54, Tryd.func54, by kernel_rfl⟩
theorem t56 : Laid T 56 g56 := ⟨Tryd.f56, Tryd.func56, by kernel_rfl⟩
theorem t57 : Laid T 57 g57 := ⟨Tryd.f57, Tryd.func57, by kernel_rfl⟩
theorem t58 : Laid T 58 g58 := ⟨Tryd.f58, Tryd.func58, by kernel_rfl⟩
theorem t59 : Laid T 59 g59 := ⟨Tryd.f59, Tryd.func59, by kernel_rfl⟩
theorem t60 : Laid T 60 g60 := ⟨Tryd.f60, Tryd.func60, by kernel_rfl⟩
theorem t61 : Laid T 61 g61 := ⟨Tryd.f61, Tryd.func61, by kernel_rfl⟩
theorem t62 : Laid T 62 g62 := ⟨Tryd.f62, Tryd.func62, by kernel_rfl⟩
theorem t63 : Laid T 63 g63 := ⟨Tryd.f63, Tryd.func63, by kernel_rfl⟩
theorem t64 : Laid T 64 g64 := ⟨Tryd.f64, Tryd.func64, by kernel_rfl⟩
theorem t65 : Laid T 65 g65 := ⟨Tryd.f65, Tryd.func65, by kernel_rfl⟩
theorem t66 : Laid T 66 g66 := ⟨Tryd.f66, Tryd.func66, by kernel_rfl⟩
theorem t67 : Laid T 67 g67 := ⟨Tryd.f67, Tryd.func67, by kernel_rfl⟩
theorem t68 : Laid T 68 g68 := ⟨Tryd.f68, Tryd.func68, by kernel_rfl⟩
theorem t69 : Laid T 69 g69 := ⟨Tryd.f69, Tryd.func69, by kernel_rfl⟩
theorem t70 : Laid T 70 g70 := ⟨Tryd.f70, Tryd.func70, by kernel_rfl⟩
theorem t71 : Laid T 71 g71 := ⟨Tryd.f71, Tryd.func71, by kernel_rfl⟩
theorem t72 : Laid T 72 g72 := ⟨Tryd.f72, Tryd.func72, by kernel_rfl⟩
theorem t73 : Laid T 73 g73 := ⟨Tryd.f73, Tryd.func73, by kernel_rfl⟩
theorem t74 : Laid T 74 g74 := ⟨Tryd.f74, Tryd.func74, by kernel_rfl⟩
theorem t75 : Laid T 75 g75 := ⟨Tryd.f75, Tryd.func75, by kernel_rfl⟩
theorem t76 : Laid T 76 g76 := ⟨Tryd.f76, Tryd.func76, by kernel_rfl⟩
def Tab : Table := fun f =>
  match f with
  | 3 => some g3
  | 4 => some g4
  | 5 => some g5
  | 6 => some g6
  | 8 => some g8
  | 9 => some g9
  | 10 => some g10
  | 11 => some g11
  | 12 => some g12
  | 13 => some g13
  | 14 => some g14
  | 15 => some g15
  | 17 => some g17
  | 18 => some g18
  | 19 => some g19
  | 20 => some g20
  | 21 => some g21
  | 22 => some g22
  | 23 => some g23
  | 24 => some g24
  | 25 => some g25
  | 26 => some g26
  | 28 => some g28
  | 29 => some g29
  | 30 => some g30
  | 31 => some g31
  | 32 => some g32
  | 33 => some g33
  | 34 => some g34
  | 35 => some g35
  | 36 => some g36
  | 37 => some g37
  | 38 => some g38
  | 39 => some g39
  | 40 => some g40
  | 41 => some g41
  | 42 => some g42
  | 43 => some g43
  | 44 => some g44
  | 45 => some g45
  | 46 => some g46
  | 47 => some g47
  | 48 => some g48
  | 49 => some g49
  | 50 => some g50
  | 51 => some g51
  | 52 => some g52
  | 53 => some g53
  | 54 => some g54
  | 56 => some g56
  | 57 => some g57
  | 58 => some g58
  | 59 => some g59
  | 60 => some g60
  | 61 => some g61
  | 62 => some g62
  | 63 => some g63
  | 64 => some g64
  | 65 => some g65
  | 66 => some g66
  | 67 => some g67
  | 68 => some g68
  | 69 => some g69
  | 70 => some g70
  | 71 => some g71
  | 72 => some g72
  | 73 => some g73
  | 74 => some g74
  | 75 => some g75
  | 76 => some g76
  | 55 => some (.ext add64)
  | _ => none
theorem table_ok : TableOK T.P T.G Tab := by
  intro f af h
  unfold Tab at h
  split at h
  · cases h; exact t3
  · cases h; exact t4
  · cases h; exact t5
  · cases h; exact t6
  · cases h; exact t8
  · cases h; exact t9
  · cases h; exact t10
  · cases h; exact t11
  · cases h; exact t12
  · cases h; exact t13
  · cases h; exact t14
  · cases h; exact t15
  · cases h; exact t17
  · cases h; exact t18
  · cases h; exact t19
  · cases h; exact t20
  · cases h; exact t21
  · cases h; exact t22
  · cases h; exact t23
  · cases h; exact t24
  · cases h; exact t25
  · cases h; exact t26
  · cases h; exact t28
  · cases h; exact t29
  · cases h; exact t30
  · cases h; exact t31
  · cases h; exact t32
  · cases h; exact t33
  · cases h; exact t34
  · cases h; exact t35
  · cases h; exact t36
  · cases h; exact t37
  · cases h; exact t38
  · cases h; exact t39
  · cases h; exact t40
  · cases h; exact t41
  · cases h; exact t42
  · cases h; exact t43
  · cases h; exact t44
  · cases h; exact t45
  · cases h; exact t46
  · cases h; exact t47
  · cases h; exact t48
  · cases h; exact t49
  · cases h; exact t50
  · cases h; exact t51
  · cases h; exact t52
  · cases h; exact t53
  · cases h; exact t54
  · cases h; exact t56
  · cases h; exact t57
  · cases h; exact t58
  · cases h; exact t59
  · cases h; exact t60
  · cases h; exact t61
  · cases h; exact t62
  · cases h; exact t63
  · cases h; exact t64
  · cases h; exact t65
  · cases h; exact t66
  · cases h; exact t67
  · cases h; exact t68
  · cases h; exact t69
  · cases h; exact t70
  · cases h; exact t71
  · cases h; exact t72
  · cases h; exact t73
  · cases h; exact t74
  · cases h; exact t75
  · cases h; exact t76
  · cases h; exact add64_ok Tryd.func55 rfl (by kernel_rfl) (by kernel_rfl) (by kernel_rfl)
  · cases h
end Go.Proofs.YtedemfmafdilmaaDoor.Ev
