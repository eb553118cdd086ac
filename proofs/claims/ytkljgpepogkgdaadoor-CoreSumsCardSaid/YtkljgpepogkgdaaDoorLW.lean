/-
  CoreSums: what 'word' and 'does' make of the ops with three registers.
-/
import Derived.Test.YtkljgpepogkgdaaDoorGL
set_option linter.unusedVariables false
set_option linter.unusedSimpArgs false
namespace Go.Proofs.YtkljgpepogkgdaaDoor
open Go Go.Vex
set_option maxRecDepth 20000
set_option maxHeartbeats 4000000
noncomputable def I40 : FnT := [(40, fi Tryd.f40 ⟨[], 0⟩), (19, fi Tryd.f19 ⟨[], 4⟩), (42, fi Tryd.f42 ⟨[], 0⟩)]
theorem I40ok : FnsOk kit I40 := ⟨fo40 _, fo19 _, fo42 _, trivial⟩
abbrev WordIs (k : Int) (w : Int) : Prop := Spec1 kit 40 [.i .i64 (.lit k), .i .u8 (.lit 1), .i .u8 (.lit 2), .i .u8 (.lit 3)] [.glob 0 layoutsL] false (.i .u32 (.lit w)) [.glob 0 layoutsL] []
theorem word_1 : WordIs 1 71876608 := by
  refine Spec1.mk' rfl fun F => into I40ok 6 ?_
  conv => cbv
  refine OkCall.by_spec of_1 [] (by decide) (by cbv) trivial ?_
  conv => cbv
  exact LeOut.eq [0, 1] (by decide) rfl id rfl rfl
theorem word_2 : WordIs 2 138985472 := by
  refine Spec1.mk' rfl fun F => into I40ok 6 ?_
  conv => cbv
  refine OkCall.by_spec of_2 [] (by decide) (by cbv) trivial ?_
  conv => cbv
  exact LeOut.eq [0, 1] (by decide) rfl id rfl rfl
theorem word_3 : WordIs 3 206094336 := by
  refine Spec1.mk' rfl fun F => into I40ok 6 ?_
  conv => cbv
  refine OkCall.by_spec of_3 [] (by decide) (by cbv) trivial ?_
  conv => cbv
  exact LeOut.eq [0, 1] (by decide) rfl id rfl rfl
theorem word_4 : WordIs 4 273203200 := by
  refine Spec1.mk' rfl fun F => into I40ok 6 ?_
  conv => cbv
  refine OkCall.by_spec of_4 [] (by decide) (by cbv) trivial ?_
  conv => cbv
  exact LeOut.eq [0, 1] (by decide) rfl id rfl rfl
theorem word_5 : WordIs 5 340312064 := by
  refine Spec1.mk' rfl fun F => into I40ok 6 ?_
  conv => cbv
  refine OkCall.by_spec of_5 [] (by decide) (by cbv) trivial ?_
  conv => cbv
  exact LeOut.eq [0, 1] (by decide) rfl id rfl rfl
theorem word_6 : WordIs 6 407420928 := by
  refine Spec1.mk' rfl fun F => into I40ok 6 ?_
  conv => cbv
  refine OkCall.by_spec of_6 [] (by decide) (by cbv) trivial ?_
  conv => cbv
  exact LeOut.eq [0, 1] (by decide) rfl id rfl rfl
theorem word_7 : WordIs 7 474529792 := by
  refine Spec1.mk' rfl fun F => into I40ok 6 ?_
  conv => cbv
  refine OkCall.by_spec of_7 [] (by decide) (by cbv) trivial ?_
  conv => cbv
  exact LeOut.eq [0, 1] (by decide) rfl id rfl rfl
theorem word_8 : WordIs 8 541638656 := by
  refine Spec1.mk' rfl fun F => into I40ok 6 ?_
  conv => cbv
  refine OkCall.by_spec of_8 [] (by decide) (by cbv) trivial ?_
  conv => cbv
  exact LeOut.eq [0, 1] (by decide) rfl id rfl rfl
theorem word_9 : WordIs 9 608747520 := by
  refine Spec1.mk' rfl fun F => into I40ok 6 ?_
  conv => cbv
  refine OkCall.by_spec of_9 [] (by decide) (by cbv) trivial ?_
  conv => cbv
  exact LeOut.eq [0, 1] (by decide) rfl id rfl rfl
theorem word_10 : WordIs 10 675856384 := by
  refine Spec1.mk' rfl fun F => into I40ok 6 ?_
  conv => cbv
  refine OkCall.by_spec of_10 [] (by decide) (by cbv) trivial ?_
  conv => cbv
  exact LeOut.eq [0, 1] (by decide) rfl id rfl rfl
theorem word_11 : WordIs 11 742965248 := by
  refine Spec1.mk' rfl fun F => into I40ok 6 ?_
  conv => cbv
  refine OkCall.by_spec of_11 [] (by decide) (by cbv) trivial ?_
  conv => cbv
  exact LeOut.eq [0, 1] (by decide) rfl id rfl rfl
theorem word_12 : WordIs 12 810074112 := by
  refine Spec1.mk' rfl fun F => into I40ok 6 ?_
  conv => cbv
  refine OkCall.by_spec of_12 [] (by decide) (by cbv) trivial ?_
  conv => cbv
  exact LeOut.eq [0, 1] (by decide) rfl id rfl rfl
theorem word_13 : WordIs 13 877182976 := by
  refine Spec1.mk' rfl fun F => into I40ok 6 ?_
  conv => cbv
  refine OkCall.by_spec of_13 [] (by decide) (by cbv) trivial ?_
  conv => cbv
  exact LeOut.eq [0, 1] (by decide) rfl id rfl rfl
def sumR (a b : Int) : RegS := ⟨[0, 0, a, b, 0, 0, 0, 0, 0, 0, 0, 0, 0, 0, 0, 0], 0, 0, 0, false, false⟩
def sumB (w : Int) : BoardS := ⟨[w], [], [], [], 0, -1, false, [], [], [], [], 0, 0, 0, 0⟩
theorem st_1 (a b : Int) : stepF (sumR a b) (sumB 71876608) = ⟨resOk 0, ⟨[0, sumF 1 a b, a, b, 0, 0, 0, 0, 0, 0, 0, 0, 0, 0, 0, 0], 4, 0, 0, false, false⟩, ⟨[71876608], [], [], [], 0, -1, false, [102], [0], [0], [0], 1, 0, 1, 1⟩⟩ := by
  rfl
theorem st_2 (a b : Int) : stepF (sumR a b) (sumB 138985472) = ⟨resOk 0, ⟨[0, sumF 2 a b, a, b, 0, 0, 0, 0, 0, 0, 0, 0, 0, 0, 0, 0], 4, 0, 0, false, false⟩, ⟨[138985472], [], [], [], 0, -1, false, [102], [0], [0], [0], 1, 0, 1, 1⟩⟩ := by
  rfl
theorem st_3 (a b : Int) : stepF (sumR a b) (sumB 206094336) = ⟨resOk 0, ⟨[0, sumF 3 a b, a, b, 0, 0, 0, 0, 0, 0, 0, 0, 0, 0, 0, 0], 4, 0, 0, false, false⟩, ⟨[206094336], [], [], [], 0, -1, false, [102], [0], [0], [0], 1, 0, 1, 1⟩⟩ := by
  rfl
theorem st_4 (a b : Int) : stepF (sumR a b) (sumB 273203200) = ⟨resOk 0, ⟨[0, sumF 4 a b, a, b, 0, 0, 0, 0, 0, 0, 0, 0, 0, 0, 0, 0], 4, 0, 0, false, false⟩, ⟨[273203200], [], [], [], 0, -1, false, [102], [0], [0], [0], 1, 0, 1, 1⟩⟩ := by
  rfl
theorem st_5 (a b : Int) : stepF (sumR a b) (sumB 340312064) = ⟨resOk 0, ⟨[0, sumF 5 a b, a, b, 0, 0, 0, 0, 0, 0, 0, 0, 0, 0, 0, 0], 4, 0, 0, false, false⟩, ⟨[340312064], [], [], [], 0, -1, false, [102], [0], [0], [0], 1, 0, 1, 1⟩⟩ := by
  rfl
theorem st_6 (a b : Int) : stepF (sumR a b) (sumB 407420928) = ⟨resOk 0, ⟨[0, sumF 6 a b, a, b, 0, 0, 0, 0, 0, 0, 0, 0, 0, 0, 0, 0], 4, 0, 0, false, false⟩, ⟨[407420928], [], [], [], 0, -1, false, [102], [0], [0], [0], 1, 0, 1, 1⟩⟩ := by
  rfl
theorem st_7 (a b : Int) : stepF (sumR a b) (sumB 474529792) = ⟨resOk 0, ⟨[0, sumF 7 a b, a, b, 0, 0, 0, 0, 0, 0, 0, 0, 0, 0, 0, 0], 4, 0, 0, false, false⟩, ⟨[474529792], [], [], [], 0, -1, false, [102], [0], [0], [0], 1, 0, 1, 1⟩⟩ := by
  rfl
theorem st_8 (a b : Int) : stepF (sumR a b) (sumB 541638656) = ⟨resOk 0, ⟨[0, sumF 8 a b, a, b, 0, 0, 0, 0, 0, 0, 0, 0, 0, 0, 0, 0], 4, 0, 0, false, false⟩, ⟨[541638656], [], [], [], 0, -1, false, [102], [0], [0], [0], 1, 0, 1, 1⟩⟩ := by
  rfl
theorem st_9 (a b : Int) : stepF (sumR a b) (sumB 608747520) = ⟨resOk 0, ⟨[0, sumF 9 a b, a, b, 0, 0, 0, 0, 0, 0, 0, 0, 0, 0, 0, 0], 4, 0, 0, false, false⟩, ⟨[608747520], [], [], [], 0, -1, false, [102], [0], [0], [0], 1, 0, 1, 1⟩⟩ := by
  rfl
theorem st_10 (a b : Int) : stepF (sumR a b) (sumB 675856384) = ⟨resOk 0, ⟨[0, sumF 10 a b, a, b, 0, 0, 0, 0, 0, 0, 0, 0, 0, 0, 0, 0], 4, 0, 0, false, false⟩, ⟨[675856384], [], [], [], 0, -1, false, [102], [0], [0], [0], 1, 0, 1, 1⟩⟩ := by
  rfl
theorem st_11 (a b : Int) : stepF (sumR a b) (sumB 742965248) = ⟨resOk 0, ⟨[0, sumF 11 a b, a, b, 0, 0, 0, 0, 0, 0, 0, 0, 0, 0, 0, 0], 4, 0, 0, false, false⟩, ⟨[742965248], [], [], [], 0, -1, false, [102], [0], [0], [0], 1, 0, 1, 1⟩⟩ := by
  rfl
theorem st_12 (a b : Int) : stepF (sumR a b) (sumB 810074112) = ⟨resOk 0, ⟨[0, sumF 12 a b, a, b, 0, 0, 0, 0, 0, 0, 0, 0, 0, 0, 0, 0], 4, 0, 0, false, false⟩, ⟨[810074112], [], [], [], 0, -1, false, [102], [0], [0], [0], 1, 0, 1, 1⟩⟩ := by
  rfl
theorem st_13 (a b : Int) : stepF (sumR a b) (sumB 877182976) = ⟨resOk 0, ⟨[0, sumF 13 a b, a, b, 0, 0, 0, 0, 0, 0, 0, 0, 0, 0, 0, 0], 4, 0, 0, false, false⟩, ⟨[877182976], [], [], [], 0, -1, false, [102], [0], [0], [0], 1, 0, 1, 1⟩⟩ := by
  rfl
end Go.Proofs.YtkljgpepogkgdaaDoor
