/-
  The document's Apart.
-/
import Derived.Test.YtkljgpepogkgdaaDoorS5
set_option linter.unusedVariables false
set_option linter.unusedSimpArgs false
namespace Go.Proofs.YtkljgpepogkgdaaDoor
open Go Go.Vex
set_option maxRecDepth 20000
set_option maxHeartbeats 4000000
noncomputable def I88 : FnT := [(88, fi Tryd.f88 ⟨[], 0⟩)]
theorem I88ok : FnsOk kit I88 := ⟨fo88 _, trivial⟩
theorem field_26_6 {w v : Int} (h0 : 0 ≤ w) (h1 : w < 4294967296) (hv : w / 67108864 % 64 = v) : Spec1 kit 88 [.i .u32 (.ex w), .i .i64 (.lit 26), .i .i64 (.lit 6)] [] false (.i .i64 (.ex v)) [] [] := by
  refine Spec1.mk2 rfl fun F => ?_
  refine into I88ok 6 ?_
  conv => cbv
  refine LeOut.two (LeOut.mk' [0] (by decide) rfl (by decide) ?_ (by cbv))
  conv => cbv
  show v = convI .i64 (remI (shrI .u32 w 26) 64)
  have e : shrI .u32 w 26 = w / 67108864 := by
    have := shrI_u32 w 26 (by decide)
    simpa using this
  rw [e, remI_eq, Int.tmod_eq_emod_of_nonneg (by omega), convI_eq, IntWalk.i64_in _ (by omega), hv]
theorem field_22_4 {w v : Int} (h0 : 0 ≤ w) (h1 : w < 4294967296) (hv : w / 4194304 % 16 = v) : Spec1 kit 88 [.i .u32 (.ex w), .i .i64 (.lit 22), .i .i64 (.lit 4)] [] false (.i .i64 (.ex v)) [] [] := by
  refine Spec1.mk2 rfl fun F => ?_
  refine into I88ok 6 ?_
  conv => cbv
  refine LeOut.two (LeOut.mk' [0] (by decide) rfl (by decide) ?_ (by cbv))
  conv => cbv
  show v = convI .i64 (remI (shrI .u32 w 22) 16)
  have e : shrI .u32 w 22 = w / 4194304 := by
    have := shrI_u32 w 22 (by decide)
    simpa using this
  rw [e, remI_eq, Int.tmod_eq_emod_of_nonneg (by omega), convI_eq, IntWalk.i64_in _ (by omega), hv]
theorem field_18_4 {w v : Int} (h0 : 0 ≤ w) (h1 : w < 4294967296) (hv : w / 262144 % 16 = v) : Spec1 kit 88 [.i .u32 (.ex w), .i .i64 (.lit 18), .i .i64 (.lit 4)] [] false (.i .i64 (.ex v)) [] [] := by
  refine Spec1.mk2 rfl fun F => ?_
  refine into I88ok 6 ?_
  conv => cbv
  refine LeOut.two (LeOut.mk' [0] (by decide) rfl (by decide) ?_ (by cbv))
  conv => cbv
  show v = convI .i64 (remI (shrI .u32 w 18) 16)
  have e : shrI .u32 w 18 = w / 262144 := by
    have := shrI_u32 w 18 (by decide)
    simpa using this
  rw [e, remI_eq, Int.tmod_eq_emod_of_nonneg (by omega), convI_eq, IntWalk.i64_in _ (by omega), hv]
theorem field_14_4 {w v : Int} (h0 : 0 ≤ w) (h1 : w < 4294967296) (hv : w / 16384 % 16 = v) : Spec1 kit 88 [.i .u32 (.ex w), .i .i64 (.lit 14), .i .i64 (.lit 4)] [] false (.i .i64 (.ex v)) [] [] := by
  refine Spec1.mk2 rfl fun F => ?_
  refine into I88ok 6 ?_
  conv => cbv
  refine LeOut.two (LeOut.mk' [0] (by decide) rfl (by decide) ?_ (by cbv))
  conv => cbv
  show v = convI .i64 (remI (shrI .u32 w 14) 16)
  have e : shrI .u32 w 14 = w / 16384 := by
    have := shrI_u32 w 14 (by decide)
    simpa using this
  rw [e, remI_eq, Int.tmod_eq_emod_of_nonneg (by omega), convI_eq, IntWalk.i64_in _ (by omega), hv]
theorem field_0_18 {w v : Int} (h0 : 0 ≤ w) (h1 : w < 4294967296) (hv : w / 1 % 262144 = v) : Spec1 kit 88 [.i .u32 (.ex w), .i .i64 (.lit 0), .i .i64 (.lit 18)] [] false (.i .i64 (.ex v)) [] [] := by
  refine Spec1.mk2 rfl fun F => ?_
  refine into I88ok 6 ?_
  conv => cbv
  refine LeOut.two (LeOut.mk' [0] (by decide) rfl (by decide) ?_ (by cbv))
  conv => cbv
  show v = convI .i64 (remI (shrI .u32 w 0) 262144)
  have e : shrI .u32 w 0 = w / 1 := by
    have := shrI_u32 w 0 (by decide)
    simpa using this
  rw [e, remI_eq, Int.tmod_eq_emod_of_nonneg (by omega), convI_eq, IntWalk.i64_in _ (by omega), hv]
theorem field_0_22 {w v : Int} (h0 : 0 ≤ w) (h1 : w < 4294967296) (hv : w / 1 % 4194304 = v) : Spec1 kit 88 [.i .u32 (.ex w), .i .i64 (.lit 0), .i .i64 (.lit 22)] [] false (.i .i64 (.ex v)) [] [] := by
  refine Spec1.mk2 rfl fun F => ?_
  refine into I88ok 6 ?_
  conv => cbv
  refine LeOut.two (LeOut.mk' [0] (by decide) rfl (by decide) ?_ (by cbv))
  conv => cbv
  show v = convI .i64 (remI (shrI .u32 w 0) 4194304)
  have e : shrI .u32 w 0 = w / 1 := by
    have := shrI_u32 w 0 (by decide)
    simpa using this
  rw [e, remI_eq, Int.tmod_eq_emod_of_nonneg (by omega), convI_eq, IntWalk.i64_in _ (by omega), hv]
theorem field_0_14 {w v : Int} (h0 : 0 ≤ w) (h1 : w < 4294967296) (hv : w / 1 % 16384 = v) : Spec1 kit 88 [.i .u32 (.ex w), .i .i64 (.lit 0), .i .i64 (.lit 14)] [] false (.i .i64 (.ex v)) [] [] := by
  refine Spec1.mk2 rfl fun F => ?_
  refine into I88ok 6 ?_
  conv => cbv
  refine LeOut.two (LeOut.mk' [0] (by decide) rfl (by decide) ?_ (by cbv))
  conv => cbv
  show v = convI .i64 (remI (shrI .u32 w 0) 16384)
  have e : shrI .u32 w 0 = w / 1 := by
    have := shrI_u32 w 0 (by decide)
    simpa using this
  rw [e, remI_eq, Int.tmod_eq_emod_of_nonneg (by omega), convI_eq, IntWalk.i64_in _ (by omega), hv]
theorem field_0_26 {w v : Int} (h0 : 0 ≤ w) (h1 : w < 4294967296) (hv : w / 1 % 67108864 = v) : Spec1 kit 88 [.i .u32 (.ex w), .i .i64 (.lit 0), .i .i64 (.lit 26)] [] false (.i .i64 (.ex v)) [] [] := by
  refine Spec1.mk2 rfl fun F => ?_
  refine into I88ok 6 ?_
  conv => cbv
  refine LeOut.two (LeOut.mk' [0] (by decide) rfl (by decide) ?_ (by cbv))
  conv => cbv
  show v = convI .i64 (remI (shrI .u32 w 0) 67108864)
  have e : shrI .u32 w 0 = w / 1 := by
    have := shrI_u32 w 0 (by decide)
    simpa using this
  rw [e, remI_eq, Int.tmod_eq_emod_of_nonneg (by omega), convI_eq, IntWalk.i64_in _ (by omega), hv]
noncomputable def I32 : FnT := [(32, fi Tryd.f32 ⟨[10], 0⟩), (89, fi Tryd.f89 ⟨[], 0⟩)]
theorem I32ok : FnsOk kit I32 := ⟨fo32 _, fo89 _, trivial⟩
end Go.Proofs.YtkljgpepogkgdaaDoor
