/-
  isa.of, op by op.
-/
import Derived.Test.YtkljgpepogkgdaaDoorD1
set_option linter.unusedVariables false
set_option linter.unusedSimpArgs false
namespace Go.Proofs.YtkljgpepogkgdaaDoor
open Go Go.Vex
set_option maxRecDepth 20000
set_option maxHeartbeats 4000000
noncomputable def I41 : FnT := [(41, fi Tryd.f41 ⟨[], 0⟩)]
theorem I41ok : FnsOk kit I41 := ⟨fo41 _, trivial⟩
theorem of_1 : OfIs (.lit 1) ⟨#[97, 100, 100]⟩ 1 0 0 := by
  refine Spec1.mk2 rfl fun F => ?_
  refine into I41ok 6 ?_
  conv => cbv
  refine OkCall.by_spec ops_spec [] (by decide) trivial trivial ?_
  conv => cbv
  refine OkCall.by_spec ops_spec [] (by decide) trivial trivial ?_
  conv => cbv
  exact (LeOut.mk' [0] (by decide) rfl id (by cbv) (by cbv)).two
theorem of_2 : OfIs (.lit 2) ⟨#[115, 117, 98]⟩ 1 0 0 := by
  refine Spec1.mk2 rfl fun F => ?_
  refine into I41ok 6 ?_
  conv => cbv
  refine OkCall.by_spec ops_spec [] (by decide) trivial trivial ?_
  conv => cbv
  refine OkCall.by_spec ops_spec [] (by decide) trivial trivial ?_
  conv => cbv
  exact (LeOut.mk' [0] (by decide) rfl id (by cbv) (by cbv)).two
theorem of_3 : OfIs (.lit 3) ⟨#[109, 117, 108]⟩ 1 0 0 := by
  refine Spec1.mk2 rfl fun F => ?_
  refine into I41ok 6 ?_
  conv => cbv
  refine OkCall.by_spec ops_spec [] (by decide) trivial trivial ?_
  conv => cbv
  refine OkCall.by_spec ops_spec [] (by decide) trivial trivial ?_
  conv => cbv
  exact (LeOut.mk' [0] (by decide) rfl id (by cbv) (by cbv)).two
theorem of_4 : OfIs (.lit 4) ⟨#[100, 105, 118, 117]⟩ 1 0 0 := by
  refine Spec1.mk2 rfl fun F => ?_
  refine into I41ok 6 ?_
  conv => cbv
  refine OkCall.by_spec ops_spec [] (by decide) trivial trivial ?_
  conv => cbv
  refine OkCall.by_spec ops_spec [] (by decide) trivial trivial ?_
  conv => cbv
  exact (LeOut.mk' [0] (by decide) rfl id (by cbv) (by cbv)).two
theorem of_5 : OfIs (.lit 5) ⟨#[114, 101, 109, 117]⟩ 1 0 0 := by
  refine Spec1.mk2 rfl fun F => ?_
  refine into I41ok 6 ?_
  conv => cbv
  refine OkCall.by_spec ops_spec [] (by decide) trivial trivial ?_
  conv => cbv
  refine OkCall.by_spec ops_spec [] (by decide) trivial trivial ?_
  conv => cbv
  exact (LeOut.mk' [0] (by decide) rfl id (by cbv) (by cbv)).two
theorem of_6 : OfIs (.lit 6) ⟨#[97, 110, 100]⟩ 1 0 0 := by
  refine Spec1.mk2 rfl fun F => ?_
  refine into I41ok 6 ?_
  conv => cbv
  refine OkCall.by_spec ops_spec [] (by decide) trivial trivial ?_
  conv => cbv
  refine OkCall.by_spec ops_spec [] (by decide) trivial trivial ?_
  conv => cbv
  exact (LeOut.mk' [0] (by decide) rfl id (by cbv) (by cbv)).two
theorem of_7 : OfIs (.lit 7) ⟨#[111, 114]⟩ 1 0 0 := by
  refine Spec1.mk2 rfl fun F => ?_
  refine into I41ok 6 ?_
  conv => cbv
  refine OkCall.by_spec ops_spec [] (by decide) trivial trivial ?_
  conv => cbv
  refine OkCall.by_spec ops_spec [] (by decide) trivial trivial ?_
  conv => cbv
  exact (LeOut.mk' [0] (by decide) rfl id (by cbv) (by cbv)).two
theorem of_8 : OfIs (.lit 8) ⟨#[120, 111, 114]⟩ 1 0 0 := by
  refine Spec1.mk2 rfl fun F => ?_
  refine into I41ok 6 ?_
  conv => cbv
  refine OkCall.by_spec ops_spec [] (by decide) trivial trivial ?_
  conv => cbv
  refine OkCall.by_spec ops_spec [] (by decide) trivial trivial ?_
  conv => cbv
  exact (LeOut.mk' [0] (by decide) rfl id (by cbv) (by cbv)).two
theorem of_9 : OfIs (.lit 9) ⟨#[115, 104, 108]⟩ 1 0 0 := by
  refine Spec1.mk2 rfl fun F => ?_
  refine into I41ok 6 ?_
  conv => cbv
  refine OkCall.by_spec ops_spec [] (by decide) trivial trivial ?_
  conv => cbv
  refine OkCall.by_spec ops_spec [] (by decide) trivial trivial ?_
  conv => cbv
  exact (LeOut.mk' [0] (by decide) rfl id (by cbv) (by cbv)).two
theorem of_10 : OfIs (.lit 10) ⟨#[115, 104, 114]⟩ 1 0 0 := by
  refine Spec1.mk2 rfl fun F => ?_
  refine into I41ok 6 ?_
  conv => cbv
  refine OkCall.by_spec ops_spec [] (by decide) trivial trivial ?_
  conv => cbv
  refine OkCall.by_spec ops_spec [] (by decide) trivial trivial ?_
  conv => cbv
  exact (LeOut.mk' [0] (by decide) rfl id (by cbv) (by cbv)).two
theorem of_11 : OfIs (.lit 11) ⟨#[115, 97, 114]⟩ 1 0 0 := by
  refine Spec1.mk2 rfl fun F => ?_
  refine into I41ok 6 ?_
  conv => cbv
  refine OkCall.by_spec ops_spec [] (by decide) trivial trivial ?_
  conv => cbv
  refine OkCall.by_spec ops_spec [] (by decide) trivial trivial ?_
  conv => cbv
  exact (LeOut.mk' [0] (by decide) rfl id (by cbv) (by cbv)).two
theorem of_12 : OfIs (.lit 12) ⟨#[115, 108, 116]⟩ 1 0 0 := by
  refine Spec1.mk2 rfl fun F => ?_
  refine into I41ok 6 ?_
  conv => cbv
  refine OkCall.by_spec ops_spec [] (by decide) trivial trivial ?_
  conv => cbv
  refine OkCall.by_spec ops_spec [] (by decide) trivial trivial ?_
  conv => cbv
  exact (LeOut.mk' [0] (by decide) rfl id (by cbv) (by cbv)).two
theorem of_13 : OfIs (.lit 13) ⟨#[115, 108, 116, 117]⟩ 1 0 0 := by
  refine Spec1.mk2 rfl fun F => ?_
  refine into I41ok 6 ?_
  conv => cbv
  refine OkCall.by_spec ops_spec [] (by decide) trivial trivial ?_
  conv => cbv
  refine OkCall.by_spec ops_spec [] (by decide) trivial trivial ?_
  conv => cbv
  exact (LeOut.mk' [0] (by decide) rfl id (by cbv) (by cbv)).two
theorem of_14 : OfIs (.lit 14) ⟨#[97, 100, 100, 105]⟩ 2 1 0 := by
  refine Spec1.mk2 rfl fun F => ?_
  refine into I41ok 6 ?_
  conv => cbv
  refine OkCall.by_spec ops_spec [] (by decide) trivial trivial ?_
  conv => cbv
  refine OkCall.by_spec ops_spec [] (by decide) trivial trivial ?_
  conv => cbv
  exact (LeOut.mk' [0] (by decide) rfl id (by cbv) (by cbv)).two
theorem of_15 : OfIs (.lit 15) ⟨#[97, 110, 100, 105]⟩ 2 2 0 := by
  refine Spec1.mk2 rfl fun F => ?_
  refine into I41ok 6 ?_
  conv => cbv
  refine OkCall.by_spec ops_spec [] (by decide) trivial trivial ?_
  conv => cbv
  refine OkCall.by_spec ops_spec [] (by decide) trivial trivial ?_
  conv => cbv
  exact (LeOut.mk' [0] (by decide) rfl id (by cbv) (by cbv)).two
theorem of_16 : OfIs (.lit 16) ⟨#[111, 114, 105]⟩ 2 2 0 := by
  refine Spec1.mk2 rfl fun F => ?_
  refine into I41ok 6 ?_
  conv => cbv
  refine OkCall.by_spec ops_spec [] (by decide) trivial trivial ?_
  conv => cbv
  refine OkCall.by_spec ops_spec [] (by decide) trivial trivial ?_
  conv => cbv
  exact (LeOut.mk' [0] (by decide) rfl id (by cbv) (by cbv)).two
theorem of_17 : OfIs (.lit 17) ⟨#[120, 111, 114, 105]⟩ 2 2 0 := by
  refine Spec1.mk2 rfl fun F => ?_
  refine into I41ok 6 ?_
  conv => cbv
  refine OkCall.by_spec ops_spec [] (by decide) trivial trivial ?_
  conv => cbv
  refine OkCall.by_spec ops_spec [] (by decide) trivial trivial ?_
  conv => cbv
  exact (LeOut.mk' [0] (by decide) rfl id (by cbv) (by cbv)).two
theorem of_18 : OfIs (.lit 18) ⟨#[115, 104, 108, 105]⟩ 2 3 0 := by
  refine Spec1.mk2 rfl fun F => ?_
  refine into I41ok 6 ?_
  conv => cbv
  refine OkCall.by_spec ops_spec [] (by decide) trivial trivial ?_
  conv => cbv
  refine OkCall.by_spec ops_spec [] (by decide) trivial trivial ?_
  conv => cbv
  exact (LeOut.mk' [0] (by decide) rfl id (by cbv) (by cbv)).two
theorem of_19 : OfIs (.lit 19) ⟨#[115, 104, 114, 105]⟩ 2 3 0 := by
  refine Spec1.mk2 rfl fun F => ?_
  refine into I41ok 6 ?_
  conv => cbv
  refine OkCall.by_spec ops_spec [] (by decide) trivial trivial ?_
  conv => cbv
  refine OkCall.by_spec ops_spec [] (by decide) trivial trivial ?_
  conv => cbv
  exact (LeOut.mk' [0] (by decide) rfl id (by cbv) (by cbv)).two
theorem of_20 : OfIs (.lit 20) ⟨#[115, 97, 114, 105]⟩ 2 3 0 := by
  refine Spec1.mk2 rfl fun F => ?_
  refine into I41ok 6 ?_
  conv => cbv
  refine OkCall.by_spec ops_spec [] (by decide) trivial trivial ?_
  conv => cbv
  refine OkCall.by_spec ops_spec [] (by decide) trivial trivial ?_
  conv => cbv
  exact (LeOut.mk' [0] (by decide) rfl id (by cbv) (by cbv)).two
theorem of_21 : OfIs (.lit 21) ⟨#[115, 108, 116, 105]⟩ 2 1 0 := by
  refine Spec1.mk2 rfl fun F => ?_
  refine into I41ok 6 ?_
  conv => cbv
  refine OkCall.by_spec ops_spec [] (by decide) trivial trivial ?_
  conv => cbv
  refine OkCall.by_spec ops_spec [] (by decide) trivial trivial ?_
  conv => cbv
  exact (LeOut.mk' [0] (by decide) rfl id (by cbv) (by cbv)).two
theorem of_22 : OfIs (.lit 22) ⟨#[115, 108, 116, 117, 105]⟩ 2 1 0 := by
  refine Spec1.mk2 rfl fun F => ?_
  refine into I41ok 6 ?_
  conv => cbv
  refine OkCall.by_spec ops_spec [] (by decide) trivial trivial ?_
  conv => cbv
  refine OkCall.by_spec ops_spec [] (by decide) trivial trivial ?_
  conv => cbv
  exact (LeOut.mk' [0] (by decide) rfl id (by cbv) (by cbv)).two
theorem of_23 : OfIs (.lit 23) ⟨#[108, 117, 105]⟩ 4 2 0 := by
  refine Spec1.mk2 rfl fun F => ?_
  refine into I41ok 6 ?_
  conv => cbv
  refine OkCall.by_spec ops_spec [] (by decide) trivial trivial ?_
  conv => cbv
  refine OkCall.by_spec ops_spec [] (by decide) trivial trivial ?_
  conv => cbv
  exact (LeOut.mk' [0] (by decide) rfl id (by cbv) (by cbv)).two
theorem of_24 : OfIs (.lit 24) ⟨#[108, 98]⟩ 2 1 1 := by
  refine Spec1.mk2 rfl fun F => ?_
  refine into I41ok 6 ?_
  conv => cbv
  refine OkCall.by_spec ops_spec [] (by decide) trivial trivial ?_
  conv => cbv
  refine OkCall.by_spec ops_spec [] (by decide) trivial trivial ?_
  conv => cbv
  exact (LeOut.mk' [0] (by decide) rfl id (by cbv) (by cbv)).two
theorem of_25 : OfIs (.lit 25) ⟨#[108, 98, 117]⟩ 2 1 1 := by
  refine Spec1.mk2 rfl fun F => ?_
  refine into I41ok 6 ?_
  conv => cbv
  refine OkCall.by_spec ops_spec [] (by decide) trivial trivial ?_
  conv => cbv
  refine OkCall.by_spec ops_spec [] (by decide) trivial trivial ?_
  conv => cbv
  exact (LeOut.mk' [0] (by decide) rfl id (by cbv) (by cbv)).two
theorem of_26 : OfIs (.lit 26) ⟨#[108, 104]⟩ 2 1 1 := by
  refine Spec1.mk2 rfl fun F => ?_
  refine into I41ok 6 ?_
  conv => cbv
  refine OkCall.by_spec ops_spec [] (by decide) trivial trivial ?_
  conv => cbv
  refine OkCall.by_spec ops_spec [] (by decide) trivial trivial ?_
  conv => cbv
  exact (LeOut.mk' [0] (by decide) rfl id (by cbv) (by cbv)).two
theorem of_27 : OfIs (.lit 27) ⟨#[108, 104, 117]⟩ 2 1 1 := by
  refine Spec1.mk2 rfl fun F => ?_
  refine into I41ok 6 ?_
  conv => cbv
  refine OkCall.by_spec ops_spec [] (by decide) trivial trivial ?_
  conv => cbv
  refine OkCall.by_spec ops_spec [] (by decide) trivial trivial ?_
  conv => cbv
  exact (LeOut.mk' [0] (by decide) rfl id (by cbv) (by cbv)).two
theorem of_28 : OfIs (.lit 28) ⟨#[108, 119]⟩ 2 1 1 := by
  refine Spec1.mk2 rfl fun F => ?_
  refine into I41ok 6 ?_
  conv => cbv
  refine OkCall.by_spec ops_spec [] (by decide) trivial trivial ?_
  conv => cbv
  refine OkCall.by_spec ops_spec [] (by decide) trivial trivial ?_
  conv => cbv
  exact (LeOut.mk' [0] (by decide) rfl id (by cbv) (by cbv)).two
theorem of_29 : OfIs (.lit 29) ⟨#[115, 98]⟩ 3 1 1 := by
  refine Spec1.mk2 rfl fun F => ?_
  refine into I41ok 6 ?_
  conv => cbv
  refine OkCall.by_spec ops_spec [] (by decide) trivial trivial ?_
  conv => cbv
  refine OkCall.by_spec ops_spec [] (by decide) trivial trivial ?_
  conv => cbv
  exact (LeOut.mk' [0] (by decide) rfl id (by cbv) (by cbv)).two
theorem of_30 : OfIs (.lit 30) ⟨#[115, 104]⟩ 3 1 1 := by
  refine Spec1.mk2 rfl fun F => ?_
  refine into I41ok 6 ?_
  conv => cbv
  refine OkCall.by_spec ops_spec [] (by decide) trivial trivial ?_
  conv => cbv
  refine OkCall.by_spec ops_spec [] (by decide) trivial trivial ?_
  conv => cbv
  exact (LeOut.mk' [0] (by decide) rfl id (by cbv) (by cbv)).two
theorem of_31 : OfIs (.lit 31) ⟨#[115, 119]⟩ 3 1 1 := by
  refine Spec1.mk2 rfl fun F => ?_
  refine into I41ok 6 ?_
  conv => cbv
  refine OkCall.by_spec ops_spec [] (by decide) trivial trivial ?_
  conv => cbv
  refine OkCall.by_spec ops_spec [] (by decide) trivial trivial ?_
  conv => cbv
  exact (LeOut.mk' [0] (by decide) rfl id (by cbv) (by cbv)).two
theorem of_32 : OfIs (.lit 32) ⟨#[98, 101, 113]⟩ 3 1 0 := by
  refine Spec1.mk2 rfl fun F => ?_
  refine into I41ok 6 ?_
  conv => cbv
  refine OkCall.by_spec ops_spec [] (by decide) trivial trivial ?_
  conv => cbv
  refine OkCall.by_spec ops_spec [] (by decide) trivial trivial ?_
  conv => cbv
  exact (LeOut.mk' [0] (by decide) rfl id (by cbv) (by cbv)).two
theorem of_33 : OfIs (.lit 33) ⟨#[98, 110, 101]⟩ 3 1 0 := by
  refine Spec1.mk2 rfl fun F => ?_
  refine into I41ok 6 ?_
  conv => cbv
  refine OkCall.by_spec ops_spec [] (by decide) trivial trivial ?_
  conv => cbv
  refine OkCall.by_spec ops_spec [] (by decide) trivial trivial ?_
  conv => cbv
  exact (LeOut.mk' [0] (by decide) rfl id (by cbv) (by cbv)).two
theorem of_34 : OfIs (.lit 34) ⟨#[98, 108, 116]⟩ 3 1 0 := by
  refine Spec1.mk2 rfl fun F => ?_
  refine into I41ok 6 ?_
  conv => cbv
  refine OkCall.by_spec ops_spec [] (by decide) trivial trivial ?_
  conv => cbv
  refine OkCall.by_spec ops_spec [] (by decide) trivial trivial ?_
  conv => cbv
  exact (LeOut.mk' [0] (by decide) rfl id (by cbv) (by cbv)).two
theorem of_35 : OfIs (.lit 35) ⟨#[98, 103, 101]⟩ 3 1 0 := by
  refine Spec1.mk2 rfl fun F => ?_
  refine into I41ok 6 ?_
  conv => cbv
  refine OkCall.by_spec ops_spec [] (by decide) trivial trivial ?_
  conv => cbv
  refine OkCall.by_spec ops_spec [] (by decide) trivial trivial ?_
  conv => cbv
  exact (LeOut.mk' [0] (by decide) rfl id (by cbv) (by cbv)).two
theorem of_36 : OfIs (.lit 36) ⟨#[98, 108, 116, 117]⟩ 3 1 0 := by
  refine Spec1.mk2 rfl fun F => ?_
  refine into I41ok 6 ?_
  conv => cbv
  refine OkCall.by_spec ops_spec [] (by decide) trivial trivial ?_
  conv => cbv
  refine OkCall.by_spec ops_spec [] (by decide) trivial trivial ?_
  conv => cbv
  exact (LeOut.mk' [0] (by decide) rfl id (by cbv) (by cbv)).two
theorem of_37 : OfIs (.lit 37) ⟨#[98, 103, 101, 117]⟩ 3 1 0 := by
  refine Spec1.mk2 rfl fun F => ?_
  refine into I41ok 6 ?_
  conv => cbv
  refine OkCall.by_spec ops_spec [] (by decide) trivial trivial ?_
  conv => cbv
  refine OkCall.by_spec ops_spec [] (by decide) trivial trivial ?_
  conv => cbv
  exact (LeOut.mk' [0] (by decide) rfl id (by cbv) (by cbv)).two
theorem of_38 : OfIs (.lit 38) ⟨#[106, 97, 108]⟩ 4 1 0 := by
  refine Spec1.mk2 rfl fun F => ?_
  refine into I41ok 6 ?_
  conv => cbv
  refine OkCall.by_spec ops_spec [] (by decide) trivial trivial ?_
  conv => cbv
  refine OkCall.by_spec ops_spec [] (by decide) trivial trivial ?_
  conv => cbv
  exact (LeOut.mk' [0] (by decide) rfl id (by cbv) (by cbv)).two
theorem of_39 : OfIs (.lit 39) ⟨#[106, 97, 108, 114]⟩ 2 1 0 := by
  refine Spec1.mk2 rfl fun F => ?_
  refine into I41ok 6 ?_
  conv => cbv
  refine OkCall.by_spec ops_spec [] (by decide) trivial trivial ?_
  conv => cbv
  refine OkCall.by_spec ops_spec [] (by decide) trivial trivial ?_
  conv => cbv
  exact (LeOut.mk' [0] (by decide) rfl id (by cbv) (by cbv)).two
theorem of_40 : OfIs (.lit 40) ⟨#[104, 99, 97, 108, 108]⟩ 7 2 0 := by
  refine Spec1.mk2 rfl fun F => ?_
  refine into I41ok 6 ?_
  conv => cbv
  refine OkCall.by_spec ops_spec [] (by decide) trivial trivial ?_
  conv => cbv
  refine OkCall.by_spec ops_spec [] (by decide) trivial trivial ?_
  conv => cbv
  exact (LeOut.mk' [0] (by decide) rfl id (by cbv) (by cbv)).two
theorem of_41 : OfIs (.lit 41) ⟨#[99, 108, 111, 99, 107]⟩ 5 0 0 := by
  refine Spec1.mk2 rfl fun F => ?_
  refine into I41ok 6 ?_
  conv => cbv
  refine OkCall.by_spec ops_spec [] (by decide) trivial trivial ?_
  conv => cbv
  refine OkCall.by_spec ops_spec [] (by decide) trivial trivial ?_
  conv => cbv
  exact (LeOut.mk' [0] (by decide) rfl id (by cbv) (by cbv)).two
theorem of_42 : OfIs (.lit 42) ⟨#[119, 97, 105, 116]⟩ 8 0 0 := by
  refine Spec1.mk2 rfl fun F => ?_
  refine into I41ok 6 ?_
  conv => cbv
  refine OkCall.by_spec ops_spec [] (by decide) trivial trivial ?_
  conv => cbv
  refine OkCall.by_spec ops_spec [] (by decide) trivial trivial ?_
  conv => cbv
  exact (LeOut.mk' [0] (by decide) rfl id (by cbv) (by cbv)).two
theorem of_43 : OfIs (.lit 43) ⟨#[101, 105]⟩ 8 0 0 := by
  refine Spec1.mk2 rfl fun F => ?_
  refine into I41ok 6 ?_
  conv => cbv
  refine OkCall.by_spec ops_spec [] (by decide) trivial trivial ?_
  conv => cbv
  refine OkCall.by_spec ops_spec [] (by decide) trivial trivial ?_
  conv => cbv
  exact (LeOut.mk' [0] (by decide) rfl id (by cbv) (by cbv)).two
theorem of_44 : OfIs (.lit 44) ⟨#[100, 105]⟩ 8 0 0 := by
  refine Spec1.mk2 rfl fun F => ?_
  refine into I41ok 6 ?_
  conv => cbv
  refine OkCall.by_spec ops_spec [] (by decide) trivial trivial ?_
  conv => cbv
  refine OkCall.by_spec ops_spec [] (by decide) trivial trivial ?_
  conv => cbv
  exact (LeOut.mk' [0] (by decide) rfl id (by cbv) (by cbv)).two
theorem of_45 : OfIs (.lit 45) ⟨#[101, 114, 101, 116]⟩ 8 0 0 := by
  refine Spec1.mk2 rfl fun F => ?_
  refine into I41ok 6 ?_
  conv => cbv
  refine OkCall.by_spec ops_spec [] (by decide) trivial trivial ?_
  conv => cbv
  refine OkCall.by_spec ops_spec [] (by decide) trivial trivial ?_
  conv => cbv
  exact (LeOut.mk' [0] (by decide) rfl id (by cbv) (by cbv)).two
theorem of_46 : OfIs (.lit 46) ⟨#[118, 101, 99]⟩ 6 0 0 := by
  refine Spec1.mk2 rfl fun F => ?_
  refine into I41ok 6 ?_
  conv => cbv
  refine OkCall.by_spec ops_spec [] (by decide) trivial trivial ?_
  conv => cbv
  refine OkCall.by_spec ops_spec [] (by decide) trivial trivial ?_
  conv => cbv
  exact (LeOut.mk' [0] (by decide) rfl id (by cbv) (by cbv)).two
theorem of_47 : OfIs (.lit 47) ⟨#[104, 97, 108, 116]⟩ 8 0 0 := by
  refine Spec1.mk2 rfl fun F => ?_
  refine into I41ok 6 ?_
  conv => cbv
  refine OkCall.by_spec ops_spec [] (by decide) trivial trivial ?_
  conv => cbv
  refine OkCall.by_spec ops_spec [] (by decide) trivial trivial ?_
  conv => cbv
  exact (LeOut.mk' [0] (by decide) rfl id (by cbv) (by cbv)).two
theorem of_48 : OfIs (.lit 48) ⟨#[110, 111, 112]⟩ 8 0 0 := by
  refine Spec1.mk2 rfl fun F => ?_
  refine into I41ok 6 ?_
  conv => cbv
  refine OkCall.by_spec ops_spec [] (by decide) trivial trivial ?_
  conv => cbv
  refine OkCall.by_spec ops_spec [] (by decide) trivial trivial ?_
  conv => cbv
  exact (LeOut.mk' [0] (by decide) rfl id (by cbv) (by cbv)).two
theorem of_bad (op : Int) (h : op < 1 ∨ 48 < op) : Spec1 kit 41 [.i .i64 (.ex op)] [] false (.tup [.agg [.str ⟨#[]⟩, .i .i64 (.lit 0), .i .i64 (.lit 0), .i .i64 (.lit 0)], .b (.lit false)]) [] [] := by
  refine Spec1.mk2 rfl fun F => ?_
  refine into I41ok 6 ?_
  conv => cbv
  refine Br.mk (fun hc => ?_) (fun hc => ?_)
  · conv => cbv
    exact (LeOut.mk' [0] (by decide) rfl id (by cbv) (by cbv)).two
  · simp only [leafs, decide_eq_false_iff_not] at hc
    conv => cbv
    refine OkCall.by_spec ops_spec [] (by decide) trivial trivial ?_
    conv => cbv
    refine Br.yes (by simp only [leafs, decide_eq_true_eq]; omega) ?_
    conv => cbv
    exact (LeOut.mk' [0] (by decide) rfl id (by cbv) (by cbv)).two
theorem dec_none (w : Int) (h0 : 0 ≤ w) (h1 : w < 4294967296) (hop : w / 67108864 < 1 ∨ 48 < w / 67108864) : Spec1 kit 21 [.i .u32 (.ex w)] [.glob 0 layoutsL] false (.tup [.agg [.i .i64 (.lit 0), .i .u8 (.lit 0), .i .u8 (.lit 0), .i .u8 (.lit 0), .i .i32 (.lit 0)], .i .i64 (.lit 100)]) [.glob 0 layoutsL] [] := by
  obtain ⟨op, ho⟩ : ∃ x, w / 67108864 = x := ⟨_, rfl⟩
  refine Spec1.mk2 rfl fun F => ?_
  refine into I21ok 6 ?_
  conv => cbv
  refine OkCall.by_spec (of_bad op (by omega)) [] (by decide) ?_ trivial ?_
  · conv => cbv
    simp only [leafs]
    exact ⟨ho.symm.trans (op_of h0 h1).symm, trivial⟩
  conv => cbv
  exact (LeOut.mk' [0, 1] (by decide) rfl id (by cbv) (by cbv)).two
end Go.Proofs.YtkljgpepogkgdaaDoor
