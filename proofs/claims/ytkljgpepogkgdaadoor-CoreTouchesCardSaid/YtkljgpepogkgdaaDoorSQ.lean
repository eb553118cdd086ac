/-
  core.sum and its functions, as quiet calls.
-/
import Derived.Test.YtkljgpepogkgdaaDoorS1
import Derived.Test.YtkljgpepogkgdaaDoorS0
set_option linter.unusedVariables false
set_option linter.unusedSimpArgs false
namespace Go.Proofs.YtkljgpepogkgdaaDoor
open Go Go.Vex
set_option maxRecDepth 20000
set_option maxHeartbeats 4000000
theorem sum_q1 {hp : List Blk} {K : SV → Prop} (hK : K (.fn (.func 43) [] [])) : QCall kit 26 [.i .i64 (.lit 1)] hp K := by
  refine QCall.of_call _ rfl (into I11ok 6 ?_) hK
  cbv
theorem clo_1 {x y z : Int} (hx : U32 x) (hy : U32 y) (hz : z = sumF 1 x y) {hp : List Blk} {K : SV → Prop} (hK : K (.i .u32 (.ex z))) : QCall kit 43 [.i .u32 (.ex x), .i .u32 (.ex y)] hp K := by
  refine QCall.of_call _ rfl (into I11ok 6 ?_) hK
  conv => cbv
  show z = addI .u32 x y
  rw [hz, sum_1]
theorem sum_q6 {hp : List Blk} {K : SV → Prop} (hK : K (.fn (.func 48) [] [])) : QCall kit 26 [.i .i64 (.lit 6)] hp K := by
  refine QCall.of_call _ rfl (into I11ok 6 ?_) hK
  cbv
theorem clo_6 {x y z : Int} (hx : U32 x) (hy : U32 y) (hz : z = sumF 6 x y) {hp : List Blk} {K : SV → Prop} (hK : K (.i .u32 (.ex z))) : QCall kit 48 [.i .u32 (.ex x), .i .u32 (.ex y)] hp K := by
  refine QCall.of_call _ rfl (into I11ok 6 ?_) hK
  conv => cbv
  show z = andI .u32 x y
  rw [hz, sum_6 hx hy]
theorem sum_q7 {hp : List Blk} {K : SV → Prop} (hK : K (.fn (.func 49) [] [])) : QCall kit 26 [.i .i64 (.lit 7)] hp K := by
  refine QCall.of_call _ rfl (into I11ok 6 ?_) hK
  cbv
theorem clo_7 {x y z : Int} (hx : U32 x) (hy : U32 y) (hz : z = sumF 7 x y) {hp : List Blk} {K : SV → Prop} (hK : K (.i .u32 (.ex z))) : QCall kit 49 [.i .u32 (.ex x), .i .u32 (.ex y)] hp K := by
  refine QCall.of_call _ rfl (into I11ok 6 ?_) hK
  conv => cbv
  show z = orI .u32 x y
  rw [hz, sum_7 hx hy]
theorem sum_q8 {hp : List Blk} {K : SV → Prop} (hK : K (.fn (.func 50) [] [])) : QCall kit 26 [.i .i64 (.lit 8)] hp K := by
  refine QCall.of_call _ rfl (into I11ok 6 ?_) hK
  cbv
theorem clo_8 {x y z : Int} (hx : U32 x) (hy : U32 y) (hz : z = sumF 8 x y) {hp : List Blk} {K : SV → Prop} (hK : K (.i .u32 (.ex z))) : QCall kit 50 [.i .u32 (.ex x), .i .u32 (.ex y)] hp K := by
  refine QCall.of_call _ rfl (into I11ok 6 ?_) hK
  conv => cbv
  show z = xorI .u32 x y
  rw [hz, sum_8 hx hy]
theorem sum_q9 {hp : List Blk} {K : SV → Prop} (hK : K (.fn (.func 51) [] [])) : QCall kit 26 [.i .i64 (.lit 9)] hp K := by
  refine QCall.of_call _ rfl (into I11ok 6 ?_) hK
  cbv
theorem clo_9 {x y z : Int} (hx : U32 x) (hy : U32 y) (hz : z = sumF 9 x y) {hp : List Blk} {K : SV → Prop} (hK : K (.i .u32 (.ex z))) : QCall kit 51 [.i .u32 (.ex x), .i .u32 (.ex y)] hp K := by
  refine QCall.of_call _ rfl (into I11ok 6 ?_) hK
  conv => cbv
  refine And.intro (geZ.mk (by show 0 ≤ andI .u32 y 31; rw [m31 hy]; omega)) ?_
  conv => cbv
  show z = shlI .u32 x (andI .u32 y 31)
  rw [hz, sum_9 hy]
theorem sum_q10 {hp : List Blk} {K : SV → Prop} (hK : K (.fn (.func 52) [] [])) : QCall kit 26 [.i .i64 (.lit 10)] hp K := by
  refine QCall.of_call _ rfl (into I11ok 6 ?_) hK
  cbv
theorem clo_10 {x y z : Int} (hx : U32 x) (hy : U32 y) (hz : z = sumF 10 x y) {hp : List Blk} {K : SV → Prop} (hK : K (.i .u32 (.ex z))) : QCall kit 52 [.i .u32 (.ex x), .i .u32 (.ex y)] hp K := by
  refine QCall.of_call _ rfl (into I11ok 6 ?_) hK
  conv => cbv
  refine And.intro (geZ.mk (by show 0 ≤ andI .u32 y 31; rw [m31 hy]; omega)) ?_
  conv => cbv
  show z = shrI .u32 x (andI .u32 y 31)
  rw [hz, sum_10 hy]
theorem sum_q11 {hp : List Blk} {K : SV → Prop} (hK : K (.fn (.func 53) [] [])) : QCall kit 26 [.i .i64 (.lit 11)] hp K := by
  refine QCall.of_call _ rfl (into I11ok 6 ?_) hK
  cbv
theorem clo_11 {x y z : Int} (hx : U32 x) (hy : U32 y) (hz : z = sumF 11 x y) {hp : List Blk} {K : SV → Prop} (hK : K (.i .u32 (.ex z))) : QCall kit 53 [.i .u32 (.ex x), .i .u32 (.ex y)] hp K := by
  refine QCall.of_call _ rfl (into I11ok 6 ?_) hK
  conv => cbv
  refine And.intro (geZ.mk (by show 0 ≤ andI .u32 y 31; rw [m31 hy]; omega)) ?_
  conv => cbv
  show z = convI .u32 (shrI .i32 (convI .i32 x) (andI .u32 y 31))
  rw [hz, sum_11 hx hy]
theorem sum_q12 {hp : List Blk} {K : SV → Prop} (hK : K (.fn (.func 54) [] [])) : QCall kit 26 [.i .i64 (.lit 12)] hp K := by
  refine QCall.of_call _ rfl (into I11ok 6 ?_) hK
  cbv
theorem clo_12 {x y z : Int} (hx : U32 x) (hy : U32 y) (hz : z = sumF 12 x y) {hp : List Blk} {K : SV → Prop} (hK : K (.i .u32 (.ex z))) : QCall kit 54 [.i .u32 (.ex x), .i .u32 (.ex y)] hp K := by
  refine QCall.of_call _ rfl (into I11ok 6 ?_) hK
  conv => cbv
  refine Br.mk (fun hc => ?_) (fun hc => ?_)
  · replace hc : ltI (convI .i32 x) (convI .i32 y) = true := hc
    conv => cbv
    rw [hz, sum_12y hx hy hc]
  · replace hc : ltI (convI .i32 x) (convI .i32 y) = false := hc
    conv => cbv
    rw [hz, sum_12n hx hy hc]
theorem sum_q13 {hp : List Blk} {K : SV → Prop} (hK : K (.fn (.func 56) [] [])) : QCall kit 26 [.i .i64 (.lit 13)] hp K := by
  refine QCall.of_call _ rfl (into I11ok 6 ?_) hK
  cbv
theorem clo_13 {x y z : Int} (hx : U32 x) (hy : U32 y) (hz : z = sumF 13 x y) {hp : List Blk} {K : SV → Prop} (hK : K (.i .u32 (.ex z))) : QCall kit 56 [.i .u32 (.ex x), .i .u32 (.ex y)] hp K := by
  refine QCall.of_call _ rfl (into I11ok 6 ?_) hK
  conv => cbv
  refine Br.mk (fun hc => ?_) (fun hc => ?_)
  · replace hc : ltI x y = true := hc
    conv => cbv
    rw [hz, sum_13y hc]
  · replace hc : ltI x y = false := hc
    conv => cbv
    rw [hz, sum_13n hc]
end Go.Proofs.YtkljgpepogkgdaaDoor
