/-
  core.Step: its state, its tail.
-/
import Derived.Test.YtkljgpepogkgdaaDoorD2
import Derived.Test.YtkljgpepogkgdaaDoorS0
set_option linter.unusedVariables false
set_option linter.unusedSimpArgs false
namespace Go.Proofs.YtkljgpepogkgdaaDoor
open Go Go.Vex
set_option maxRecDepth 20000
set_option maxHeartbeats 4000000
def regL (s : RegS) : List SV := [.ints .u32 (.lit 16) s.r, .i .u32 (.ex s.pc), .i .u32 (.ex s.vec), .i .u32 (.ex s.back), .b (.ex s.on), .b (.ex s.hd)]
def resL (s : ResS) : List SV := [.i .i64 (.ex s.kind), .i .i64 (.ex s.cyc), .i .u32 (.ex s.num), .i .i64 (.ex s.flt), .i .u32 (.ex s.addr), .i .i64 (.ex s.line), .b (.ex s.loaded), .i .u32 (.ex s.value), .b (.ex s.read), .i .u64 (.ex s.clk)]
noncomputable def zeroRes : List SV := [.i .i64 (.lit 0), .i .i64 (.lit 0), .i .u32 (.lit 0), .i .i64 (.lit 0), .i .u32 (.lit 0), .i .i64 (.lit 0), .b (.lit false), .i .u32 (.lit 0), .b (.lit false), .i .u64 (.lit 0)]
/-- The step under way, fetched. -/
noncomputable def tailSt (s : RegS) (bd : BoardS) (F : Option (Nat × Nat) → Own → World → Prop) (w cyc : Int) (flt : S Int) : St :=
  ⟨[(0, .p 0 (.at 0)), (1, .ifc 33 (.p 1 (.at 0))), (4, .p 4 (.at 0)), (7, .i .u32 (.ex w)), (8, .i .i64 (.ex cyc)), (9, .i .i64 flt)],
   [.cells 25 (regL s), boardB bd, .glob 0 layoutsL, .abs F, .cells 40 zeroRes]⟩
/-- How it ends. -/
def stepQ (F : Option (Nat × Nat) → Own → World → Prop) (res : ResS) (s : RegS) (bd : BoardS) (q : Bool) (v : SV) (hp : List Blk) : Prop :=
  LeOut2 4 q v hp false (.agg (resL res)) [.cells 25 (regL s), boardB bd, .glob 0 layoutsL, .abs F]
noncomputable def tail11 : Code := (codeFrom 10 (fi Tryd.f11 ⟨[], 0⟩).body).getD .skip
theorem tail11_chk : drawsChk tail11 = true := by kernel_rfl
noncomputable abbrev TailOk (s : RegS) (bd : BoardS) (F : Option (Nat × Nat) → Own → World → Prop) (w cyc : Int) (flt : S Int) (res : ResS) (s' : RegS) (bd' : BoardS) : Prop :=
  Ok kit (fi Tryd.f11 ⟨[], 0⟩).nt 4 tail11 false (tailSt s bd F w cyc flt) (endS tab (fi Tryd.f11 ⟨[], 0⟩).res (stepQ F res s' bd'))
abbrev DecIs (w : Int) (k d a b imm : Int) : Prop := Spec1 kit 21 [.i .u32 (.ex w)] [.glob 0 layoutsL] false (.tup [.agg [.i .i64 (.lit k), .i .u8 (.ex d), .i .u8 (.ex a), .i .u8 (.ex b), .i .i32 (.ex imm)], .i .i64 (.lit 0)]) [.glob 0 layoutsL] []
noncomputable def I11 : FnT := [(23, fi Tryd.f23 ⟨[], 0⟩), (24, fi Tryd.f24 ⟨[], 0⟩), (25, fi Tryd.f25 ⟨[], 0⟩), (26, fi Tryd.f26 ⟨[], 0⟩), (27, fi Tryd.f27 ⟨[], 0⟩), (28, fi Tryd.f28 ⟨[], 0⟩), (29, fi Tryd.f29 ⟨[], 0⟩),
  (43, fi Tryd.f43 ⟨[], 0⟩), (44, fi Tryd.f44 ⟨[], 0⟩), (45, fi Tryd.f45 ⟨[], 0⟩), (46, fi Tryd.f46 ⟨[], 0⟩), (47, fi Tryd.f47 ⟨[], 0⟩), (48, fi Tryd.f48 ⟨[], 0⟩), (49, fi Tryd.f49 ⟨[], 0⟩), (50, fi Tryd.f50 ⟨[], 0⟩), (51, fi Tryd.f51 ⟨[], 0⟩), (52, fi Tryd.f52 ⟨[], 0⟩), (53, fi Tryd.f53 ⟨[], 0⟩), (54, fi Tryd.f54 ⟨[], 0⟩), (55, fi Tryd.f55 ⟨[], 0⟩), (56, fi Tryd.f56 ⟨[], 0⟩),
  (57, fi Tryd.f57 ⟨[], 0⟩), (58, fi Tryd.f58 ⟨[], 0⟩), (59, fi Tryd.f59 ⟨[], 0⟩), (60, fi Tryd.f60 ⟨[], 0⟩), (61, fi Tryd.f61 ⟨[], 0⟩), (62, fi Tryd.f62 ⟨[], 0⟩), (63, fi Tryd.f63 ⟨[], 0⟩), (64, fi Tryd.f64 ⟨[], 0⟩), (65, fi Tryd.f65 ⟨[], 0⟩), (66, fi Tryd.f66 ⟨[], 0⟩), (67, fi Tryd.f67 ⟨[], 0⟩), (68, fi Tryd.f68 ⟨[], 0⟩), (69, fi Tryd.f69 ⟨[], 0⟩),
  (70, fi Tryd.f70 ⟨[], 0⟩), (71, fi Tryd.f71 ⟨[], 0⟩), (72, fi Tryd.f72 ⟨[], 0⟩), (73, fi Tryd.f73 ⟨[], 0⟩), (74, fi Tryd.f74 ⟨[], 0⟩), (75, fi Tryd.f75 ⟨[], 0⟩), (76, fi Tryd.f76 ⟨[], 0⟩), (77, fi Tryd.f77 ⟨[], 0⟩), (78, fi Tryd.f78 ⟨[], 0⟩), (79, fi Tryd.f79 ⟨[], 0⟩), (80, fi Tryd.f80 ⟨[], 0⟩), (81, fi Tryd.f81 ⟨[], 0⟩), (82, fi Tryd.f82 ⟨[], 0⟩), (83, fi Tryd.f83 ⟨[], 0⟩), (84, fi Tryd.f84 ⟨[], 0⟩), (85, fi Tryd.f85 ⟨[], 0⟩)]
theorem I11ok : FnsOk kit I11 := ⟨fo23 _, fo24 _, fo25 _, fo26 _, fo27 _, fo28 _, fo29 _, fo43 _, fo44 _, fo45 _, fo46 _, fo47 _, fo48 _, fo49 _, fo50 _, fo51 _, fo52 _, fo53 _, fo54 _, fo55 _, fo56 _,
  fo57 _, fo58 _, fo59 _, fo60 _, fo61 _, fo62 _, fo63 _, fo64 _, fo65 _, fo66 _, fo67 _, fo68 _, fo69 _, fo70 _, fo71 _, fo72 _, fo73 _, fo74 _, fo75 _, fo76 _, fo77 _, fo78 _, fo79 _, fo80 _, fo81 _, fo82 _, fo83 _, fo84 _, fo85 _, trivial⟩
theorem codeFrom_chk {n : Nat} : ∀ {b c : Code}, codeFrom n b = some c → drawsChk b = true → drawsChk c = true := by
  intro b
  induction b with
  | seq a b iha ihb =>
    intro c h hd
    simp only [drawsChk, Bool.and_eq_true] at hd
    unfold codeFrom at h
    split at h
    · split at h
      · cases h; simp only [drawsChk, Bool.and_eq_true]; exact hd
      · exact ihb h hd.2
    · split at h
      · cases h; exact iha ‹_› hd.1
      · exact ihb h hd.2
  | cond v x y ihx ihy =>
    intro c h hd
    simp only [drawsChk, Bool.and_eq_true] at hd
    unfold codeFrom at h
    split at h
    · cases h; exact ihx ‹_› hd.1
    · exact ihy h hd.2
  | block i b ih => intro c h hd; exact ih (by simpa [codeFrom] using h) (by simpa [drawsChk] using hd)
  | scope b ih => intro c h hd; exact ih (by simpa [codeFrom] using h) (by simpa [drawsChk] using hd)
  | loop b ih => intro c h hd; exact ih (by simpa [codeFrom] using h) (by simpa [drawsChk] using hd)
  | _ => intro c h; simp [codeFrom] at h
theorem f11_chk : drawsChk (fi Tryd.f11 ⟨[], 0⟩).body = true := by kernel_rfl
end Go.Proofs.YtkljgpepogkgdaaDoor
