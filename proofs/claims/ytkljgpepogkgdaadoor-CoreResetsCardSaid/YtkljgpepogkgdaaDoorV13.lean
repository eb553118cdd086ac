/-
  VEX, part 13: functions to be gone into, from their forms.
-/
import Derived.Test.YtkljgpepogkgdaaDoorV12
namespace Go.Vex
set_option linter.unusedVariables false
noncomputable section
def fi (fn : Func) (O : Opt) : FnI := ⟨fn.ntmps, fn.results.toList, fn.body.getD .skip, O⟩
theorem fi_ok {C : Kit} {f : Nat} {fn : Func} (O : Opt) (h : C.P.funcs[f]? = some fn) (hb : fn.body.isSome = true) (hn : (fn.name == "runtime.NumGoroutine") = false)
    (hch : drawsChk (fn.body.getD .skip) = true) : FnOk C f (fi fn O) := by
  obtain ⟨b, hb'⟩ := Option.isSome_iff_exists.1 hb
  exact ⟨fn, h, by show fn.body = some (fn.body.getD .skip); rw [hb']; rfl, hn, rfl, rfl, hch⟩
end
end Go.Vex
