/-
  VEX: the leaves in the evaluator's own spelling, and what they are.
-/
import Derived.Test.YtkljgpepogkgdaaDoorV21
set_option linter.unusedSimpArgs false
namespace Go.Vex
set_option linter.unusedVariables false
def gi_raw' := fun (zs : List Int) (n : Nat) (X : Int) (hX : (zs.getD n 0) = X) => PLift.up (by
  have h : gi zs n = X := by rw [gi_eq]; exact hX
  cbv at h
  exact h)
def gi_rawP := PLift.up fun (zs : List Int) (n : Nat) => (gi_raw' zs n _ rfl).down
theorem gi_raw : type_of% gi_rawP.down := gi_rawP.down
def setI_raw' := fun (zs : List Int) (n : Nat) (z : Int) (X : List Int) (hX : (zs.set n z) = X) => PLift.up (by
  have h : setI zs n z = X := by rw [setI_eq]; exact hX
  cbv at h
  exact h)
def setI_rawP := PLift.up fun (zs : List Int) (n : Nat) (z : Int) => (setI_raw' zs n z _ rfl).down
theorem setI_raw : type_of% setI_rawP.down := setI_rawP.down
def upd_raw' := fun (f : Nat → List SV) (i : Nat) (l : List SV) (X : Nat → List SV) (hX : (fun j => if j = i then l else f j) = X) => PLift.up (by
  have h : upd f i l = X := by rw [upd_eq]; exact hX
  cbv at h
  exact h)
def upd_rawP := PLift.up fun (f : Nat → List SV) (i : Nat) (l : List SV) => (upd_raw' f i l _ rfl).down
theorem upd_raw : type_of% upd_rawP.down := upd_rawP.down
def nLt_raw' := fun (a b : Nat) (X : Prop) (hX : (a < b) = X) => PLift.up (by
  have h : nLt a b = X := by rw [nLt_eq]; exact hX
  cbv at h
  exact h)
def nLt_rawP := PLift.up fun (a b : Nat) => (nLt_raw' a b _ rfl).down
theorem nLt_raw : type_of% nLt_rawP.down := nLt_rawP.down
def nLe_raw' := fun (a b : Nat) (X : Prop) (hX : (a ≤ b) = X) => PLift.up (by
  have h : nLe a b = X := by rw [nLe_eq]; exact hX
  cbv at h
  exact h)
def nLe_rawP := PLift.up fun (a b : Nat) => (nLe_raw' a b _ rfl).down
theorem nLe_raw : type_of% nLe_rawP.down := nLe_rawP.down
def inR_raw' := fun (i : Int) (n : Nat) (X : Prop) (hX : (0 ≤ i ∧ i < n) = X) => PLift.up (by
  have h : inR i n = X := by rw [inR_eq]; exact hX
  cbv at h
  exact h)
def inR_rawP := PLift.up fun (i : Int) (n : Nat) => (inR_raw' i n _ rfl).down
theorem inR_raw : type_of% inR_rawP.down := inR_rawP.down
def toN_raw' := fun (i : Int) (X : Nat) (hX : (i.toNat) = X) => PLift.up (by
  have h : toN i = X := by rw [toN_eq]; exact hX
  cbv at h
  exact h)
def toN_rawP := PLift.up fun (i : Int) => (toN_raw' i _ rfl).down
theorem toN_raw : type_of% toN_rawP.down := toN_rawP.down
def addN_raw' := fun (a b : Nat) (X : Nat) (hX : (a + b) = X) => PLift.up (by
  have h : addN a b = X := by rw [addN_eq]; exact hX
  cbv at h
  exact h)
def addN_rawP := PLift.up fun (a b : Nat) => (addN_raw' a b _ rfl).down
theorem addN_raw : type_of% addN_rawP.down := addN_rawP.down
def addI_raw' := fun (k : IntKind) (a b : Int) (X : Int) (hX : (k.wrap (a + b)) = X) => PLift.up (by
  have h : addI k a b = X := by rw [addI_eq]; exact hX
  cbv at h
  exact h)
def addI_rawP := PLift.up fun (k : IntKind) (a b : Int) => (addI_raw' k a b _ rfl).down
theorem addI_raw : type_of% addI_rawP.down := addI_rawP.down
def subI_raw' := fun (k : IntKind) (a b : Int) (X : Int) (hX : (k.wrap (a - b)) = X) => PLift.up (by
  have h : subI k a b = X := by rw [subI_eq]; exact hX
  cbv at h
  exact h)
def subI_rawP := PLift.up fun (k : IntKind) (a b : Int) => (subI_raw' k a b _ rfl).down
theorem subI_raw : type_of% subI_rawP.down := subI_rawP.down
def mulI_raw' := fun (k : IntKind) (a b : Int) (X : Int) (hX : (k.wrap (a * b)) = X) => PLift.up (by
  have h : mulI k a b = X := by rw [mulI_eq]; exact hX
  cbv at h
  exact h)
def mulI_rawP := PLift.up fun (k : IntKind) (a b : Int) => (mulI_raw' k a b _ rfl).down
theorem mulI_raw : type_of% mulI_rawP.down := mulI_rawP.down
def quoI_raw' := fun (k : IntKind) (a b : Int) (X : Int) (hX : (k.wrap (a.tdiv b)) = X) => PLift.up (by
  have h : quoI k a b = X := by rw [quoI_eq]; exact hX
  cbv at h
  exact h)
def quoI_rawP := PLift.up fun (k : IntKind) (a b : Int) => (quoI_raw' k a b _ rfl).down
theorem quoI_raw : type_of% quoI_rawP.down := quoI_rawP.down
def remI_raw' := fun (a b : Int) (X : Int) (hX : (a.tmod b) = X) => PLift.up (by
  have h : remI a b = X := by rw [remI_eq]; exact hX
  cbv at h
  exact h)
def remI_rawP := PLift.up fun (a b : Int) => (remI_raw' a b _ rfl).down
theorem remI_raw : type_of% remI_rawP.down := remI_rawP.down
def andI_raw' := fun (k : IntKind) (a b : Int) (X : Int) (hX : (k.wrap (BitVec.ofInt k.bits a &&& BitVec.ofInt k.bits b).toNat) = X) => PLift.up (by
  have h : andI k a b = X := by rw [andI_eq]; exact hX
  cbv at h
  exact h)
def andI_rawP := PLift.up fun (k : IntKind) (a b : Int) => (andI_raw' k a b _ rfl).down
theorem andI_raw : type_of% andI_rawP.down := andI_rawP.down
def orI_raw' := fun (k : IntKind) (a b : Int) (X : Int) (hX : (k.wrap (BitVec.ofInt k.bits a ||| BitVec.ofInt k.bits b).toNat) = X) => PLift.up (by
  have h : orI k a b = X := by rw [orI_eq]; exact hX
  cbv at h
  exact h)
def orI_rawP := PLift.up fun (k : IntKind) (a b : Int) => (orI_raw' k a b _ rfl).down
theorem orI_raw : type_of% orI_rawP.down := orI_rawP.down
def xorI_raw' := fun (k : IntKind) (a b : Int) (X : Int) (hX : (k.wrap (BitVec.ofInt k.bits a ^^^ BitVec.ofInt k.bits b).toNat) = X) => PLift.up (by
  have h : xorI k a b = X := by rw [xorI_eq]; exact hX
  cbv at h
  exact h)
def xorI_rawP := PLift.up fun (k : IntKind) (a b : Int) => (xorI_raw' k a b _ rfl).down
theorem xorI_raw : type_of% xorI_rawP.down := xorI_rawP.down
def clrI_raw' := fun (k : IntKind) (a b : Int) (X : Int) (hX : (k.wrap (BitVec.ofInt k.bits a &&& ~~~ BitVec.ofInt k.bits b).toNat) = X) => PLift.up (by
  have h : clrI k a b = X := by rw [clrI_eq]; exact hX
  cbv at h
  exact h)
def clrI_rawP := PLift.up fun (k : IntKind) (a b : Int) => (clrI_raw' k a b _ rfl).down
theorem clrI_raw : type_of% clrI_rawP.down := clrI_rawP.down
def shlI_raw' := fun (k : IntKind) (a n : Int) (X : Int) (hX : (k.wrap (a * 2 ^ min n.toNat k.bits)) = X) => PLift.up (by
  have h : shlI k a n = X := by rw [shlI_eq]; exact hX
  cbv at h
  exact h)
def shlI_rawP := PLift.up fun (k : IntKind) (a n : Int) => (shlI_raw' k a n _ rfl).down
theorem shlI_raw : type_of% shlI_rawP.down := shlI_rawP.down
def shrI_raw' := fun (k : IntKind) (a n : Int) (X : Int) (hX : (a.fdiv (2 ^ min n.toNat k.bits)) = X) => PLift.up (by
  have h : shrI k a n = X := by rw [shrI_eq]; exact hX
  cbv at h
  exact h)
def shrI_rawP := PLift.up fun (k : IntKind) (a n : Int) => (shrI_raw' k a n _ rfl).down
theorem shrI_raw : type_of% shrI_rawP.down := shrI_rawP.down
def convI_raw' := fun (k : IntKind) (a : Int) (X : Int) (hX : (k.wrap a) = X) => PLift.up (by
  have h : convI k a = X := by rw [convI_eq]; exact hX
  cbv at h
  exact h)
def convI_rawP := PLift.up fun (k : IntKind) (a : Int) => (convI_raw' k a _ rfl).down
theorem convI_raw : type_of% convI_rawP.down := convI_rawP.down
def cplI_raw' := fun (k : IntKind) (a : Int) (X : Int) (hX : (k.wrap (BitVec.ofInt k.bits (if k.signed then -1 else k.max) ^^^ BitVec.ofInt k.bits a).toNat) = X) => PLift.up (by
  have h : cplI k a = X := by rw [cplI_eq]; exact hX
  cbv at h
  exact h)
def cplI_rawP := PLift.up fun (k : IntKind) (a : Int) => (cplI_raw' k a _ rfl).down
theorem cplI_raw : type_of% cplI_rawP.down := cplI_rawP.down
def eqI_raw' := fun (a b : Int) (X : Bool) (hX : (a == b) = X) => PLift.up (by
  have h : eqI a b = X := by rw [eqI_eq]; exact hX
  cbv at h
  exact h)
def eqI_rawP := PLift.up fun (a b : Int) => (eqI_raw' a b _ rfl).down
theorem eqI_raw : type_of% eqI_rawP.down := eqI_rawP.down
def ltI_raw' := fun (a b : Int) (X : Bool) (hX : (decide (a < b)) = X) => PLift.up (by
  have h : ltI a b = X := by rw [ltI_eq]; exact hX
  cbv at h
  exact h)
def ltI_rawP := PLift.up fun (a b : Int) => (ltI_raw' a b _ rfl).down
theorem ltI_raw : type_of% ltI_rawP.down := ltI_rawP.down
def leI_raw' := fun (a b : Int) (X : Bool) (hX : (decide (a ≤ b)) = X) => PLift.up (by
  have h : leI a b = X := by rw [leI_eq]; exact hX
  cbv at h
  exact h)
def leI_rawP := PLift.up fun (a b : Int) => (leI_raw' a b _ rfl).down
theorem leI_raw : type_of% leI_rawP.down := leI_rawP.down
def eqB_raw' := fun (a b : Bool) (X : Bool) (hX : (a == b) = X) => PLift.up (by
  have h : eqB a b = X := by rw [eqB_eq]; exact hX
  cbv at h
  exact h)
def eqB_rawP := PLift.up fun (a b : Bool) => (eqB_raw' a b _ rfl).down
theorem eqB_raw : type_of% eqB_rawP.down := eqB_rawP.down
def notB_raw' := fun (a : Bool) (X : Bool) (hX : (!a) = X) => PLift.up (by
  have h : notB a = X := by rw [notB_eq]; exact hX
  cbv at h
  exact h)
def notB_rawP := PLift.up fun (a : Bool) => (notB_raw' a _ rfl).down
theorem notB_raw : type_of% notB_rawP.down := notB_rawP.down
def andB_raw' := fun (a b : Bool) (X : Bool) (hX : (a && b) = X) => PLift.up (by
  have h : andB a b = X := by rw [andB_eq]; exact hX
  cbv at h
  exact h)
def andB_rawP := PLift.up fun (a b : Bool) => (andB_raw' a b _ rfl).down
theorem andB_raw : type_of% andB_rawP.down := andB_rawP.down
def neZ_raw' := fun (a : Int) (X : Prop) (hX : (a ≠ 0) = X) => PLift.up (by
  have h : neZ a = X := by rw [neZ_eq]; exact hX
  cbv at h
  exact h)
def neZ_rawP := PLift.up fun (a : Int) => (neZ_raw' a _ rfl).down
theorem neZ_raw : type_of% neZ_rawP.down := neZ_rawP.down
def geZ_raw' := fun (a : Int) (X : Prop) (hX : (0 ≤ a) = X) => PLift.up (by
  have h : geZ a = X := by rw [geZ_eq]; exact hX
  cbv at h
  exact h)
def geZ_rawP := PLift.up fun (a : Int) => (geZ_raw' a _ rfl).down
theorem geZ_raw : type_of% geZ_rawP.down := geZ_rawP.down
def leR_raw' := fun (i : Int) (n : Nat) (X : Prop) (hX : (0 ≤ i ∧ i ≤ n) = X) => PLift.up (by
  have h : leR i n = X := by rw [leR_eq]; exact hX
  cbv at h
  exact h)
def leR_rawP := PLift.up fun (i : Int) (n : Nat) => (leR_raw' i n _ rfl).down
theorem leR_raw : type_of% leR_rawP.down := leR_rawP.down
def subN_raw' := fun (a b : Nat) (X : Nat) (hX : (a - b) = X) => PLift.up (by
  have h : subN a b = X := by rw [subN_eq]; exact hX
  cbv at h
  exact h)
def subN_rawP := PLift.up fun (a b : Nat) => (subN_raw' a b _ rfl).down
theorem subN_raw : type_of% subN_rawP.down := subN_rawP.down
def shN_raw' := fun (cap o l : Nat) (X : Nat) (hX : (if cap = l then o else o + l) = X) => PLift.up (by
  have h : shN cap o l = X := by rw [shN_eq]; exact hX
  cbv at h
  exact h)
def shN_rawP := PLift.up fun (cap o l : Nat) => (shN_raw' cap o l _ rfl).down
theorem shN_raw : type_of% shN_rawP.down := shN_rawP.down
def ofN_raw' := fun (n : Nat) (X : Int) (hX : ((n : Int)) = X) => PLift.up (by
  have h : ofN n = X := by rw [ofN_eq]; exact hX
  cbv at h
  exact h)
def ofN_rawP := PLift.up fun (n : Nat) => (ofN_raw' n _ rfl).down
theorem ofN_raw : type_of% ofN_rawP.down := ofN_rawP.down
def mkOk_raw' := fun (len cap : Int) (bytes : Nat) (X : Prop) (hX : (0 ≤ len ∧ len ≤ cap ∧ (bytes : Int) * cap ≤ 281474976710656) = X) => PLift.up (by
  have h : mkOk len cap bytes = X := by rw [mkOk_eq]; exact hX
  cbv at h
  exact h)
def mkOk_rawP := PLift.up fun (len cap : Int) (bytes : Nat) => (mkOk_raw' len cap bytes _ rfl).down
theorem mkOk_raw : type_of% mkOk_rawP.down := mkOk_rawP.down
def zerosI_raw' := fun (n : Nat) (X : List Int) (hX : (List.replicate n 0) = X) => PLift.up (by
  have h : zerosI n = X := by rw [zerosI_eq]; exact hX
  cbv at h
  exact h)
def zerosI_rawP := PLift.up fun (n : Nat) => (zerosI_raw' n _ rfl).down
theorem zerosI_raw : type_of% zerosI_rawP.down := zerosI_rawP.down
def appI_raw' := fun (a b : List Int) (X : List Int) (hX : (a ++ b) = X) => PLift.up (by
  have h : appI a b = X := by rw [appI_eq]; exact hX
  cbv at h
  exact h)
def appI_rawP := PLift.up fun (a b : List Int) => (appI_raw' a b _ rfl).down
theorem appI_raw : type_of% appI_rawP.down := appI_rawP.down
def jn_raw' := fun (f g : Nat → List SV) (m : Nat) (X : Nat → List SV) (hX : (fun j => if j < m then f j else g (j - m)) = X) => PLift.up (by
  have h : jn f g m = X := by rw [jn_eq]; exact hX
  cbv at h
  exact h)
def jn_rawP := PLift.up fun (f g : Nat → List SV) (m : Nat) => (jn_raw' f g m _ rfl).down
theorem jn_raw : type_of% jn_rawP.down := jn_rawP.down
def apOk_raw' := fun (need bytes : Nat) (X : Prop) (hX : (need * bytes ≤ 140737488355328 ∧ need ≤ 140737488355328) = X) => PLift.up (by
  have h : apOk need bytes = X := by rw [apOk_eq]; exact hX
  cbv at h
  exact h)
def apOk_rawP := PLift.up fun (need bytes : Nat) => (apOk_raw' need bytes _ rfl).down
theorem apOk_raw : type_of% apOk_rawP.down := apOk_rawP.down
def eqN_raw' := fun (a b : Nat) (X : Prop) (hX : (a = b) = X) => PLift.up (by
  have h : eqN a b = X := by rw [eqN_eq]; exact hX
  cbv at h
  exact h)
def eqN_rawP := PLift.up fun (a b : Nat) => (eqN_raw' a b _ rfl).down
theorem eqN_raw : type_of% eqN_rawP.down := eqN_rawP.down
def chunk_raw' := fun (l : List SV) (w : Nat) (X : Nat → List SV) (hX : (fun j => (l.drop (j * w)).take w) = X) => PLift.up (by
  have h : chunk l w = X := by rw [chunk_eq]; exact hX
  cbv at h
  exact h)
def chunk_rawP := PLift.up fun (l : List SV) (w : Nat) => (chunk_raw' l w _ rfl).down
theorem chunk_raw : type_of% chunk_rawP.down := chunk_rawP.down
def eqL_raw' := fun (a b : List Int) (X : Bool) (hX : (a == b) = X) => PLift.up (by
  have h : eqL a b = X := by rw [eqL_eq]; exact hX
  cbv at h
  exact h)
def eqL_rawP := PLift.up fun (a b : List Int) => (eqL_raw' a b _ rfl).down
theorem eqL_raw : type_of% eqL_rawP.down := eqL_rawP.down
def takI_raw' := fun (n : Nat) (zs : List Int) (X : List Int) (hX : (zs.take n) = X) => PLift.up (by
  have h : takI n zs = X := by rw [takI_eq]; exact hX
  cbv at h
  exact h)
def takI_rawP := PLift.up fun (n : Nat) (zs : List Int) => (takI_raw' n zs _ rfl).down
theorem takI_raw : type_of% takI_rawP.down := takI_rawP.down
def drpI_raw' := fun (n : Nat) (zs : List Int) (X : List Int) (hX : (zs.drop n) = X) => PLift.up (by
  have h : drpI n zs = X := by rw [drpI_eq]; exact hX
  cbv at h
  exact h)
def drpI_rawP := PLift.up fun (n : Nat) (zs : List Int) => (drpI_raw' n zs _ rfl).down
theorem drpI_raw : type_of% drpI_rawP.down := drpI_rawP.down
def leafsP := PLift.up (And.intro gi_raw (And.intro setI_raw (And.intro upd_raw (And.intro nLt_raw (And.intro nLe_raw (And.intro inR_raw (And.intro toN_raw (And.intro addN_raw (And.intro addI_raw (And.intro subI_raw (And.intro mulI_raw (And.intro quoI_raw (And.intro remI_raw (And.intro andI_raw (And.intro orI_raw (And.intro xorI_raw (And.intro clrI_raw (And.intro shlI_raw (And.intro shrI_raw (And.intro convI_raw (And.intro cplI_raw (And.intro eqI_raw (And.intro ltI_raw (And.intro leI_raw (And.intro eqB_raw (And.intro notB_raw (And.intro andB_raw (And.intro neZ_raw (And.intro geZ_raw (And.intro leR_raw (And.intro subN_raw (And.intro shN_raw (And.intro ofN_raw (And.intro mkOk_raw (And.intro zerosI_raw (And.intro appI_raw (And.intro jn_raw (And.intro apOk_raw (And.intro eqN_raw (And.intro chunk_raw (And.intro eqL_raw (And.intro takI_raw (drpI_raw)))))))))))))))))))))))))))))))))))))))))))
theorem leafs : type_of% leafsP.down := leafsP.down
end Go.Vex
