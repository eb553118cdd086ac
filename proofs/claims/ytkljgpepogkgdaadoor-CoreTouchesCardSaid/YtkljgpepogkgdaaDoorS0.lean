/-
  What a step makes of a processor's state: plain Lean.
-/
import Derived.Test.YtkljgpepogkgdaaDoorB
import Derived.Test.YtkljgpepogkgdaaDoorPB
set_option linter.unusedVariables false
set_option linter.unusedSimpArgs false
namespace Go.Proofs.YtkljgpepogkgdaaDoor
open Go Go.Vex
structure RegS where
  r : List Int
  pc : Int
  vec : Int
  back : Int
  on : Bool
  hd : Bool
structure ResS where
  kind : Int
  cyc : Int
  num : Int
  flt : Int
  addr : Int
  line : Int
  loaded : Bool
  value : Int
  read : Bool
  clk : Int
structure Out where
  res : ResS
  regs : RegS
  bd : BoardS
def w32 (n : Int) : Int := n % 4294967296
def i64 (n : Int) : Int := IntKind.i64.wrap n
def s32 (v : Int) : Int := if 2147483648 ≤ v then v - 4294967296 else v
def rgL (r : List Int) (a : Int) : Int := r.getD a.toNat 0
def rg (s : RegS) (a : Int) : Int := rgL s.r a
def setR (r : List Int) (d v : Int) : List Int := (r.set d.toNat v).set 0 0
def sumF (k : Nat) (x y : Int) : Int :=
  match k with
  | 1 => w32 (x + y)
  | 2 => w32 (x - y)
  | 3 => w32 (x * y)
  | 4 => if y = 0 then 4294967295 else x / y
  | 5 => if y = 0 then x else x % y
  | 6 => ((x.toNat &&& y.toNat : Nat) : Int)
  | 7 => ((x.toNat ||| y.toNat : Nat) : Int)
  | 8 => ((x.toNat ^^^ y.toNat : Nat) : Int)
  | 9 => w32 (x * 2 ^ (y % 32).toNat)
  | 10 => x / 2 ^ (y % 32).toNat
  | 11 => w32 (s32 x / 2 ^ (y % 32).toNat)
  | 12 => if s32 x < s32 y then 1 else 0
  | _ => if x < y then 1 else 0
def longF (k : Nat) : Nat :=
  match k with
  | 14 => 1
  | 15 => 6
  | 16 => 7
  | 17 => 8
  | 18 => 9
  | 19 => 10
  | 20 => 11
  | 21 => 12
  | 22 => 13
  | k => k
def brF (k : Nat) (x y : Int) : Bool :=
  match k with
  | 32 => decide (x = y)
  | 33 => !decide (x = y)
  | 34 => decide (s32 x < s32 y)
  | 35 => !decide (s32 x < s32 y)
  | 36 => decide (x < y)
  | _ => !decide (x < y)
def extF (k : Nat) (v : Int) : Int :=
  match k with
  | 24 => w32 (if 128 ≤ v % 256 then v % 256 - 256 else v % 256)
  | 25 => v % 256
  | 26 => w32 (if 32768 ≤ v % 65536 then v % 65536 - 65536 else v % 65536)
  | 27 => v % 65536
  | _ => v
def sizeF (k : Nat) : Int :=
  match k with
  | 24 => 1
  | 25 => 1
  | 26 => 2
  | 27 => 2
  | 28 => 4
  | 29 => 1
  | 30 => 2
  | _ => 4
def szM (k : Nat) : Int :=
  match k with
  | 29 => 256
  | 30 => 65536
  | _ => 4294967296
def resOk (cyc : Int) : ResS := ⟨1, i64 (cyc + 1), 0, 0, 0, 0, false, 0, false, 0⟩
def resFault (cyc flt addr : Int) : ResS := ⟨3, cyc, 0, flt, addr, 0, false, 0, false, 0⟩
/-- One instruction, taken apart. -/
def execF (k : Nat) (d a b imm : Int) (s : RegS) (bd : BoardS) (cyc : Int) : Out :=
  let n : RegS := { s with pc := w32 (s.pc + 4) }
  if k ≤ 13 then ⟨resOk cyc, { n with r := setR s.r d (sumF k (rg s a) (rg s b)) }, bd⟩
  else if k ≤ 22 then ⟨resOk cyc, { n with r := setR s.r d (sumF (longF k) (rg s a) (w32 imm)) }, bd⟩
  else if k = 23 then ⟨resOk cyc, { n with r := setR s.r d (w32 (imm * 16384)) }, bd⟩
  else if k ≤ 28 then
    let at_ := w32 (rg s a + imm)
    let z := sizeF k
    let f := pick1 bd.faults bd.nf
    let c2 := i64 (i64 (cyc + 1) + pick1 bd.cycles bd.nc)
    let v := extF k (pick1 bd.values bd.nv)
    if f = 0 then ⟨{ resOk cyc with cyc := c2, addr := at_, loaded := true, value := v }, { n with r := setR s.r d v }, loadS bd at_ z⟩
    else ⟨resFault c2 f at_, s, loadS bd at_ z⟩
  else if k ≤ 31 then
    let at_ := w32 (rg s a + imm)
    let z := sizeF k
    let f := pick1 bd.faults bd.nf
    let c2 := i64 (i64 (cyc + 1) + pick1 bd.cycles bd.nc)
    let v := rg s b % szM k
    if f = 0 then ⟨{ resOk cyc with cyc := c2 }, n, storeS bd at_ z v⟩
    else ⟨resFault c2 f at_, s, storeS bd at_ z v⟩
  else if k ≤ 37 then ⟨resOk cyc, { s with pc := if brF k (rg s a) (rg s b) then w32 (s.pc + 4 * imm) else w32 (s.pc + 4) }, bd⟩
  else
    match k with
    | 38 => ⟨resOk cyc, { s with r := setR s.r d (w32 (s.pc + 4)), pc := w32 (s.pc + 4 * imm) }, bd⟩
    | 39 => ⟨resOk cyc, { s with r := setR s.r d (w32 (s.pc + 4)), pc := w32 (rg s a + imm) }, bd⟩
    | 40 => ⟨{ resOk cyc with kind := 2, num := imm }, n, bd⟩
    | 41 => ⟨{ resOk cyc with read := true, clk := bd.time }, { n with r := setR s.r d (w32 bd.time) }, clockS bd⟩
    | 42 => ⟨{ resOk cyc with kind := 5 }, n, bd⟩
    | 43 => ⟨resOk cyc, { n with on := true }, bd⟩
    | 44 => ⟨resOk cyc, { n with on := false }, bd⟩
    | 45 => if s.hd then ⟨resOk cyc, { s with pc := s.back, hd := false }, bd⟩ else ⟨resFault (i64 (cyc + 1)) 6 s.pc, s, bd⟩
    | 46 => ⟨resOk cyc, { n with vec := rg s a }, bd⟩
    | 47 => ⟨{ resOk cyc with kind := 4 }, s, bd⟩
    | _ => ⟨resOk cyc, n, bd⟩
def U32 (n : Int) : Prop := 0 ≤ n ∧ n < 4294967296
structure RegOk (s : RegS) : Prop where
  len : s.r.length = 16
  all : ∀ z ∈ s.r, U32 z
  pc : U32 s.pc
  vec : U32 s.vec
  back : U32 s.back
theorem rg_ok {s : RegS} (h : RegOk s) (a : Int) : U32 (rg s a) := by
  unfold rg rgL
  rw [List.getD_eq_getElem?_getD]
  cases e : s.r[a.toNat]? with
  | none => simp [U32]
  | some z => simpa using h.all z (List.mem_of_getElem? e)
/-- What an answer of a memory must be: a number of 32 bits. -/
structure BdOk (s : BoardS) : Prop where
  bnd : BBnd s
  log : s.lk.length < 1000000
  time : 0 ≤ s.time ∧ s.time < 18446744073709551616
  values : ∀ z ∈ s.values, U32 z
end Go.Proofs.YtkljgpepogkgdaaDoor
namespace Go.Proofs.YtkljgpepogkgdaaDoor
open Go Go.Vex
theorem setI2 (r : List Int) (d v : Int) : setI (setI r (toN d) v) 0 0 = setR r d v := by rw [setI_eq, setI_eq, toN_eq]; rfl
theorem giR (r : List Int) (a : Int) : gi r (toN a) = rgL r a := by rw [gi_eq, toN_eq]; rfl
theorem nat_of {x : Int} (h : U32 x) : ∃ n : Nat, x = n ∧ n < 2 ^ 32 := ⟨x.toNat, by have := h.1; omega, by have := h.2; have := h.1; omega⟩
theorem m31 {y : Int} (hy : U32 y) : andI .u32 y 31 = y % 32 := mask_u32 5 (by decide) hy.1 hy.2
theorem sum_1 {x y : Int} : addI .u32 x y = sumF 1 x y := by rw [addI_eq, wrap_u32]; rfl
theorem sum_2 {x y : Int} : subI .u32 x y = sumF 2 x y := by rw [subI_eq, wrap_u32]; rfl
theorem sum_3 {x y : Int} : mulI .u32 x y = sumF 3 x y := by rw [mulI_eq, wrap_u32]; rfl
theorem sum_4z {x y : Int} (h : y = 0) : cplI .u32 y = sumF 4 x y := by subst h; rw [cplI_eq]; simp [sumF, IntKind.wrap, IntKind.bits, IntKind.signed, IntKind.max]
theorem tdiv_u {x y : Int} (hx : U32 x) (hy : U32 y) : x.tdiv y = x / y := Int.tdiv_eq_ediv_of_nonneg hx.1
theorem div_u {x y : Int} (hx : U32 x) (hy : U32 y) : U32 (x / y) := ⟨Int.ediv_nonneg hx.1 hy.1, by
  have := Int.ediv_le_self y hx.1
  have := hx.2
  omega⟩
theorem sum_4 {x y : Int} (hx : U32 x) (hy : U32 y) (h : y ≠ 0) : quoI .u32 x y = sumF 4 x y := by
  rw [quoI_eq, wrap_u32, tdiv_u hx hy]
  have := div_u hx hy
  simp only [sumF, if_neg h]
  exact Int.emod_eq_of_lt this.1 this.2
theorem sum_5z {x y : Int} (h : y = 0) : x = sumF 5 x y := by simp [sumF, h]
theorem sum_5 {x y : Int} (hx : U32 x) (h : y ≠ 0) : remI x y = sumF 5 x y := by
  rw [remI_eq]; simp only [sumF, if_neg h]; exact Int.tmod_eq_emod_of_nonneg hx.1
theorem sum_6 {x y : Int} (hx : U32 x) (hy : U32 y) : andI .u32 x y = sumF 6 x y := by
  obtain ⟨a, rfl, ha⟩ := nat_of hx; obtain ⟨b, rfl, hb⟩ := nat_of hy; rw [and_u32 ha hb]; simp [sumF]
theorem sum_7 {x y : Int} (hx : U32 x) (hy : U32 y) : orI .u32 x y = sumF 7 x y := by
  obtain ⟨a, rfl, ha⟩ := nat_of hx; obtain ⟨b, rfl, hb⟩ := nat_of hy; rw [or_u32 ha hb]; simp [sumF]
theorem sum_8 {x y : Int} (hx : U32 x) (hy : U32 y) : xorI .u32 x y = sumF 8 x y := by
  obtain ⟨a, rfl, ha⟩ := nat_of hx; obtain ⟨b, rfl, hb⟩ := nat_of hy; rw [xor_u32 ha hb]; simp [sumF]
theorem min32 {y : Int} : min (y % 32).toNat 32 = (y % 32).toNat := by omega
theorem sum_9 {x y : Int} (hy : U32 y) : shlI .u32 x (andI .u32 y 31) = sumF 9 x y := by
  rw [m31 hy, shlI_eq, wrap_u32]; show _ * 2 ^ min (y % 32).toNat 32 % _ = _; rw [min32]; rfl
theorem pow_pos' (n : Nat) : (0 : Int) < 2 ^ n := Int.pow_pos (by decide)
theorem sum_10 {x y : Int} (hy : U32 y) : shrI .u32 x (andI .u32 y 31) = sumF 10 x y := by
  rw [m31 hy, shrI_eq]; show Int.fdiv x (2 ^ min (y % 32).toNat 32) = _
  rw [min32, Int.fdiv_eq_ediv_of_nonneg _ (Int.le_of_lt (pow_pos' _))]; rfl
theorem conv_s32 {x : Int} (hx : U32 x) : convI .i32 x = s32 x := by
  have := hx.1; have := hx.2
  rw [convI_eq, wrap_i32]; unfold s32; split <;> split <;> omega
theorem sum_11 {x y : Int} (hx : U32 x) (hy : U32 y) : convI .u32 (shrI .i32 (convI .i32 x) (andI .u32 y 31)) = sumF 11 x y := by
  rw [m31 hy, conv_s32 hx, shrI_eq, convI_eq, wrap_u32]; show Int.fdiv (s32 x) (2 ^ min (y % 32).toNat 32) % _ = _
  rw [min32, Int.fdiv_eq_ediv_of_nonneg _ (Int.le_of_lt (pow_pos' _))]; rfl
theorem sum_12y {x y : Int} (hx : U32 x) (hy : U32 y) (h : ltI (convI .i32 x) (convI .i32 y) = true) : 1 = sumF 12 x y := by
  rw [ltI_eq, decide_eq_true_eq, conv_s32 hx, conv_s32 hy] at h; simp [sumF, h]
theorem sum_12n {x y : Int} (hx : U32 x) (hy : U32 y) (h : ltI (convI .i32 x) (convI .i32 y) = false) : 0 = sumF 12 x y := by
  rw [ltI_eq, decide_eq_false_iff_not, conv_s32 hx, conv_s32 hy] at h; simp only [sumF, if_neg h]
theorem sum_13y {x y : Int} (h : ltI x y = true) : 1 = sumF 13 x y := by rw [ltI_eq, decide_eq_true_eq] at h; simp only [sumF, if_pos h]
theorem sum_13n {x y : Int} (h : ltI x y = false) : 0 = sumF 13 x y := by rw [ltI_eq, decide_eq_false_iff_not] at h; simp only [sumF, if_neg h]
theorem conv_imm {i : Int} : convI .u32 i = w32 i := by rw [convI_eq, wrap_u32]; rfl
theorem w32_ok (n : Int) : U32 (w32 n) := by unfold w32 U32; omega
theorem pc4 (pc : Int) : addI .u32 pc 4 = w32 (pc + 4) := by rw [addI_eq, wrap_u32]; rfl
theorem pcback {pc : Int} (h : U32 pc) : subI .u32 (addI .u32 pc 4) 4 = pc := by
  rw [subI_eq, addI_eq, wrap_u32, wrap_u32]; have := h.1; have := h.2; omega
theorem brTo (pc imm : Int) : addI .u32 (addI .u32 pc 4) (subI .u32 (mulI .u32 4 (convI .u32 imm)) 4) = w32 (pc + 4 * imm) := by
  rw [subI_eq, addI_eq, addI_eq, mulI_eq, convI_eq]; simp only [wrap_u32, w32]; omega
theorem adr (x imm : Int) : addI .u32 x (convI .u32 imm) = w32 (x + imm) := by
  rw [addI_eq, convI_eq]; simp only [wrap_u32, w32]; omega
theorem brc_32 {x y : Int} : eqI x y = brF 32 x y := by rw [eqI_eq]; rfl
theorem brc_33 {x y : Int} : notB (eqI x y) = brF 33 x y := by rw [notB_eq, eqI_eq]; rfl
theorem brc_34 {x y : Int} (hx : U32 x) (hy : U32 y) : ltI (convI .i32 x) (convI .i32 y) = brF 34 x y := by rw [ltI_eq, conv_s32 hx, conv_s32 hy]; rfl
theorem brc_35 {x y : Int} (hx : U32 x) (hy : U32 y) : leI (convI .i32 y) (convI .i32 x) = brF 35 x y := by
  rw [leI_eq, conv_s32 hx, conv_s32 hy]; unfold brF; rw [Bool.eq_iff_iff]; simp
theorem brc_36 {x y : Int} : ltI x y = brF 36 x y := by rw [ltI_eq]; rfl
theorem brc_37 {x y : Int} : leI y x = brF 37 x y := by rw [leI_eq]; unfold brF; rw [Bool.eq_iff_iff]; simp
theorem lui_v {imm : Int} : shlI .u32 (convI .u32 imm) 14 = w32 (imm * 16384) := by
  rw [conv_imm, shlI_eq, wrap_u32]
  show w32 imm * 16384 % _ = _
  unfold w32; omega
theorem ext_24 {v : Int} (h : U32 v) : convI .u32 (shrI .i32 (convI .i32 (shlI .u32 (andI .u32 v 255) 24)) 24) = extF 24 v := by
  have e : andI .u32 v 255 = v % 256 := mask_u32 8 (by decide) h.1 h.2
  rw [e, convI_eq, convI_eq, shrI_eq, shlI_eq]
  show IntKind.u32.wrap (Int.fdiv (IntKind.i32.wrap (IntKind.u32.wrap (v % 256 * 16777216))) 16777216) = _
  rw [Int.fdiv_eq_ediv_of_nonneg _ (by decide), wrap_u32, wrap_u32, wrap_i32]; unfold extF w32; simp only; omega
theorem ext_25 {v : Int} (h : U32 v) : convI .u32 (shrI .i32 (convI .i32 (shlI .u32 (andI .u32 v 255) 0)) 0) = extF 25 v := by
  have e : andI .u32 v 255 = v % 256 := mask_u32 8 (by decide) h.1 h.2
  rw [e, convI_eq, convI_eq, shrI_eq, shlI_eq]
  show IntKind.u32.wrap (Int.fdiv (IntKind.i32.wrap (IntKind.u32.wrap (v % 256 * 1))) 1) = _
  rw [Int.fdiv_eq_ediv_of_nonneg _ (by decide), wrap_u32, wrap_u32, wrap_i32]; unfold extF; simp only; omega
theorem ext_26 {v : Int} (h : U32 v) : convI .u32 (shrI .i32 (convI .i32 (shlI .u32 (andI .u32 v 65535) 16)) 16) = extF 26 v := by
  have e : andI .u32 v 65535 = v % 65536 := mask_u32 16 (by decide) h.1 h.2
  rw [e, convI_eq, convI_eq, shrI_eq, shlI_eq]
  show IntKind.u32.wrap (Int.fdiv (IntKind.i32.wrap (IntKind.u32.wrap (v % 65536 * 65536))) 65536) = _
  rw [Int.fdiv_eq_ediv_of_nonneg _ (by decide), wrap_u32, wrap_u32, wrap_i32]; unfold extF w32; simp only; omega
theorem ext_27 {v : Int} (h : U32 v) : convI .u32 (shrI .i32 (convI .i32 (shlI .u32 (andI .u32 v 65535) 0)) 0) = extF 27 v := by
  have e : andI .u32 v 65535 = v % 65536 := mask_u32 16 (by decide) h.1 h.2
  rw [e, convI_eq, convI_eq, shrI_eq, shlI_eq]
  show IntKind.u32.wrap (Int.fdiv (IntKind.i32.wrap (IntKind.u32.wrap (v % 65536 * 1))) 1) = _
  rw [Int.fdiv_eq_ediv_of_nonneg _ (by decide), wrap_u32, wrap_u32, wrap_i32]; unfold extF; simp only; omega
theorem ext_28 {v : Int} (h : U32 v) : convI .u32 (shrI .i32 (convI .i32 (shlI .u32 (andI .u32 v 4294967295) 0)) 0) = extF 28 v := by
  have e : andI .u32 v 4294967295 = v % 4294967296 := mask_u32 32 (by decide) h.1 h.2
  have := h.1; have := h.2
  rw [e, convI_eq, convI_eq, shrI_eq, shlI_eq]
  show IntKind.u32.wrap (Int.fdiv (IntKind.i32.wrap (IntKind.u32.wrap (v % 4294967296 * 1))) 1) = _
  rw [Int.fdiv_eq_ediv_of_nonneg _ (by decide), wrap_u32, wrap_u32, wrap_i32]; unfold extF; simp only; omega
theorem msk_1 {v : Int} (h : U32 v) : andI .u32 v 255 = v % 256 := mask_u32 8 (by decide) h.1 h.2
theorem msk_2 {v : Int} (h : U32 v) : andI .u32 v 65535 = v % 65536 := mask_u32 16 (by decide) h.1 h.2
theorem msk_4 {v : Int} (h : U32 v) : andI .u32 v 4294967295 = v % 4294967296 := mask_u32 32 (by decide) h.1 h.2
theorem pick1_ok {bd : BoardS} (h : BdOk bd) : U32 (pick1 bd.values bd.nv) := by
  unfold pick1
  rw [List.getD_eq_getElem?_getD]
  cases e : bd.values[(nextV bd.nv bd.values.length).toNat]? with
  | none => simp [U32]
  | some z => simpa using h.values z (List.mem_of_getElem? e)
end Go.Proofs.YtkljgpepogkgdaaDoor
