/-
  VEX, part 2: reading and writing the cells of a resource, by symbolic values and in the world.
-/
import Derived.Test.YtkljgpepogkgdaaDoorV1
set_option linter.unusedSimpArgs false
namespace Go.Vex
set_option linter.unusedVariables false
noncomputable section

/-! ### Leaves: operations on expressions. The evaluator cannot look into them: each is what 'leafR' says, by an equation (a constant that is chosen). -/
structure LeafT where
  gi : ∀ (zs : List Int) (n : Nat), Int
  setI : ∀ (zs : List Int) (n : Nat) (z : Int), List Int
  upd : ∀ (f : Nat → List SV) (i : Nat) (l : List SV), (Nat → List SV)
  nLt : ∀ (a b : Nat), Prop
  nLe : ∀ (a b : Nat), Prop
  inR : ∀ (i : Int) (n : Nat), Prop
  toN : ∀ (i : Int), Nat
  addN : ∀ (a b : Nat), Nat
  addI : ∀ (k : IntKind) (a b : Int), Int
  subI : ∀ (k : IntKind) (a b : Int), Int
  mulI : ∀ (k : IntKind) (a b : Int), Int
  quoI : ∀ (k : IntKind) (a b : Int), Int
  remI : ∀ (a b : Int), Int
  andI : ∀ (k : IntKind) (a b : Int), Int
  orI : ∀ (k : IntKind) (a b : Int), Int
  xorI : ∀ (k : IntKind) (a b : Int), Int
  clrI : ∀ (k : IntKind) (a b : Int), Int
  shlI : ∀ (k : IntKind) (a n : Int), Int
  shrI : ∀ (k : IntKind) (a n : Int), Int
  convI : ∀ (k : IntKind) (a : Int), Int
  cplI : ∀ (k : IntKind) (a : Int), Int
  eqI : ∀ (a b : Int), Bool
  ltI : ∀ (a b : Int), Bool
  leI : ∀ (a b : Int), Bool
  eqB : ∀ (a b : Bool), Bool
  notB : ∀ (a : Bool), Bool
  andB : ∀ (a b : Bool), Bool
  neZ : ∀ (a : Int), Prop
  geZ : ∀ (a : Int), Prop
  leR : ∀ (i : Int) (n : Nat), Prop
  subN : ∀ (a b : Nat), Nat
  shN : ∀ (cap o l : Nat), Nat
  ofN : ∀ (n : Nat), Int
  mkOk : ∀ (len cap : Int) (bytes : Nat), Prop
  zerosI : ∀ (n : Nat), List Int
  Br : ∀ (t : Bool) (A B : Unit → Prop), Prop
  appI : ∀ (a b : List Int), List Int
  jn : ∀ (f g : Nat → List SV) (m : Nat), (Nat → List SV)
  apOk : ∀ (need bytes : Nat), Prop
  eqN : ∀ (a b : Nat), Prop
  AllN : ∀ (n : Nat) (K : Nat → Prop), Prop
  chunk : ∀ (l : List SV) (w : Nat), (Nat → List SV)
  eqL : ∀ (a b : List Int), Bool
  takI : ∀ (n : Nat) (zs : List Int), List Int
  drpI : ∀ (n : Nat) (zs : List Int), List Int
def leafR : LeafT where
  gi := fun zs n => zs.getD n 0
  setI := fun zs n z => zs.set n z
  upd := fun f i l => fun j => if j = i then l else f j
  nLt := fun a b => a < b
  nLe := fun a b => a ≤ b
  inR := fun i n => 0 ≤ i ∧ i < n
  toN := fun i => i.toNat
  addN := fun a b => a + b
  addI := fun k a b => k.wrap (a + b)
  subI := fun k a b => k.wrap (a - b)
  mulI := fun k a b => k.wrap (a * b)
  quoI := fun k a b => k.wrap (a.tdiv b)
  remI := fun a b => a.tmod b
  andI := fun k a b => k.wrap (BitVec.ofInt k.bits a &&& BitVec.ofInt k.bits b).toNat
  orI := fun k a b => k.wrap (BitVec.ofInt k.bits a ||| BitVec.ofInt k.bits b).toNat
  xorI := fun k a b => k.wrap (BitVec.ofInt k.bits a ^^^ BitVec.ofInt k.bits b).toNat
  clrI := fun k a b => k.wrap (BitVec.ofInt k.bits a &&& ~~~ BitVec.ofInt k.bits b).toNat
  shlI := fun k a n => k.wrap (a * 2 ^ min n.toNat k.bits)
  shrI := fun k a n => a.fdiv (2 ^ min n.toNat k.bits)
  convI := fun k a => k.wrap a
  cplI := fun k a => k.wrap (BitVec.ofInt k.bits (if k.signed then -1 else k.max) ^^^ BitVec.ofInt k.bits a).toNat
  eqI := fun a b => a == b
  ltI := fun a b => decide (a < b)
  leI := fun a b => decide (a ≤ b)
  eqB := fun a b => a == b
  notB := fun a => !a
  andB := fun a b => a && b
  neZ := fun a => a ≠ 0
  geZ := fun a => 0 ≤ a
  leR := fun i n => 0 ≤ i ∧ i ≤ n
  subN := fun a b => a - b
  shN := fun cap o l => if cap = l then o else o + l
  ofN := fun n => (n : Int)
  mkOk := fun len cap bytes => 0 ≤ len ∧ len ≤ cap ∧ (bytes : Int) * cap ≤ 281474976710656
  zerosI := fun n => List.replicate n 0
  Br := fun t A B => (t = true → A ()) ∧ (t = false → B ())
  appI := fun a b => a ++ b
  jn := fun f g m => fun j => if j < m then f j else g (j - m)
  apOk := fun need bytes => need * bytes ≤ 140737488355328 ∧ need ≤ 140737488355328
  eqN := fun a b => a = b
  AllN := fun n K => ∀ c, n ≤ c → K c
  chunk := fun l w => fun j => (l.drop (j * w)).take w
  eqL := fun a b => a == b
  takI := fun n zs => zs.take n
  drpI := fun n zs => zs.drop n
noncomputable def leaf : { L : LeafT // L = leafR } := Classical.choice ⟨⟨leafR, rfl⟩⟩
noncomputable def gi (zs : List Int) (n : Nat) : Int := leaf.1.gi zs n
theorem gi_eq (zs : List Int) (n : Nat) : gi zs n = (zs.getD n 0) := by unfold gi; rw [leaf.2]; rfl
noncomputable def setI (zs : List Int) (n : Nat) (z : Int) : List Int := leaf.1.setI zs n z
theorem setI_eq (zs : List Int) (n : Nat) (z : Int) : setI zs n z = (zs.set n z) := by unfold setI; rw [leaf.2]; rfl
noncomputable def upd (f : Nat → List SV) (i : Nat) (l : List SV) : (Nat → List SV) := leaf.1.upd f i l
theorem upd_eq (f : Nat → List SV) (i : Nat) (l : List SV) : upd f i l = (fun j => if j = i then l else f j) := by unfold upd; rw [leaf.2]; rfl
noncomputable def nLt (a b : Nat) : Prop := leaf.1.nLt a b
theorem nLt_eq (a b : Nat) : nLt a b = (a < b) := by unfold nLt; rw [leaf.2]; rfl
noncomputable def nLe (a b : Nat) : Prop := leaf.1.nLe a b
theorem nLe_eq (a b : Nat) : nLe a b = (a ≤ b) := by unfold nLe; rw [leaf.2]; rfl
noncomputable def inR (i : Int) (n : Nat) : Prop := leaf.1.inR i n
theorem inR_eq (i : Int) (n : Nat) : inR i n = (0 ≤ i ∧ i < n) := by unfold inR; rw [leaf.2]; rfl
noncomputable def toN (i : Int) : Nat := leaf.1.toN i
theorem toN_eq (i : Int) : toN i = (i.toNat) := by unfold toN; rw [leaf.2]; rfl
noncomputable def addN (a b : Nat) : Nat := leaf.1.addN a b
theorem addN_eq (a b : Nat) : addN a b = (a + b) := by unfold addN; rw [leaf.2]; rfl
noncomputable def addI (k : IntKind) (a b : Int) : Int := leaf.1.addI k a b
theorem addI_eq (k : IntKind) (a b : Int) : addI k a b = (k.wrap (a + b)) := by unfold addI; rw [leaf.2]; rfl
noncomputable def subI (k : IntKind) (a b : Int) : Int := leaf.1.subI k a b
theorem subI_eq (k : IntKind) (a b : Int) : subI k a b = (k.wrap (a - b)) := by unfold subI; rw [leaf.2]; rfl
noncomputable def mulI (k : IntKind) (a b : Int) : Int := leaf.1.mulI k a b
theorem mulI_eq (k : IntKind) (a b : Int) : mulI k a b = (k.wrap (a * b)) := by unfold mulI; rw [leaf.2]; rfl
noncomputable def quoI (k : IntKind) (a b : Int) : Int := leaf.1.quoI k a b
theorem quoI_eq (k : IntKind) (a b : Int) : quoI k a b = (k.wrap (a.tdiv b)) := by unfold quoI; rw [leaf.2]; rfl
noncomputable def remI (a b : Int) : Int := leaf.1.remI a b
theorem remI_eq (a b : Int) : remI a b = (a.tmod b) := by unfold remI; rw [leaf.2]; rfl
noncomputable def andI (k : IntKind) (a b : Int) : Int := leaf.1.andI k a b
theorem andI_eq (k : IntKind) (a b : Int) : andI k a b = (k.wrap (BitVec.ofInt k.bits a &&& BitVec.ofInt k.bits b).toNat) := by unfold andI; rw [leaf.2]; rfl
noncomputable def orI (k : IntKind) (a b : Int) : Int := leaf.1.orI k a b
theorem orI_eq (k : IntKind) (a b : Int) : orI k a b = (k.wrap (BitVec.ofInt k.bits a ||| BitVec.ofInt k.bits b).toNat) := by unfold orI; rw [leaf.2]; rfl
noncomputable def xorI (k : IntKind) (a b : Int) : Int := leaf.1.xorI k a b
theorem xorI_eq (k : IntKind) (a b : Int) : xorI k a b = (k.wrap (BitVec.ofInt k.bits a ^^^ BitVec.ofInt k.bits b).toNat) := by unfold xorI; rw [leaf.2]; rfl
noncomputable def clrI (k : IntKind) (a b : Int) : Int := leaf.1.clrI k a b
theorem clrI_eq (k : IntKind) (a b : Int) : clrI k a b = (k.wrap (BitVec.ofInt k.bits a &&& ~~~ BitVec.ofInt k.bits b).toNat) := by unfold clrI; rw [leaf.2]; rfl
noncomputable def shlI (k : IntKind) (a n : Int) : Int := leaf.1.shlI k a n
theorem shlI_eq (k : IntKind) (a n : Int) : shlI k a n = (k.wrap (a * 2 ^ min n.toNat k.bits)) := by unfold shlI; rw [leaf.2]; rfl
noncomputable def shrI (k : IntKind) (a n : Int) : Int := leaf.1.shrI k a n
theorem shrI_eq (k : IntKind) (a n : Int) : shrI k a n = (a.fdiv (2 ^ min n.toNat k.bits)) := by unfold shrI; rw [leaf.2]; rfl
noncomputable def convI (k : IntKind) (a : Int) : Int := leaf.1.convI k a
theorem convI_eq (k : IntKind) (a : Int) : convI k a = (k.wrap a) := by unfold convI; rw [leaf.2]; rfl
noncomputable def cplI (k : IntKind) (a : Int) : Int := leaf.1.cplI k a
theorem cplI_eq (k : IntKind) (a : Int) : cplI k a = (k.wrap (BitVec.ofInt k.bits (if k.signed then -1 else k.max) ^^^ BitVec.ofInt k.bits a).toNat) := by unfold cplI; rw [leaf.2]; rfl
noncomputable def eqI (a b : Int) : Bool := leaf.1.eqI a b
theorem eqI_eq (a b : Int) : eqI a b = (a == b) := by unfold eqI; rw [leaf.2]; rfl
noncomputable def ltI (a b : Int) : Bool := leaf.1.ltI a b
theorem ltI_eq (a b : Int) : ltI a b = (decide (a < b)) := by unfold ltI; rw [leaf.2]; rfl
noncomputable def leI (a b : Int) : Bool := leaf.1.leI a b
theorem leI_eq (a b : Int) : leI a b = (decide (a ≤ b)) := by unfold leI; rw [leaf.2]; rfl
noncomputable def eqB (a b : Bool) : Bool := leaf.1.eqB a b
theorem eqB_eq (a b : Bool) : eqB a b = (a == b) := by unfold eqB; rw [leaf.2]; rfl
noncomputable def notB (a : Bool) : Bool := leaf.1.notB a
theorem notB_eq (a : Bool) : notB a = (!a) := by unfold notB; rw [leaf.2]; rfl
noncomputable def andB (a b : Bool) : Bool := leaf.1.andB a b
theorem andB_eq (a b : Bool) : andB a b = (a && b) := by unfold andB; rw [leaf.2]; rfl
noncomputable def neZ (a : Int) : Prop := leaf.1.neZ a
theorem neZ_eq (a : Int) : neZ a = (a ≠ 0) := by unfold neZ; rw [leaf.2]; rfl
noncomputable def geZ (a : Int) : Prop := leaf.1.geZ a
theorem geZ_eq (a : Int) : geZ a = (0 ≤ a) := by unfold geZ; rw [leaf.2]; rfl
noncomputable def leR (i : Int) (n : Nat) : Prop := leaf.1.leR i n
theorem leR_eq (i : Int) (n : Nat) : leR i n = (0 ≤ i ∧ i ≤ n) := by unfold leR; rw [leaf.2]; rfl
noncomputable def subN (a b : Nat) : Nat := leaf.1.subN a b
theorem subN_eq (a b : Nat) : subN a b = (a - b) := by unfold subN; rw [leaf.2]; rfl
noncomputable def shN (cap o l : Nat) : Nat := leaf.1.shN cap o l
theorem shN_eq (cap o l : Nat) : shN cap o l = (if cap = l then o else o + l) := by unfold shN; rw [leaf.2]; rfl
noncomputable def ofN (n : Nat) : Int := leaf.1.ofN n
theorem ofN_eq (n : Nat) : ofN n = ((n : Int)) := by unfold ofN; rw [leaf.2]; rfl
noncomputable def mkOk (len cap : Int) (bytes : Nat) : Prop := leaf.1.mkOk len cap bytes
theorem mkOk_eq (len cap : Int) (bytes : Nat) : mkOk len cap bytes = (0 ≤ len ∧ len ≤ cap ∧ (bytes : Int) * cap ≤ 281474976710656) := by unfold mkOk; rw [leaf.2]; rfl
noncomputable def zerosI (n : Nat) : List Int := leaf.1.zerosI n
theorem zerosI_eq (n : Nat) : zerosI n = (List.replicate n 0) := by unfold zerosI; rw [leaf.2]; rfl
noncomputable def Br (t : Bool) (A B : Unit → Prop) : Prop := leaf.1.Br t A B
theorem Br_eq (t : Bool) (A B : Unit → Prop) : Br t A B = ((t = true → A ()) ∧ (t = false → B ())) := by unfold Br; rw [leaf.2]; rfl
noncomputable def appI (a b : List Int) : List Int := leaf.1.appI a b
theorem appI_eq (a b : List Int) : appI a b = (a ++ b) := by unfold appI; rw [leaf.2]; rfl
noncomputable def jn (f g : Nat → List SV) (m : Nat) : (Nat → List SV) := leaf.1.jn f g m
theorem jn_eq (f g : Nat → List SV) (m : Nat) : jn f g m = (fun j => if j < m then f j else g (j - m)) := by unfold jn; rw [leaf.2]; rfl
noncomputable def apOk (need bytes : Nat) : Prop := leaf.1.apOk need bytes
theorem apOk_eq (need bytes : Nat) : apOk need bytes = (need * bytes ≤ 140737488355328 ∧ need ≤ 140737488355328) := by unfold apOk; rw [leaf.2]; rfl
noncomputable def eqN (a b : Nat) : Prop := leaf.1.eqN a b
theorem eqN_eq (a b : Nat) : eqN a b = (a = b) := by unfold eqN; rw [leaf.2]; rfl
noncomputable def AllN (n : Nat) (K : Nat → Prop) : Prop := leaf.1.AllN n K
theorem AllN_eq (n : Nat) (K : Nat → Prop) : AllN n K = (∀ c, n ≤ c → K c) := by unfold AllN; rw [leaf.2]; rfl
noncomputable def chunk (l : List SV) (w : Nat) : (Nat → List SV) := leaf.1.chunk l w
theorem chunk_eq (l : List SV) (w : Nat) : chunk l w = (fun j => (l.drop (j * w)).take w) := by unfold chunk; rw [leaf.2]; rfl
noncomputable def eqL (a b : List Int) : Bool := leaf.1.eqL a b
theorem eqL_eq (a b : List Int) : eqL a b = (a == b) := by unfold eqL; rw [leaf.2]; rfl
noncomputable def takI (n : Nat) (zs : List Int) : List Int := leaf.1.takI n zs
theorem takI_eq (n : Nat) (zs : List Int) : takI n zs = zs.take n := by unfold takI; rw [leaf.2]; rfl
noncomputable def drpI (n : Nat) (zs : List Int) : List Int := leaf.1.drpI n zs
theorem drpI_eq (n : Nat) (zs : List Int) : drpI n zs = zs.drop n := by unfold drpI; rw [leaf.2]; rfl

/-- How many cells a symbolic value fills, if that is a numeral. -/
def sizeS : SV → Option Nat
  | .ints _ (.lit m) _ => some m
  | .ints _ (.ex _) _ => none
  | .rows w (.lit m) _ => some (m * w)
  | .rows _ (.ex _) _ => none
  | .junk w (.lit m) => some (m * w)
  | .junk _ (.ex _) => none
  | _ => some 1

def single : SV → Bool
  | .ints .. | .rows .. | .junk .. => false
  | _ => true

/-- An element of a row: all of a row's are single. -/
def nthS : List SV → Nat → Option SV
  | [], _ => none
  | v :: r, n => if single v then (if n = 0 then some v else nthS r (n - 1)) else none

def getAt : List SV → Nat → (SV → Prop) → Prop
  | [], _, _ => False
  | v :: r, n, K =>
    match v with
    | .ints k m zs =>
      match m with
      | .lit m => if n < m then K (.i k (.ex (gi zs n))) else getAt r (n - m) K
      | .ex m => nLt n m ∧ K (.i k (.ex (gi zs n)))
    | .rows w m f =>
      match m with
      | .lit m => if n < m * w then (match nthS (f (n / w)) (n % w) with | some v => K v | none => False) else getAt r (n - m * w) K
      | .ex m => nLt n (m * w) ∧ (match nthS (f (n / w)) (n % w) with | some v => K v | none => False)
    | .junk w m =>
      match m with
      | .lit m => if n < m * w then False else getAt r (n - m * w) K
      | .ex _ => False
    | v => if n = 0 then K v else getAt r (n - 1) K

theorem DenC.single {ρ : Rho} {x : SV} {cs : List Value} (h : DenC ρ x cs) (hx : single x = true) : ∃ c, cs = [c] ∧ oneC c = true ∧ Den ρ x c := by
  cases h with
  | one c h h1 hx => exact ⟨c, h, h1, hx⟩
  | ints hm h => simp [Vex.single] at hx
  | rows hm h => simp [Vex.single] at hx
  | junk hm h => simp [Vex.single] at hx
theorem Den.not_junk {ρ : Rho} {w : Nat} {m : S Nat} {v : Value} (h : Den ρ (.junk w m) v) : False := by cases h
theorem DenC.of_junk {ρ : Rho} {w : Nat} {m : S Nat} {cs : List Value} (h : DenC ρ (.junk w m) cs) : cs.length = m.val * w ∧ ∀ c ∈ cs, oneC c = true := by
  cases h with
  | one c h h1 hx => exact hx.not_junk.elim
  | junk hm h => exact ⟨hm, h⟩
theorem Den.not_ints {ρ : Rho} {k : IntKind} {m : S Nat} {zs : List Int} {v : Value} (h : Den ρ (.ints k m zs) v) : False := by cases h
theorem Den.not_rows {ρ : Rho} {w : Nat} {m : S Nat} {f : Nat → List SV} {v : Value} (h : Den ρ (.rows w m f) v) : False := by cases h
theorem DenC.of_ints {ρ : Rho} {k : IntKind} {m : S Nat} {zs : List Int} {cs : List Value} (h : DenC ρ (.ints k m zs) cs) : zs.length = m.val ∧ cs = zs.map (Value.int k) := by
  cases h with
  | one c h h1 hx => exact hx.not_ints.elim
  | ints hm h => exact ⟨hm, h⟩
theorem DenC.of_rows {ρ : Rho} {w : Nat} {m : S Nat} {f : Nat → List SV} {cs : List Value} (h : DenC ρ (.rows w m f) cs) :
    cs.length = m.val * w ∧ ∀ j, j < m.val → DenL ρ (f j) ((cs.drop (j * w)).take w) := by
  cases h with
  | one c h h1 hx => exact hx.not_rows.elim
  | rows hm h => exact ⟨hm, h⟩
theorem DenL.of_cons {ρ : Rho} {x : SV} {r : List SV} {cs : List Value} (h : DenL ρ (x :: r) cs) : ∃ c1 c2, cs = c1 ++ c2 ∧ DenC ρ x c1 ∧ DenL ρ r c2 := by
  cases h with | cons c1 c2 h h1 h2 => exact ⟨c1, c2, h, h1, h2⟩
theorem DenL.of_nil {ρ : Rho} {cs : List Value} (h : DenL ρ [] cs) : cs = [] := by cases h with | nil h => exact h

theorem sizeS_len {ρ : Rho} {x : SV} {cs : List Value} {n : Nat} (h : DenC ρ x cs) (hn : sizeS x = some n) : cs.length = n := by
  cases h with
  | one c h h1 hx => subst h; cases hx <;> simp_all [sizeS]
  | @ints k m zs cs hm h =>
    cases m with
    | lit m => simp only [sizeS, Option.some.injEq] at hn; subst hn; subst h; simpa using hm
    | ex m => simp [sizeS] at hn
  | @rows w m f cs hm h =>
    cases m with
    | lit m => simp only [sizeS, Option.some.injEq] at hn; subst hn; simpa using hm
    | ex m => simp [sizeS] at hn
  | @junk w m cs hm h =>
    cases m with
    | lit m => simp only [sizeS, Option.some.injEq] at hn; subst hn; simpa using hm
    | ex m => simp [sizeS] at hn

theorem ints_get {k : IntKind} {zs : List Int} {n : Nat} (h : n < zs.length) : (zs.map (Value.int k))[n]? = some (.int k (gi zs n)) := by
  rw [gi_eq]
  rw [List.getElem?_map, List.getElem?_eq_getElem h]
  simp [List.getD, List.getElem?_eq_getElem h]

theorem rows_div {n w m : Nat} (h : n < m * w) : n / w < m ∧ n % w < w ∧ n / w * w + n % w = n := by
  have hw : 0 < w := by
    rcases Nat.eq_zero_or_pos w with h0 | h0
    · subst h0; simp at h
    · exact h0
  refine ⟨(Nat.div_lt_iff_lt_mul hw).2 h, Nat.mod_lt _ hw, ?_⟩
  rw [Nat.mul_comm]; exact Nat.div_add_mod n w

theorem drop_take_get {α : Type} (cs : List α) (a w j : Nat) (hj : j < w) : ((cs.drop a).take w)[j]? = cs[a + j]? := by
  rw [List.getElem?_take_of_lt hj, List.getElem?_drop]

theorem nthS_sound {ρ : Rho} : ∀ (l : List SV) (n : Nat) (cs : List Value) (v : SV), DenL ρ l cs → nthS l n = some v → ∃ c, cs[n]? = some c ∧ oneC c = true ∧ Den ρ v c
  | [], n, cs, v, _, h => by simp [nthS] at h
  | x :: r, n, cs, v, hd, h => by
    obtain ⟨c1, c2, rfl, h1, h2⟩ := hd.of_cons
    unfold nthS at h
    split at h
    · rename_i hs
      obtain ⟨c, rfl, g1, g2⟩ := h1.single hs
      split at h
      · rename_i hn; subst hn; cases h; exact ⟨c, by simp, g1, g2⟩
      · obtain ⟨c', e1, e2, e3⟩ := nthS_sound r (n - 1) c2 v h2 h
        obtain ⟨n', rfl⟩ : ∃ n', n = n' + 1 := ⟨n - 1, by omega⟩
        exact ⟨c', by simpa using e1, e2, e3⟩
    · cases h

theorem row_get {ρ : Rho} {w m : Nat} {f : Nat → List SV} {cs : List Value} {n : Nat} {K : SV → Prop} (hm : cs.length = m * w)
    (hr : ∀ j, j < m → DenL ρ (f j) ((cs.drop (j * w)).take w)) (hlt : n < m * w)
    (h : match nthS (f (n / w)) (n % w) with | some v => K v | none => False) : ∃ v c, cs[n]? = some c ∧ oneC c = true ∧ Den ρ v c ∧ K v := by
  obtain ⟨e1, e2, e3⟩ := rows_div hlt
  split at h
  · rename_i v hv
    obtain ⟨c, g1, g2, g3⟩ := nthS_sound _ _ _ _ (hr _ e1) hv
    rw [drop_take_get _ _ _ _ e2, e3] at g1
    exact ⟨v, c, g1, g2, g3, h⟩
  · exact h.elim

theorem getAt_sound {ρ : Rho} : ∀ (l : List SV) (n : Nat) (K : SV → Prop) (cs : List Value), DenL ρ l cs → getAt l n K →
    ∃ v c, cs[n]? = some c ∧ oneC c = true ∧ Den ρ v c ∧ K v
  | [], n, K, cs, _, h => by simp [getAt] at h
  | x :: r, n, K, cs, hd, h => by
    obtain ⟨c1, c2, rfl, h1, h2⟩ := hd.of_cons
    by_cases hs : single x = true
    · obtain ⟨c, rfl, g1, g2⟩ := h1.single hs
      have h' : if n = 0 then K x else getAt r (n - 1) K := by cases x <;> first | exact h | simp [single] at hs
      split at h'
      · rename_i hn; subst hn; exact ⟨x, c, by simp, g1, g2, h'⟩
      · obtain ⟨v', c', e1, e2, e3, e4⟩ := getAt_sound r (n - 1) K c2 h2 h'
        obtain ⟨n', rfl⟩ : ∃ n', n = n' + 1 := ⟨n - 1, by omega⟩
        exact ⟨v', c', by simpa using e1, e2, e3, e4⟩
    · cases x <;> try (simp [single] at hs; done)
      case ints k m zs =>
        obtain ⟨hm, rfl⟩ := h1.of_ints
        cases m with
        | lit m =>
          have h' : if n < m then K (.i k (.ex (gi zs n))) else getAt r (n - m) K := h
          simp only [S.val_lit] at hm
          split at h'
          · rename_i hlt
            exact ⟨_, .int k (gi zs n), by rw [List.getElem?_append_left (by simpa [hm] using hlt)]; exact ints_get (by omega), rfl, .i rfl, h'⟩
          · rename_i hlt
            obtain ⟨v, c, e1, e2, e3, e4⟩ := getAt_sound r (n - m) K c2 h2 h'
            exact ⟨v, c, by rw [List.getElem?_append_right (by simp; omega)]; simpa [hm] using e1, e2, e3, e4⟩
        | ex m =>
          obtain ⟨hlt, h'⟩ : nLt n m ∧ K (.i k (.ex (gi zs n))) := h
          rw [nLt_eq] at hlt
          simp only [S.val_ex] at hm
          exact ⟨_, .int k (gi zs n), by rw [List.getElem?_append_left (by simp; omega)]; exact ints_get (by omega), rfl, .i rfl, h'⟩
      case rows w m f =>
        obtain ⟨hm, hr⟩ := h1.of_rows
        cases m with
        | lit m =>
          have h' : if n < m * w then (match nthS (f (n / w)) (n % w) with | some v => K v | none => False) else getAt r (n - m * w) K := h
          simp only [S.val_lit] at hm hr
          split at h'
          · rename_i hlt
            obtain ⟨v, c, g1, g2, g3, g4⟩ := row_get hm hr hlt h'
            exact ⟨v, c, by rw [List.getElem?_append_left (by omega)]; exact g1, g2, g3, g4⟩
          · obtain ⟨v, c, e1, e2, e3, e4⟩ := getAt_sound r (n - m * w) K c2 h2 h'
            exact ⟨v, c, by rw [List.getElem?_append_right (by omega)]; simpa [hm] using e1, e2, e3, e4⟩
        | ex m =>
          obtain ⟨hlt, h'⟩ : nLt n (m * w) ∧ (match nthS (f (n / w)) (n % w) with | some v => K v | none => False) := h
          rw [nLt_eq] at hlt
          simp only [S.val_ex] at hm hr
          obtain ⟨v, c, g1, g2, g3, g4⟩ := row_get hm hr hlt h'
          exact ⟨v, c, by rw [List.getElem?_append_left (by omega)]; exact g1, g2, g3, g4⟩
      case junk w m =>
        obtain ⟨hm, hr⟩ := h1.of_junk
        cases m with
        | lit m =>
          have h' : if n < m * w then False else getAt r (n - m * w) K := h
          simp only [S.val_lit] at hm
          split at h'
          · exact h'.elim
          · obtain ⟨v, c, e1, e2, e3, e4⟩ := getAt_sound r (n - m * w) K c2 h2 h'
            exact ⟨v, c, by rw [List.getElem?_append_right (by omega)]; simpa [hm] using e1, e2, e3, e4⟩
        | ex m => exact (show False from h).elim

/-! ### An expression for the index: l + i * w + c -/
def headRow (v : SV) (i w c : Nat) (K : SV → Prop) : Prop :=
  match v with
  | .ints k m zs => if w = 1 then (if c = 0 then nLt i m.val ∧ K (.i k (.ex (gi zs i))) else False) else False
  | .rows w' m f => if w' = w then (if c < w then nLt i m.val ∧ (match nthS (f i) c with | some v => K v | none => False) else False) else False
  | _ => False
def getRow : List SV → Nat → Nat → Nat → Nat → (SV → Prop) → Prop
  | [], _, _, _, _, _ => False
  | v :: r, l, i, w, c, K =>
    if l = 0 then headRow v i w c K
    else match sizeS v with
      | some s => if s ≤ l then getRow r (l - s) i w c K else False
      | none => False

theorem headRow_sound {ρ : Rho} {v : SV} {i w c : Nat} {K : SV → Prop} {c1 : List Value} (hd : DenC ρ v c1) (h : headRow v i w c K) :
    ∃ v u, c1[i * w + c]? = some u ∧ oneC u = true ∧ Den ρ v u ∧ K v := by
  unfold headRow at h
  split at h
  · rename_i k m zs
    obtain ⟨hm, rfl⟩ := hd.of_ints
    split at h
    · split at h
      · obtain ⟨hlt, h⟩ := h
        rw [nLt_eq] at hlt
        rename_i e1 e2; subst e1; subst e2
        refine ⟨_, .int k (gi zs i), ?_, rfl, .i rfl, h⟩
        simp only [Nat.mul_one, Nat.add_zero]
        exact ints_get (by omega)
      · exact h.elim
    · exact h.elim
  · rename_i w' m f
    obtain ⟨hm, hr⟩ := hd.of_rows
    split at h
    · split at h
      · obtain ⟨hlt, h⟩ := h
        rw [nLt_eq] at hlt
        rename_i e1 e2; subst e1
        split at h
        · rename_i v hv
          obtain ⟨u, g1, g2, g3⟩ := nthS_sound _ _ _ _ (hr _ hlt) hv
          rw [drop_take_get _ _ _ _ e2] at g1
          exact ⟨v, u, g1, g2, g3, h⟩
        · exact h.elim
      · exact h.elim
    · exact h.elim
  · exact h.elim

theorem getRow_sound {ρ : Rho} : ∀ (l : List SV) (b i w c : Nat) (K : SV → Prop) (cs : List Value), DenL ρ l cs → getRow l b i w c K →
    ∃ v u, cs[b + i * w + c]? = some u ∧ oneC u = true ∧ Den ρ v u ∧ K v
  | [], b, i, w, c, K, cs, _, h => by simp [getRow] at h
  | x :: r, b, i, w, c, K, cs, hd, h => by
    obtain ⟨c1, c2, rfl, h1, h2⟩ := hd.of_cons
    unfold getRow at h
    split at h
    · rename_i e; subst e
      obtain ⟨v, u, g1, g2⟩ := headRow_sound h1 h
      refine ⟨v, u, ?_, g2⟩
      rw [Nat.zero_add, List.getElem?_append_left (List.getElem?_eq_some_iff.1 g1).1]; exact g1
    · split at h
      · rename_i s hs
        have hl := sizeS_len h1 hs
        split at h
        · obtain ⟨v, u, e1, e2, e3, e4⟩ := getRow_sound r (b - s) i w c K c2 h2 h
          refine ⟨v, u, ?_, e2, e3, e4⟩
          rw [List.getElem?_append_right (by omega), hl, show b + i * w + c - s = b - s + i * w + c by omega]; exact e1
        · exact h.elim
      · exact h.elim

def getOff (l : List SV) (o : Off) (K : SV → Prop) : Prop :=
  match o with
  | .at n => getAt l n K
  | .row b i w c => getRow l b i w c K
theorem getOff_sound {ρ : Rho} {l : List SV} {o : Off} {K : SV → Prop} {cs : List Value} (hd : DenL ρ l cs) (h : getOff l o K) :
    ∃ v u, cs[o.val]? = some u ∧ oneC u = true ∧ Den ρ v u ∧ K v := by
  cases o with
  | «at» n => exact getAt_sound l n K cs hd h
  | row b i w c => exact getRow_sound l b i w c K cs hd h

/-! ### Many cells at once -/
def takeN : List SV → Nat → Option (List SV)
  | l, 0 => some []
  | [], _ + 1 => none
  | v :: r, n + 1 => match sizeS v with
    | some s => if s ≤ n + 1 then (match takeN r (n + 1 - s) with | some l => some (v :: l) | none => none) else none
    | none => none
def dropN : List SV → Nat → Option (List SV)
  | l, 0 => some l
  | [], _ + 1 => none
  | v :: r, n + 1 => match sizeS v with
    | some s => if s ≤ n + 1 then dropN r (n + 1 - s) else none
    | none => none

theorem takeN_sound {ρ : Rho} : ∀ (l : List SV) (n : Nat) (l' : List SV) (cs : List Value), DenL ρ l cs → takeN l n = some l' → DenL ρ l' (cs.take n) ∧ n ≤ cs.length
  | l, 0, l', cs, hd, h => by cases l <;> (simp only [takeN, Option.some.injEq] at h; subst h; exact ⟨.nil (by simp), by simp⟩)
  | [], n + 1, l', cs, hd, h => by simp [takeN] at h
  | v :: r, n + 1, l', cs, hd, h => by
    obtain ⟨c1, c2, rfl, h1, h2⟩ := hd.of_cons
    unfold takeN at h
    split at h
    · rename_i s hs
      have hl := sizeS_len h1 hs
      split at h
      · split at h
        · rename_i hle l2 hl2
          cases h
          obtain ⟨g1, g2⟩ := takeN_sound r (n + 1 - s) l2 c2 h2 hl2
          refine ⟨.cons c1 (c2.take (n + 1 - s)) ?_ h1 g1, by simp; omega⟩
          rw [List.take_append, hl, List.take_of_length_le (by omega)]
        · cases h
      · cases h
    · cases h
theorem dropN_sound {ρ : Rho} : ∀ (l : List SV) (n : Nat) (l' : List SV) (cs : List Value), DenL ρ l cs → dropN l n = some l' → DenL ρ l' (cs.drop n) ∧ n ≤ cs.length
  | l, 0, l', cs, hd, h => by cases l <;> (simp only [dropN, Option.some.injEq] at h; subst h; exact ⟨by simpa using hd, by simp⟩)
  | [], n + 1, l', cs, hd, h => by simp [dropN] at h
  | v :: r, n + 1, l', cs, hd, h => by
    obtain ⟨c1, c2, rfl, h1, h2⟩ := hd.of_cons
    unfold dropN at h
    split at h
    · rename_i s hs
      have hl := sizeS_len h1 hs
      split at h
      · obtain ⟨g1, g2⟩ := dropN_sound r (n + 1 - s) l' c2 h2 h
        refine ⟨?_, by simp; omega⟩
        rw [List.drop_append, List.drop_eq_nil_of_le (by omega), hl]
        simpa using g1
      · cases h
    · cases h

theorem DenL.append {ρ : Rho} : ∀ {l l' : List SV} {cs ds : List Value}, DenL ρ l cs → DenL ρ l' ds → DenL ρ (l ++ l') (cs ++ ds)
  | [], l', cs, ds, h, h' => by rw [h.of_nil]; simpa using h'
  | x :: r, l', cs, ds, h, h' => by
    obtain ⟨c1, c2, rfl, h1, h2⟩ := h.of_cons
    exact .cons c1 (c2 ++ ds) (by simp) h1 (h2.append h')

/-- The cells from a place on, so many. -/
def cut (l : List SV) (off n : Nat) : Option (List SV) :=
  match dropN l off with
  | some l => takeN l n
  | none => none
theorem cut_sound {ρ : Rho} {l l' : List SV} {off n : Nat} {cs : List Value} (hd : DenL ρ l cs) (h : cut l off n = some l') : DenL ρ l' ((cs.drop off).take n) ∧ off + n ≤ cs.length := by
  unfold cut at h
  split at h
  · rename_i l2 h2
    obtain ⟨g1, g2⟩ := dropN_sound _ _ _ _ hd h2
    obtain ⟨g3, g4⟩ := takeN_sound _ _ _ _ g1 h
    exact ⟨g3, by simp at g4; omega⟩
  · cases h

/-- A row's part: of the element i, from c on, n cells. -/
def headCut (v : SV) (i w c n : Nat) (K : List SV → Prop) : Prop :=
  match v with
  | .rows w' m f => if w' = w then (if c + n ≤ w then nLt i m.val ∧ (match cut (f i) c n with | some l => K l | none => False) else False) else False
  | _ => False
def cutRow : List SV → Nat → Nat → Nat → Nat → Nat → (List SV → Prop) → Prop
  | [], _, _, _, _, _, _ => False
  | v :: r, l, i, w, c, n, K =>
    if l = 0 then headCut v i w c n K
    else match sizeS v with
      | some s => if s ≤ l then cutRow r (l - s) i w c n K else False
      | none => False

theorem drop_take_drop {α : Type} (cs : List α) (a w c n : Nat) (h : c + n ≤ w) : (((cs.drop a).take w).drop c).take n = (cs.drop (a + c)).take n := by
  rw [List.drop_take, List.take_take, List.drop_drop, Nat.min_eq_left (by omega)]

theorem headCut_sound {ρ : Rho} {v : SV} {i w c n : Nat} {K : List SV → Prop} {c1 : List Value} (hd : DenC ρ v c1) (h : headCut v i w c n K) :
    ∃ l', DenL ρ l' ((c1.drop (i * w + c)).take n) ∧ i * w + c + n ≤ c1.length ∧ K l' := by
  unfold headCut at h
  split at h
  · rename_i w' m f
    obtain ⟨hm, hr⟩ := hd.of_rows
    split at h
    · split at h
      · obtain ⟨hlt, h⟩ := h
        rw [nLt_eq] at hlt
        rename_i e1 e2; subst e1
        split at h
        · rename_i l' hl'
          obtain ⟨g1, g2⟩ := cut_sound (hr _ hlt) hl'
          rw [drop_take_drop _ _ _ _ _ e2] at g1
          have : (i + 1) * w' ≤ m.val * w' := Nat.mul_le_mul_right _ hlt
          rw [Nat.add_mul] at this
          exact ⟨l', g1, by omega, h⟩
        · exact h.elim
      · exact h.elim
    · exact h.elim
  · exact h.elim

theorem cutRow_sound {ρ : Rho} : ∀ (l : List SV) (b i w c n : Nat) (K : List SV → Prop) (cs : List Value), DenL ρ l cs → cutRow l b i w c n K →
    ∃ l', DenL ρ l' ((cs.drop (b + i * w + c)).take n) ∧ b + i * w + c + n ≤ cs.length ∧ K l'
  | [], b, i, w, c, n, K, cs, _, h => by simp [cutRow] at h
  | x :: r, b, i, w, c, n, K, cs, hd, h => by
    obtain ⟨c1, c2, rfl, h1, h2⟩ := hd.of_cons
    unfold cutRow at h
    split at h
    · rename_i e; subst e
      obtain ⟨l', g1, g2, g3⟩ := headCut_sound h1 h
      refine ⟨l', ?_, by simp; omega, g3⟩
      rw [Nat.zero_add, List.drop_append_of_le_length (by omega), List.take_append_of_le_length (by simp; omega)]; exact g1
    · split at h
      · rename_i s hs
        have hl := sizeS_len h1 hs
        split at h
        · obtain ⟨l', e1, e2, e3⟩ := cutRow_sound r (b - s) i w c n K c2 h2 h
          refine ⟨l', ?_, by simp; omega, e3⟩
          rw [List.drop_append, List.drop_eq_nil_of_le (by omega), hl, List.nil_append, show b + i * w + c - s = b - s + i * w + c by omega]; exact e1
        · exact h.elim
      · exact h.elim

def cutOff (l : List SV) (o : Off) (n : Nat) (K : List SV → Prop) : Prop :=
  match o with
  | .at m => match cut l m n with | some l => K l | none => False
  | .row b i w c => cutRow l b i w c n K
theorem cutOff_sound {ρ : Rho} {l : List SV} {o : Off} {n : Nat} {K : List SV → Prop} {cs : List Value} (hd : DenL ρ l cs) (h : cutOff l o n K) :
    ∃ l', DenL ρ l' ((cs.drop o.val).take n) ∧ o.val + n ≤ cs.length ∧ K l' := by
  cases o with
  | «at» m =>
    unfold cutOff at h
    simp only at h
    split at h
    · rename_i l' hl'; obtain ⟨g1, g2⟩ := cut_sound hd hl'; exact ⟨l', g1, g2, h⟩
    · exact h.elim
  | row b i w c => exact cutRow_sound l b i w c n K cs hd h
end
end Go.Vex
