/-
  VEX, part 5: operations on values: arithmetic, comparisons, conversions, parts of structs, literals.
-/
import Derived.Test.YtkljgpepogkgdaaDoorV4
set_option linter.unusedSimpArgs false
namespace Go.Vex
set_option linter.unusedVariables false
noncomputable section

/-! ### Leaves -/

def sBin {β : Type} (g f : Int → Int → β) (a b : S Int) : S β :=
  match a with
  | .lit a => match b with
    | .lit b => .lit (g a b)
    | .ex b => .ex (f a b)
  | .ex a => .ex (f a b.val)
theorem sBin_val {β : Type} {g f : Int → Int → β} (h : ∀ a b, f a b = g a b) (a b : S Int) : (sBin g f a b).val = g a.val b.val := by
  unfold sBin; split
  · split <;> simp [h]
  · simp [h]
def sUn {α β : Type} (g f : α → β) (a : S α) : S β :=
  match a with
  | .lit a => .lit (g a)
  | .ex a => .ex (f a)
theorem sUn_val {α β : Type} {g f : α → β} (h : ∀ a, f a = g a) (a : S α) : (sUn g f a).val = g a.val := by
  unfold sUn; split <;> simp [h]
def sNot (a : S Bool) : S Bool := sUn (fun b => !b) notB a
theorem sNot_val (a : S Bool) : (sNot a).val = !a.val := sUn_val (fun a => by rw [notB_eq]) a
def sAnd (a b : S Bool) : S Bool :=
  match a with
  | .lit false => .lit false
  | .lit true => b
  | .ex a => .ex (andB a b.val)
theorem sAnd_val (a b : S Bool) : (sAnd a b).val = (a.val && b.val) := by
  unfold sAnd; split <;> simp [andB_eq]
def sEqB (a b : S Bool) : S Bool :=
  match a with
  | .lit a => match b with
    | .lit b => .lit (a == b)
    | .ex b => .ex (eqB a b)
  | .ex a => .ex (eqB a b.val)
theorem sEqB_val (a b : S Bool) : (sEqB a b).val = (a.val == b.val) := by
  unfold sEqB; split
  · split <;> simp [eqB_eq]
  · simp [eqB_eq]

/-- Arithmetic and comparisons of two numbers of one kind. -/
def arithS (op : BinOp) (k : IntKind) (a b : S Int) (K : SV → Prop) : Prop :=
  match op with
  | .add => K (.i k (sBin (fun a b => k.wrap (a + b)) (addI k) a b))
  | .sub => K (.i k (sBin (fun a b => k.wrap (a - b)) (subI k) a b))
  | .mul => K (.i k (sBin (fun a b => k.wrap (a * b)) (mulI k) a b))
  | .quo => match b with
    | .lit n => if n = 0 then False else K (.i k (sBin (fun a b => k.wrap (a.tdiv b)) (quoI k) a (.lit n)))
    | .ex n => neZ n ∧ K (.i k (.ex (quoI k a.val n)))
  | .rem => match b with
    | .lit n => if n = 0 then False else K (.i k (sBin (fun a b => a.tmod b) remI a (.lit n)))
    | .ex n => neZ n ∧ K (.i k (.ex (remI a.val n)))
  | .and => K (.i k (sBin (fun a b => k.wrap (BitVec.ofInt k.bits a &&& BitVec.ofInt k.bits b).toNat) (andI k) a b))
  | .or => K (.i k (sBin (fun a b => k.wrap (BitVec.ofInt k.bits a ||| BitVec.ofInt k.bits b).toNat) (orI k) a b))
  | .xor => K (.i k (sBin (fun a b => k.wrap (BitVec.ofInt k.bits a ^^^ BitVec.ofInt k.bits b).toNat) (xorI k) a b))
  | .andNot => K (.i k (sBin (fun a b => k.wrap (BitVec.ofInt k.bits a &&& ~~~ BitVec.ofInt k.bits b).toNat) (clrI k) a b))
  | .eql => K (.b (sBin (fun a b => a == b) eqI a b))
  | .neq => K (.b (sNot (sBin (fun a b => a == b) eqI a b)))
  | .lss => K (.b (sBin (fun a b => decide (a < b)) ltI a b))
  | .leq => K (.b (sBin (fun a b => decide (a ≤ b)) leI a b))
  | .gtr => K (.b (sBin (fun a b => decide (a < b)) ltI b a))
  | .geq => K (.b (sBin (fun a b => decide (a ≤ b)) leI b a))
  | _ => False

def shiftS (op : BinOp) (k : IntKind) (a b : S Int) (K : SV → Prop) : Prop :=
  match op with
  | .shl => match b with
    | .lit n => if 0 ≤ n then K (.i k (sBin (fun a n => k.wrap (a * 2 ^ min n.toNat k.bits)) (shlI k) a (.lit n))) else False
    | .ex n => geZ n ∧ K (.i k (.ex (shlI k a.val n)))
  | .shr => match b with
    | .lit n => if 0 ≤ n then K (.i k (sBin (fun a n => a.fdiv (2 ^ min n.toNat k.bits)) (shrI k) a (.lit n))) else False
    | .ex n => geZ n ∧ K (.i k (.ex (shrI k a.val n)))
  | _ => False

theorem arithS_sound {P : Program} {op : BinOp} {t : TypeId} {k : IntKind} {a b : S Int} {K : SV → Prop} {ρ : Rho} (h : arithS op k a b K) :
    ∃ v u, (∀ w, (binOp op t (.int k a.val) (.int k b.val)).run P w = .ok u w) ∧ Den ρ v u ∧ K v := by
  unfold arithS at h
  split at h
  case h_4 =>
    split at h
    · split at h
      · exact h.elim
      · rename_i hn; exact ⟨_, _, fun w => by simp [binOp, Op.intDiv, hn]; rfl, .i (by rw [sBin_val (fun a b => by rw [quoI_eq])]; rfl), h⟩
    · obtain ⟨h1, h2⟩ := h; rw [neZ_eq] at h1; exact ⟨_, _, fun w => by simp [binOp, Op.intDiv, h1]; rfl, .i (by rw [quoI_eq]; rfl), h2⟩
  case h_5 =>
    split at h
    · split at h
      · exact h.elim
      · rename_i hn; exact ⟨_, _, fun w => by simp [binOp, Op.intDiv, hn]; rfl, .i (by rw [sBin_val (fun a b => by rw [remI_eq])]; rfl), h⟩
    · obtain ⟨h1, h2⟩ := h; rw [neZ_eq] at h1; exact ⟨_, _, fun w => by simp [binOp, Op.intDiv, h1]; rfl, .i (by rw [remI_eq]; rfl), h2⟩
  case h_1 => exact ⟨_, _, fun w => by simp [binOp, Op.intArith]; rfl, .i (by rw [sBin_val (fun a b => by rw [addI_eq])]), h⟩
  case h_2 => exact ⟨_, _, fun w => by simp [binOp, Op.intArith]; rfl, .i (by rw [sBin_val (fun a b => by rw [subI_eq])]), h⟩
  case h_3 => exact ⟨_, _, fun w => by simp [binOp, Op.intArith]; rfl, .i (by rw [sBin_val (fun a b => by rw [mulI_eq])]), h⟩
  case h_6 => exact ⟨_, _, fun w => by simp [binOp, Op.intBits]; rfl, .i (by rw [sBin_val (fun a b => by rw [andI_eq])]; simp), h⟩
  case h_7 => exact ⟨_, _, fun w => by simp [binOp, Op.intBits]; rfl, .i (by rw [sBin_val (fun a b => by rw [orI_eq])]; simp), h⟩
  case h_8 => exact ⟨_, _, fun w => by simp [binOp, Op.intBits]; rfl, .i (by rw [sBin_val (fun a b => by rw [xorI_eq])]; simp), h⟩
  case h_9 => exact ⟨_, _, fun w => by simp [binOp, Op.intBits]; rfl, .i (by rw [sBin_val (fun a b => by rw [clrI_eq])]; simp), h⟩
  case h_10 => exact ⟨_, _, fun w => by simp [binOp, Op.intCmp]; rfl, .b (by rw [sBin_val (fun a b => by rw [eqI_eq])]), h⟩
  case h_11 => exact ⟨_, _, fun w => by simp [binOp, Op.intCmp]; rfl, .b (by rw [sNot_val, sBin_val (fun a b => by rw [eqI_eq])]; rfl), h⟩
  case h_12 => exact ⟨_, _, fun w => by simp [binOp, Op.intCmp]; rfl, .b (by rw [sBin_val (fun a b => by rw [ltI_eq])]), h⟩
  case h_13 => exact ⟨_, _, fun w => by simp [binOp, Op.intCmp]; rfl, .b (by rw [sBin_val (fun a b => by rw [leI_eq])]), h⟩
  case h_14 => exact ⟨_, _, fun w => by simp [binOp, Op.intCmp]; rfl, .b (by rw [sBin_val (fun a b => by rw [ltI_eq])]), h⟩
  case h_15 => exact ⟨_, _, fun w => by simp [binOp, Op.intCmp]; rfl, .b (by rw [sBin_val (fun a b => by rw [leI_eq])]), h⟩
  case h_16 => exact h.elim

theorem run_shl {P : Program} {t : TypeId} {k k' : IntKind} {x n : Int} (h : 0 ≤ n) (w : World) :
    (binOp .shl t (.int k x) (.int k' n)).run P w = .ok (.int k (k.wrap (x * 2 ^ min n.toNat k.bits))) w := by
  unfold binOp Op.shift; simp only; rw [if_neg (by omega)]; rfl
theorem run_shr {P : Program} {t : TypeId} {k k' : IntKind} {x n : Int} (h : 0 ≤ n) (w : World) :
    (binOp .shr t (.int k x) (.int k' n)).run P w = .ok (.int k (x.fdiv (2 ^ min n.toNat k.bits))) w := by
  unfold binOp Op.shift; simp only; rw [if_neg (by omega)]; rfl
theorem shiftS_sound {P : Program} {op : BinOp} {t : TypeId} {k k' : IntKind} {a b : S Int} {K : SV → Prop} {ρ : Rho} (h : shiftS op k a b K) :
    ∃ v u, (∀ w, (binOp op t (.int k a.val) (.int k' b.val)).run P w = .ok u w) ∧ Den ρ v u ∧ K v := by
  cases op <;> try exact (show False from h).elim
  case shl =>
    cases b with
    | lit n =>
      have h' : if 0 ≤ n then K (.i k (sBin (fun a n => k.wrap (a * 2 ^ min n.toNat k.bits)) (shlI k) a (.lit n))) else False := h
      split at h'
      · exact ⟨_, _, run_shl ‹_›, .i (by rw [sBin_val (fun a b => by rw [shlI_eq])]), h'⟩
      · exact h'.elim
    | ex n =>
      obtain ⟨h1, h2⟩ : geZ n ∧ K (.i k (.ex (shlI k a.val n))) := h
      rw [geZ_eq] at h1
      exact ⟨_, _, run_shl h1, .i (by rw [shlI_eq]; rfl), h2⟩
  case shr =>
    cases b with
    | lit n =>
      have h' : if 0 ≤ n then K (.i k (sBin (fun a n => a.fdiv (2 ^ min n.toNat k.bits)) (shrI k) a (.lit n))) else False := h
      split at h'
      · exact ⟨_, _, run_shr ‹_›, .i (by rw [sBin_val (fun a b => by rw [shrI_eq])]), h'⟩
      · exact h'.elim
    | ex n =>
      obtain ⟨h1, h2⟩ : geZ n ∧ K (.i k (.ex (shrI k a.val n))) := h
      rw [geZ_eq] at h1
      exact ⟨_, _, run_shr h1, .i (by rw [shrI_eq]; rfl), h2⟩

/-! ### '==' of other things -/
/-- Two things of which one is nil, or bools: do they read the same? -/
def eqK : TK → Bool → SV → SV → Option (S Bool)
  | .bool, _, .b a, .b b => some (sEqB a b)
  | .ptr _, _, .nilp, .nilp => some (.lit true)
  | .ptr _, _, .nilp, .p .. => some (.lit false)
  | .ptr _, _, .p .., .nilp => some (.lit false)
  | .iface, true, .nilifc, .nilifc => some (.lit true)
  | .iface, _, .nilifc, .ifc .. => some (.lit false)
  | .iface, _, .ifc .., .nilifc => some (.lit false)
  | .func, _, .nilfn, .nilfn => some (.lit true)
  | .func, _, .nilfn, .fn .. => some (.lit false)
  | .func, _, .fn .., .nilfn => some (.lit false)
  | .map .., _, .nilmap, .nilmap => some (.lit true)
  | .map .., _, .nilmap, .map _ => some (.lit false)
  | .map .., _, .map _, .nilmap => some (.lit false)
  | _, _, _, _ => none

def isConstO : Operand → Bool
  | .const _ => true
  | _ => false

theorem run_equal {P : Program} {t : TypeId} {d : TypeDesc} (h1 : ∀ w, (underlying t).run P w = .ok d w) (x y : Value) (w : World) (b : Bool)
    (h : ∀ w, ((match d, x, y with
      | .bool, .bool a, .bool b => pure (a == b)
      | .pointer _, .pointer none, .pointer b => pure b.isNone
      | .pointer _, .pointer (some _), .pointer none => pure false
      | .interface _, .nilIface, .nilIface => pure true
      | .interface _, .nilIface, .iface _ _ | .interface _, .iface _ _, .nilIface => pure false
      | .map _ _, .map none, .map b => pure b.isNone
      | .map _ _, .map _, .map none => pure false
      | .func _ _ _, .nilFunc, .nilFunc => pure true
      | .func _ _ _, .nilFunc, .func _ _ _ | .func _ _ _, .func _ _ _, .nilFunc => pure false
      | _, _, _ => stuck "") : Sem Bool).run P w = .ok b w) : (Op.equal t x y).run P w = .ok b w := by
  unfold Op.equal Op.maxDepth
  rw [show (10000 : Nat) = 9999 + 1 from rfl, Op.equalIn, Sem.run_bind, h1 w, Result.andThen_ok]
  have h' := h w
  clear h
  cases d <;> try (simp [stuck] at h'; done)
  case bool => cases x <;> try (simp [stuck] at h'; done)
               cases y <;> first | exact h' | (simp [stuck] at h'; done)
  case pointer e =>
    cases x <;> try (simp [stuck] at h'; done)
    rename_i a
    cases y <;> try (cases a <;> simp [stuck] at h'; done)
    rename_i b'
    cases a <;> cases b' <;> first | exact h' | (simp [stuck] at h'; done)
  case interface ms =>
    cases x <;> try (simp [stuck] at h'; done)
    all_goals cases y <;> first | exact h' | (simp [stuck] at h'; done)
  case map k e =>
    cases x <;> try (simp [stuck] at h'; done)
    rename_i a
    cases y <;> try (cases a <;> simp [stuck] at h'; done)
    rename_i b'
    cases a <;> cases b' <;> first | exact h' | (simp [stuck] at h'; done)
  case func a b c =>
    cases x <;> try (simp [stuck] at h'; done)
    all_goals cases y <;> first | exact h' | (simp [stuck] at h'; done)

theorem eqK_sound {P : Program} {k : TK} {t : Nat} {d : TypeDesc} {cn : Bool} {x y : SV} {b : S Bool} {ρ : Rho} {u v : Value}
    (h1 : ∀ w, (underlying t).run P w = .ok d w) (h2 : kindOk k d) (h : eqK k cn x y = some b)
    (hx : Den ρ x u) (hy : Den ρ y v) (w : World) : (Op.equal t u v).run P w = .ok b.val w := by
  unfold eqK at h
  split at h <;> simp only [Option.some.injEq, reduceCtorEq] at h <;> subst h <;> simp only [kindOk] at h2
  · subst h2; cases hx with | b hx => cases hy with | b hy => subst hx; subst hy; rw [sEqB_val]; exact run_equal h1 _ _ w _ (fun w => rfl)
  · subst h2; cases hx with | nilp hx => cases hy with | nilp hy => subst hx; subst hy; exact run_equal h1 _ _ w _ (fun w => rfl)
  · subst h2; cases hx with | nilp hx => cases hy with | p _ _ _ hy => subst hx; subst hy; exact run_equal h1 _ _ w _ (fun w => rfl)
  · subst h2; cases hx with | p _ _ _ hx => cases hy with | nilp hy => subst hx; subst hy; exact run_equal h1 _ _ w _ (fun w => rfl)
  · obtain ⟨ms, rfl⟩ := h2; cases hx with | nilifc hx => cases hy with | nilifc hy => subst hx; subst hy; exact run_equal h1 _ _ w _ (fun w => rfl)
  · obtain ⟨ms, rfl⟩ := h2; cases hx with | nilifc hx => cases hy with | ifc _ hy => subst hx; subst hy; exact run_equal h1 _ _ w _ (fun w => rfl)
  · obtain ⟨ms, rfl⟩ := h2; cases hx with | ifc _ hx => cases hy with | nilifc hy => subst hx; subst hy; exact run_equal h1 _ _ w _ (fun w => rfl)
  · obtain ⟨_, _, _, rfl⟩ := h2; cases hx with | nilfn hx => cases hy with | nilfn hy => subst hx; subst hy; exact run_equal h1 _ _ w _ (fun w => rfl)
  · obtain ⟨_, _, _, rfl⟩ := h2; cases hx with | nilfn hx => cases hy with | fn _ _ hy => subst hx; subst hy; exact run_equal h1 _ _ w _ (fun w => rfl)
  · obtain ⟨_, _, _, rfl⟩ := h2; cases hx with | fn _ _ hx => cases hy with | nilfn hy => subst hx; subst hy; exact run_equal h1 _ _ w _ (fun w => rfl)
  · subst h2; cases hx with | nilmap hx => cases hy with | nilmap hy => subst hx; subst hy; exact run_equal h1 _ _ w _ (fun w => rfl)
  · subst h2; cases hx with | nilmap hx => cases hy with | map _ _ hy => subst hx; subst hy; exact run_equal h1 _ _ w _ (fun w => rfl)
  · subst h2; cases hx with | map _ _ hx => cases hy with | nilmap hy => subst hx; subst hy; exact run_equal h1 _ _ w _ (fun w => rfl)

/-- One nil is written out in the text. -/
def constNil (xo yo : Operand) : Bool := isConstO xo || isConstO yo

theorem eqGuard_run {P : Program} {k : TK} {t : Nat} {cn : Bool} {x y : SV} {b : S Bool} {ρ : Rho} {u v : Value} {op : BinOp} {xo yo : Operand}
    (h : eqK k cn x y = some b) (hcn : cn = constNil xo yo) (hx : Den ρ x u) (hy : Den ρ y v) (w : World) : (eqGuard op t xo yo u v).run P w = .ok () w := by
  unfold eqK at h
  unfold eqGuard
  split at h <;> try (cases h; done)
  · cases hx with | b hx => cases hy with | b hy => subst hx; subst hy; cases op <;> rfl
  · cases hx with | nilp hx => cases hy with | nilp hy => subst hx; subst hy; cases op <;> rfl
  · cases hx with | nilp hx => cases hy with | p _ _ _ hy => subst hx; subst hy; cases op <;> rfl
  · cases hx with | p _ _ _ hx => cases hy with | nilp hy => subst hx; subst hy; cases op <;> rfl
  · cases hx with
    | nilifc hx => cases hy with
      | nilifc hy =>
        subst hx; subst hy
        unfold constNil at hcn
        cases xo <;> cases yo <;> first | (simp [isConstO] at hcn; done) | (cases op <;> rfl)
  · cases hx with | nilifc hx => cases hy with | ifc _ hy => subst hx; subst hy; cases op <;> rfl
  · cases hx with | ifc _ hx => cases hy with | nilifc hy => subst hx; subst hy; cases op <;> rfl
  · cases hx with | nilfn hx => cases hy with | nilfn hy => subst hx; subst hy; cases op <;> rfl
  · cases hx with | nilfn hx => cases hy with | fn _ _ hy => subst hx; subst hy; cases op <;> rfl
  · cases hx with | fn _ _ hx => cases hy with | nilfn hy => subst hx; subst hy; cases op <;> rfl
  · cases hx with | nilmap hx => cases hy with | nilmap hy => subst hx; subst hy; cases op <;> rfl
  · cases hx with | nilmap hx => cases hy with | map _ _ hy => subst hx; subst hy; cases op <;> rfl
  · cases hx with | map _ _ hx => cases hy with | nilmap hy => subst hx; subst hy; cases op <;> rfl

theorem binOp_eql {P : Program} {k : TK} {t : Nat} {cn : Bool} {x y : SV} {b : S Bool} {ρ : Rho} {u v : Value}
    (h : eqK k cn x y = some b) (hx : Den ρ x u) (hy : Den ρ y v) {w : World} (he : (Op.equal t u v).run P w = .ok b.val w) :
    (binOp .eql t u v).run P w = .ok (.bool b.val) w ∧ (binOp .neq t u v).run P w = .ok (.bool !b.val) w := by
  have key : ∀ (h1 : binOp .eql t u v = (do pure (.bool (← Op.equal t u v)))) (h2 : binOp .neq t u v = (do pure (.bool (!(← Op.equal t u v))))),
      (binOp .eql t u v).run P w = .ok (.bool b.val) w ∧ (binOp .neq t u v).run P w = .ok (.bool !b.val) w := by
    intro h1 h2; rw [h1, h2]; simp [he]
  unfold eqK at h
  split at h <;> try (cases h; done)
  · cases hx with | b hx => cases hy with | b hy => subst hx; subst hy; exact key rfl rfl
  · cases hx with | nilp hx => cases hy with | nilp hy => subst hx; subst hy; exact key rfl rfl
  · cases hx with | nilp hx => cases hy with | p _ _ _ hy => subst hx; subst hy; exact key rfl rfl
  · cases hx with | p _ _ _ hx => cases hy with | nilp hy => subst hx; subst hy; exact key rfl rfl
  · cases hx with | nilifc hx => cases hy with | nilifc hy => subst hx; subst hy; exact key rfl rfl
  · cases hx with | nilifc hx => cases hy with | ifc _ hy => subst hx; subst hy; exact key rfl rfl
  · cases hx with | ifc _ hx => cases hy with | nilifc hy => subst hx; subst hy; exact key rfl rfl
  · cases hx with | nilfn hx => cases hy with | nilfn hy => subst hx; subst hy; exact key rfl rfl
  · cases hx with | nilfn hx => cases hy with | fn _ _ hy => subst hx; subst hy; exact key rfl rfl
  · cases hx with | fn _ _ hx => cases hy with | nilfn hy => subst hx; subst hy; exact key rfl rfl
  · cases hx with | nilmap hx => cases hy with | nilmap hy => subst hx; subst hy; exact key rfl rfl
  · cases hx with | nilmap hx => cases hy with | map _ _ hy => subst hx; subst hy; exact key rfl rfl
  · cases hx with | map _ _ hx => cases hy with | nilmap hy => subst hx; subst hy; exact key rfl rfl

/-! ### '==' of structs and arrays -/
def sAndB (a b : S Bool) : S Bool :=
  match a with
  | .lit t => match t with
    | true => b
    | false => .lit false
  | .ex a => match b with
    | .lit t => match t with
      | true => .ex a
      | false => .lit false
    | .ex b => .ex (andB a b)
theorem sAndB_val (a b : S Bool) : (sAndB a b).val = (a.val && b.val) := by
  unfold sAndB; split
  · split <;> simp
  · split
    · split <;> simp
    · simp [andB_eq]

def expI (k : IntKind) (zs : List Int) : Nat → Nat → List SV
  | 0, _ => []
  | n + 1, j => .i k (.ex (gi zs j)) :: expI k zs n (j + 1)
theorem expI_sound {ρ : Rho} {k : IntKind} {zs : List Int} : ∀ (n j : Nat), j + n = zs.length → DenL ρ (expI k zs n j) ((zs.drop j).map (Value.int k))
  | 0, j, h => by rw [List.drop_of_length_le (by omega)]; exact .nil rfl
  | n + 1, j, h => by
    have hj : j < zs.length := by omega
    rw [List.drop_eq_getElem_cons hj, List.map_cons]
    refine .cons [_] _ rfl (.one _ rfl rfl (.i ?_)) (expI_sound n (j + 1) (by omega))
    rw [S.val_ex, gi_eq, List.getD_eq_getElem?_getD, List.getElem?_eq_getElem hj]; rfl

def kTake (k : IntKind) : Nat → List FK → Option (List FK)
  | 0, ks => some ks
  | n + 1, q :: ks => match q with
    | some k' => if k' = k then kTake k n ks else none
    | none => none
  | _ + 1, [] => none
theorem kTake_sound {k : IntKind} : ∀ {n : Nat} {ks ms : List FK}, kTake k n ks = some ms → ks = List.replicate n (some k) ++ ms
  | 0, ks, ms, h => by cases h; rfl
  | n + 1, q :: ks, ms, h => by
    unfold kTake at h
    split at h
    · split at h
      · rename_i e; subst e; rw [kTake_sound h]; rfl
      · cases h
    · cases h
  | n + 1, [], ms, h => by simp [kTake] at h

def eqLS : Nat → List FK → List SV → List SV → Option (S Bool)
  | 0, _, _, _ => none
  | f + 1, ks, l, m => match l with
    | [] => match m with
      | [] => match ks with
        | [] => some (.lit true)
        | _ :: _ => none
      | _ :: _ => none
    | .i k a :: r => match m with
      | .i k' b :: s => (match ks with
        | q :: ks => (match q with
          | some q => if k = q then (if k' = q then (match eqLS f ks r s with
            | some t => some (sAndB (sBin (fun a b => a == b) eqI a b) t)
            | none => none) else none) else none
          | none => none)
        | [] => none)
      | .ints k' (.lit n) ys :: s => eqLS f ks l (expI k' ys n 0 ++ s)
      | _ => none
    | .b a :: r => match m with
      | .b b :: s => (match ks with
        | q :: ks => (match q with
          | none => (match eqLS f ks r s with
            | some t => some (sAndB (sEqB a b) t)
            | none => none)
          | some _ => none)
        | [] => none)
      | _ => none
    | .ints k (.lit n) zs :: r => match m with
      | .ints k' (.lit n') ys :: s => if n = n' then (if k = k' then (match kTake k n ks with
          | some ks => match eqLS f ks r s with
            | some t => some (sAndB (.ex (eqL zs ys)) t)
            | none => none
          | none => none) else none) else eqLS f ks (expI k zs n 0 ++ r) m
      | .i .. :: _ => eqLS f ks (expI k zs n 0 ++ r) m
      | _ => none
    | _ => none

theorem fits_rep {k : IntKind} : ∀ (zs : List Int), fitsL (List.replicate zs.length (some k)) (zs.map (Value.int k)) = true
  | [] => rfl
  | z :: zs => by simp [List.replicate_succ, fitsL, fits1, fits_rep zs]
theorem fitsL_app : ∀ {ks ms : List FK} {cs ds : List Value}, fitsL ks cs = true → fitsL ms ds = true → fitsL (ks ++ ms) (cs ++ ds) = true
  | [], ms, [], ds, _, h => h
  | k :: ks, ms, c :: cs, ds, h, h' => by
    simp only [fitsL, Bool.and_eq_true, List.cons_append] at h ⊢
    exact ⟨h.1, fitsL_app h.2 h'⟩
  | [], _, _ :: _, _, h, _ => by simp [fitsL] at h
  | _ :: _, _, [], _, h, _ => by simp [fitsL] at h
theorem eqCs_ints {k : IntKind} : ∀ (zs ys : List Int), zs.length = ys.length → eqCs (zs.map (Value.int k)) (ys.map (Value.int k)) = (zs == ys)
  | [], [], _ => rfl
  | z :: zs, y :: ys, h => by
    simp only [List.map_cons, eqCs, eqC]
    rw [eqCs_ints zs ys (by simpa using h)]; rfl
  | [], _ :: _, h => by simp at h
  | _ :: _, [], h => by simp at h

theorem eqLS_sound {ρ : Rho} : ∀ (f : Nat) (ks : List FK) (l m : List SV) (xs ys : List Value) (b : S Bool), eqLS f ks l m = some b → DenL ρ l xs → DenL ρ m ys →
    fitsL ks xs = true ∧ fitsL ks ys = true ∧ eqCs xs ys = b.val := by
  intro f
  induction f with
  | zero => intro ks l m xs ys b h; simp [eqLS] at h
  | succ f ih =>
    intro ks l m xs ys b h hx hy
    unfold eqLS at h
    split at h
    · split at h
      · split at h
        · cases h; rw [hx.of_nil, hy.of_nil]; exact ⟨rfl, rfl, rfl⟩
        · cases h
      · cases h
    · rename_i k a r
      split at h
      · rename_i k' c s
        split at h
        · rename_i q ks
          split at h
          · rename_i q
            split at h
            · rename_i e1
              split at h
              · rename_i e2
                split at h
                · rename_i t ht
                  cases h
                  obtain ⟨x1, x2, rfl, hx1, hx2⟩ := hx.of_cons
                  obtain ⟨y1, y2, rfl, hy1, hy2⟩ := hy.of_cons
                  obtain ⟨u, rfl, _, hu⟩ := hx1.single rfl
                  obtain ⟨v, rfl, _, hv⟩ := hy1.single rfl
                  cases hu with
                  | i hu => cases hv with
                    | i hv =>
                      subst hu; subst hv; subst e1; subst e2
                      obtain ⟨g1, g2, g3⟩ := ih _ _ _ _ _ _ ht hx2 hy2
                      refine ⟨by simp [fitsL, fits1, g1], by simp [fitsL, fits1, g2], ?_⟩
                      simp only [List.singleton_append, eqCs, eqC, g3, sAndB_val]
                      rw [sBin_val (fun a b => by rw [eqI_eq])]
                · cases h
              · cases h
            · cases h
          · cases h
        · cases h
      · rename_i k' n zs s
        obtain ⟨y1, y2, rfl, hy1, hy2⟩ := hy.of_cons
        obtain ⟨g1, rfl⟩ := hy1.of_ints
        refine ih _ _ _ _ _ _ h hx (DenL.append ?_ hy2)
        simpa using expI_sound n 0 (by simpa using g1.symm)
      · cases h
    · rename_i a r
      split at h
      · rename_i c s
        split at h
        · rename_i q ks
          split at h
          · split at h
            · rename_i t ht
              cases h
              obtain ⟨x1, x2, rfl, hx1, hx2⟩ := hx.of_cons
              obtain ⟨y1, y2, rfl, hy1, hy2⟩ := hy.of_cons
              obtain ⟨u, rfl, _, hu⟩ := hx1.single rfl
              obtain ⟨v, rfl, _, hv⟩ := hy1.single rfl
              cases hu with
              | b hu => cases hv with
                | b hv =>
                  subst hu; subst hv
                  obtain ⟨g1, g2, g3⟩ := ih _ _ _ _ _ _ ht hx2 hy2
                  refine ⟨by simp [fitsL, fits1, g1], by simp [fitsL, fits1, g2], ?_⟩
                  simp only [List.singleton_append, eqCs, eqC, g3, sAndB_val]
                  rw [sEqB_val]
            · cases h
          · cases h
        · cases h
      · cases h
    · rename_i k n zs r
      obtain ⟨x1, x2, rfl, hx1, hx2⟩ := hx.of_cons
      obtain ⟨g1, rfl⟩ := hx1.of_ints
      have exp : ∀ b, eqLS f ks (expI k zs n 0 ++ r) m = some b → fitsL ks (zs.map (Value.int k) ++ x2) = true ∧ fitsL ks ys = true ∧ eqCs (zs.map (Value.int k) ++ x2) ys = b.val := by
        intro b h
        refine ih _ _ _ _ _ _ h (DenL.append ?_ hx2) hy
        simpa using expI_sound n 0 (by simpa using g1.symm)
      split at h
      · rename_i k' n' us s
        split at h
        · rename_i e1
          split at h
          · rename_i e2
            split at h
            · rename_i ks' hks
              split at h
              · rename_i t ht
                cases h
                obtain ⟨y1, y2, rfl, hy1, hy2⟩ := hy.of_cons
                obtain ⟨g2, rfl⟩ := hy1.of_ints
                subst e1; subst e2
                obtain ⟨f1, f2, f3⟩ := ih _ _ _ _ _ _ ht hx2 hy2
                have e3 := kTake_sound hks
                simp only [S.val_lit] at g1 g2
                refine ⟨?_, ?_, ?_⟩
                · rw [e3, ← g1]; exact fitsL_app (fits_rep zs) f1
                · rw [e3, ← g2]; exact fitsL_app (fits_rep us) f2
                · rw [eqCs_append (by simp [g1, g2]), eqCs_ints _ _ (by rw [g1, g2]), f3, sAndB_val, S.val_ex, eqL_eq]
              · cases h
            · cases h
          · cases h
        · exact exp b h
      · exact exp b h
      · cases h
    · cases h

/-- '==' and '!=' where it is no arithmetic. -/
def binS (T : Tree) (op : BinOp) (t : Nat) (xo yo : Operand) (x y : SV) (K : SV → Prop) : Prop :=
  match x, y with
  | .i k a, .i k' b => match op with
    | .shl | .shr => shiftS op k a b K
    | _ => if k = k' then arithS op k a b K else False
  | .agg l, .agg m => match T.find t with
    | none => False
    | some ti => if ti.flat.isEmpty = true then False else if isAggK ti.kind = true then (match eqLS 400 ti.flat l m with
      | none => False
      | some b => match op with
        | .eql => K (.b b)
        | .neq => K (.b (sNot b))
        | _ => False) else False
  | x, y => match T.find t with
    | none => False
    | some ti => match eqK ti.kind (constNil xo yo) x y with
      | none => False
      | some b => match op with
        | .eql => K (.b b)
        | .neq => K (.b (sNot b))
        | _ => False

def binSem (op : BinOp) (t : Nat) (xo yo : Operand) (u v : Value) : Sem Value := do eqGuard op t xo yo u v; binOp op t u v

theorem eqGuard_int {P : Program} {t : Nat} {op : BinOp} {xo yo : Operand} {k k' : IntKind} {a b : Int} (w : World) : (eqGuard op t xo yo (.int k a) (.int k' b)).run P w = .ok () w := by
  unfold eqGuard; cases op <;> rfl

theorem binS_sound {P : Program} {T : Tree} (hT : TOk P T) {op : BinOp} {t : Nat} {xo yo : Operand} {x y : SV} {K : SV → Prop} {ρ : Rho} {u v : Value}
    (hx : Den ρ x u) (hy : Den ρ y v) (h : binS T op t xo yo x y K) : ∃ z c, (∀ w, (binSem op t xo yo u v).run P w = .ok c w) ∧ Den ρ z c ∧ K z := by
  unfold binS at h
  split at h
  · rename_i k a k' b
    cases hx with
    | i hx => cases hy with
      | i hy =>
        subst hx; subst hy
        unfold binSem
        simp only [Sem.run_bind, eqGuard_int, Result.andThen_ok]
        split at h
        · exact shiftS_sound h
        · exact shiftS_sound h
        · split at h
          · rename_i e; subst e; exact arithS_sound h
          · exact h.elim
  · rename_i l m
    cases hx with
    | agg xs hxv hx => cases hy with
      | agg ys hyv hy =>
        subst hxv; subst hyv
        split at h
        · exact h.elim
        · rename_i ti hti
          obtain ⟨i, d, z, i1, i2, i3, i4, i5, i6, i7, i8⟩ := hT t ti hti
          split at h
          · exact h.elim
          · rename_i hne
            have hne : ti.flat ≠ [] := by simpa using hne
            split at h
            · rename_i hagg
              split at h
              · exact h.elim
              · rename_i b hb
                obtain ⟨f1, f2, f3⟩ := eqLS_sound _ _ _ _ _ _ _ hb hx hy
                have ha : aggP P t = true := by
                  cases hk : ti.kind <;> rw [hk] at hagg i7 <;> simp only [isAggK, Bool.false_eq_true] at hagg <;> simp only [kindOk] at i7
                  · subst i7; simp [aggP, i2]
                  · obtain ⟨arr, rfl, _⟩ := i7; simp [aggP, i2]
                obtain ⟨k1, k2⟩ := i8 hne
                have he := fun w => EqAtP.all 9 t _ k1 10000 w (.agg xs.toArray) (.agg ys.toArray) xs ys (by omega) (by unfold WholeAt; rw [if_pos ha]) (by unfold WholeAt; rw [if_pos ha]) f1 f2
                split at h
                · refine ⟨_, .bool b.val, ?_, .b rfl, h⟩
                  intro w; unfold binSem; simp only [Sem.run_bind, run_eqGuard_agg w _ t xo yo _ _ k2, Result.andThen_ok, run_eql_struct, he, f3]
                · refine ⟨_, .bool !b.val, ?_, .b (by rw [sNot_val]), h⟩
                  intro w; unfold binSem; simp only [Sem.run_bind, run_eqGuard_agg w _ t xo yo _ _ k2, Result.andThen_ok, run_neq_struct, he, f3]
                · exact h.elim
            · exact h.elim
  · split at h
    · exact h.elim
    · rename_i ti hti
      obtain ⟨d, h1, h2⟩ := (hT t ti hti).under
      split at h
      · exact h.elim
      · rename_i b hb
        have he := eqK_sound h1 h2 hb hx hy
        have g1 := fun w => (binOp_eql hb hx hy (he w)).1
        have g2 := fun w => (binOp_eql hb hx hy (he w)).2
        split at h
        · refine ⟨_, .bool b.val, ?_, .b rfl, h⟩
          intro w; unfold binSem; simp only [Sem.run_bind, eqGuard_run hb rfl hx hy, Result.andThen_ok, g1]
        · refine ⟨_, .bool !b.val, ?_, .b (by rw [sNot_val]), h⟩
          intro w; unfold binSem; simp only [Sem.run_bind, eqGuard_run hb rfl hx hy, Result.andThen_ok, g2]
        · exact h.elim
end
end Go.Vex
