/-
  VEX, part 9: the evaluator of one operation, and that the model does as it says.
-/
import Derived.Test.YtkljgpepogkgdaaDoorV8
import Derived.Test.YtkljgpepogkgdaaDoorVA
set_option linter.unusedSimpArgs false
namespace Go.Vex
set_option linter.unusedVariables false
noncomputable section

abbrev Fr := List (Nat × SV)
def look : Fr → Nat → Option SV
  | [], _ => none
  | (s, v) :: r, t => if s = t then some v else look r t

def ofV : Value → SV
  | .int k n => .i k (.lit n)
  | .bool b => .b (.lit b)
  | .string s => .str s
  | .pointer none => .nilp
  | .slice none 0 0 => .nilslc
  | .nilFunc => .nilfn
  | .nilIface => .nilifc
  | .map none => .nilmap
  | v => .raw v
theorem ofV_sound (ρ : Rho) (v : Value) : Den ρ (ofV v) v := by
  unfold ofV; split <;> first | exact .i rfl | exact .b rfl | exact .str rfl | exact .nilp rfl | exact .nilslc rfl | exact .nilfn rfl | exact .nilifc rfl | exact .nilmap rfl | exact .raw rfl

def findG (g : Nat) : List Blk → Nat → Option Nat
  | [], _ => none
  | .glob g' l :: r, k => if g' = g then some k else findG g r (k + 1)
  | _ :: r, k => findG g r (k + 1)
theorem findG_sound {g : Nat} : ∀ {hp : List Blk} {k y : Nat}, findG g hp k = some y → k ≤ y ∧ ∃ l, hp[y - k]? = some (.glob g l)
  | [], k, y, h => by simp [findG] at h
  | b :: r, k, y, h => by
    have next (h' : findG g r (k + 1) = some y) : k ≤ y ∧ ∃ l, (b :: r)[y - k]? = some (.glob g l) := by
      obtain ⟨g1, l, g2⟩ := findG_sound h'
      exact ⟨by omega, l, by rw [show y - k = (y - (k + 1)) + 1 by omega]; simpa using g2⟩
    cases b with
    | glob g' l =>
      simp only [findG] at h
      split at h
      · rename_i e; subst e; cases h; exact ⟨Nat.le_refl _, l, by simp⟩
      · exact next h
    | _ => exact next h

def ev (fr : Fr) (hp : List Blk) : Operand → Option SV
  | .tmp t => look fr t
  | .const v => some (ofV v)
  | .func f => some (.fn (.func f) [] [])
  | .global g => match findG g hp 0 with
    | some y => some (.p y (.at 0))
    | none => none

structure FSat (ρ : Rho) (nt : Nat) (fr : Fr) (a : Act) : Prop where
  size : a.tmps.size = nt
  defers : a.defers = []
  val : ∀ (t : Nat) (v : SV), look fr t = some v → Den ρ v (a.tmps.getD t undef)

theorem FSat.mono {ρ ρ' : Rho} {nt : Nat} {fr : Fr} {a : Act} (e : Ext ρ ρ') (h : FSat ρ nt fr a) : FSat ρ' nt fr a := ⟨h.size, h.defers, fun t v hv => (h.val t v hv).mono e⟩
theorem FSat.put {ρ : Rho} {nt : Nat} {fr : Fr} {a : Act} (h : FSat ρ nt fr a) {d : Nat} (hd : d < nt) {v : SV} {c : Value} (hv : Den ρ v c) : FSat ρ nt ((d, v) :: fr) (a.put (some d) c) := by
  refine ⟨by simp [Act.put, h.size], h.defers, fun t u hu => ?_⟩
  unfold look at hu
  split at hu
  · rename_i e; subst e; cases hu
    simp [Act.put, h.size, hd]; exact hv
  · rename_i e
    have := h.val t u hu
    simp only [Act.put, Array.getD_eq_getD_getElem?] at this ⊢
    rw [Array.getElem?_setIfInBounds_ne e]; exact this

theorem ev_sound {ρ : Rho} {nt : Nat} {fr : Fr} {a : Act} {hp : List Blk} {w : World} (h : HSat ρ hp w) (hf : FSat ρ nt fr a) {x : Operand} {v : SV} (hv : ev fr hp x = some v) : Den ρ v (a.eval x) := by
  cases x with
  | tmp t => exact hf.val t v hv
  | const u => cases hv; exact ofV_sound ρ u
  | func f => cases hv; exact .fn [] [] rfl (.nil rfl) (.nil rfl)
  | global g =>
    simp only [ev] at hv
    split at hv
    · rename_i y hy
      cases hv
      obtain ⟨_, l, g2⟩ := findG_sound hy
      obtain ⟨ω, h⟩ := h
      have hlt : y < hp.length := (List.getElem?_eq_some_iff.1 g2).1
      have h1 : ∃ r, ρ[y]? = some r := ⟨ρ[y]'(by rw [← h.lenh]; exact hlt), by simp⟩
      have h2 : ∃ o, ω[y]? = some o := ⟨ω[y]'(by rw [h.lenω, ← h.lenh]; exact hlt), by simp⟩
      obtain ⟨r, hr⟩ := h1
      obtain ⟨o, ho⟩ := h2
      obtain ⟨cs, arr, T, fz, e1, e2, e3⟩ := h.sat y r o _ hr ho g2
      subst e2
      exact .p g 0 hr rfl
    · cases hv

def ev1 (fr : Fr) (hp : List Blk) (x : Operand) (K : SV → Prop) : Prop :=
  match ev fr hp x with
  | some v => K v
  | none => False
theorem ev1_sound {ρ : Rho} {nt : Nat} {fr : Fr} {a : Act} {hp : List Blk} {w : World} (h : HSat ρ hp w) (hf : FSat ρ nt fr a) {x : Operand} {K : SV → Prop} (hv : ev1 fr hp x K) :
    ∃ v, Den ρ v (a.eval x) ∧ K v := by
  unfold ev1 at hv
  split at hv
  · rename_i v h1; exact ⟨v, ev_sound h hf h1, hv⟩
  · exact hv.elim

def evO (fr : Fr) (hp : List Blk) (x : Option Operand) (K : Option SV → Prop) : Prop :=
  match x with
  | none => K none
  | some x => ev1 fr hp x fun v => K (some v)
theorem evO_sound {ρ : Rho} {nt : Nat} {fr : Fr} {a : Act} {hp : List Blk} {w : World} (h : HSat ρ hp w) (hf : FSat ρ nt fr a) {x : Option Operand} {K : Option SV → Prop} (hv : evO fr hp x K) :
    ∃ v, DenO ρ v (x.map a.eval) ∧ K v := by
  cases x with
  | none => exact ⟨none, trivial, hv⟩
  | some x => obtain ⟨v, g1, g2⟩ := ev1_sound h hf hv; exact ⟨some v, g1, g2⟩

def evL (fr : Fr) (hp : List Blk) : List Operand → Option (List SV)
  | [] => some []
  | x :: r => match ev fr hp x with
    | some v => match evL fr hp r with
      | some l => some (v :: l)
      | none => none
    | none => none
theorem evL_sound {ρ : Rho} {nt : Nat} {fr : Fr} {a : Act} {hp : List Blk} {w : World} (h : HSat ρ hp w) (hf : FSat ρ nt fr a) : ∀ {xs : List Operand} {l : List SV}, evL fr hp xs = some l → DenT ρ l (xs.map a.eval)
  | [], l, hv => by cases hv; exact .nil rfl
  | x :: r, l, hv => by
    unfold evL at hv
    split at hv
    · rename_i v h1
      split at hv
      · rename_i l' h2
        cases hv
        exact .cons _ _ rfl (ev_sound h hf h1) (evL_sound h hf h2)
      · cases hv
    · cases hv

def evP (fr : Fr) (hp : List Blk) : List (Nat × Operand) → Option (List (Nat × SV))
  | [] => some []
  | (i, x) :: r => match ev fr hp x with
    | some v => match evP fr hp r with
      | some l => some ((i, v) :: l)
      | none => none
    | none => none
theorem evP_sound {ρ : Rho} {nt : Nat} {fr : Fr} {a : Act} {hp : List Blk} {w : World} (h : HSat ρ hp w) (hf : FSat ρ nt fr a) : ∀ {xs : List (Nat × Operand)} {l : List (Nat × SV)}, evP fr hp xs = some l →
    DenP ρ l (xs.map fun x => (x.1, a.eval x.2))
  | [], l, hv => by cases hv; exact .nil
  | (i, x) :: r, l, hv => by
    unfold evP at hv
    split at hv
    · rename_i v h1
      split at hv
      · rename_i l' h2
        cases hv
        exact .cons (ev_sound h hf h1) (evP_sound h hf h2)
      · cases hv
    · cases hv

/-! ### Methods of pointers behind interface values -/
abbrev MT := List (Nat × String × Nat)
def findM : MT → Nat → String → Option Nat
  | [], _, _ => none
  | (t, n, f) :: r, t', n' => if t = t' then (if n = n' then some f else findM r t' n') else findM r t' n'
def MOk (P : Program) (M : MT) : Prop := ∀ t n f, findM M t n = some f →
  (∀ a w, (nilAhead (P.types.size + Made.depth) t (.pointer (some a)) n).run P w = .ok (some false) w) ∧
  (∀ a w, (method (P.types.size + Made.depth) t (.pointer (some a)) n).run P w = .ok (f, .pointer (some a)) w)

def nilCheckS (M : MT) (x : SV) (K : SV → Prop) : Prop :=
  match x with
  | .p .. => K x
  | .fn f first cap => match f with
    | .func _ => K x
    | .method n => match first with
      | [.ifc t (.p y o)] => match findM M t n with
        | some _ => K x
        | none => False
      | _ => False
    | _ => False
  | .ifc .. => K x
  | _ => False

def nilCheckSem (u : Value) : Sem Next :=
  match u with
  | .pointer none | .nilIface | .nilFunc => runtimePanic .nilDeref
  | .func (.method name) first captured =>
    match (first[0]? : Option Value) with
    | some .nilIface => runtimePanic .nilDeref
    | some (.iface t w) => do
      if (← nilAhead ((← program).types.size + Made.depth) t w name) != some false then
        unsupported (.noEntry "op/nilCheck.the method's receiver behind this interface value is a nil pointer, or cannot be seen to be none, and the arguments act or may panic (ledger 612)")
      pure (.value (.func (.method name) first captured))
    | _ => pure (.value (.func (.method name) first captured))
  | x => pure (.value x)

theorem nilCheckS_sound {P : Program} {M : MT} (hM : MOk P M) {x : SV} {K : SV → Prop} {ρ : Rho} {u : Value} (hx : Den ρ x u) (h : nilCheckS M x K) :
    ∃ v c, (∀ w, (nilCheckSem u).run P w = .ok (.value c) w) ∧ Den ρ v c ∧ K v := by
  unfold nilCheckS at h
  split at h
  · refine ⟨_, u, ?_, hx, h⟩
    cases hx with | p b o0 hx hc => subst hc; intro w; rfl
  · split at h
    · refine ⟨_, u, ?_, hx, h⟩
      cases hx with | fn vs us hc h1 h2 => subst hc; intro w; rfl
    · split at h
      · rename_i t y o
        split at h
        · rename_i f hf
          refine ⟨_, u, ?_, hx, h⟩
          cases hx with
          | fn vs us hc h1 h2 =>
            subst hc
            cases h1 with
            | cons c c2 hc h1 h3 =>
              subst hc
              cases h1 with
              | ifc q hq hp =>
                cases hp with
                | p b o0 hx hc =>
                  subst hq; subst hc
                  intro w
                  have := (hM t _ f hf).1 ⟨b, o0 + o.val, none⟩ w
                  simp only [nilCheckSem, List.getElem?_toArray, List.getElem?_cons_zero, Sem.run_bind, run_program, Result.andThen_ok, this]
                  rfl
        · exact h.elim
      · exact h.elim
    · exact h.elim
  · refine ⟨_, u, ?_, hx, h⟩
    cases hx with | ifc q hc hp => subst hc; intro w; rfl
  · exact h.elim

/-! ### Lengths -/
def lenS (T : Tree) (t : Nat) (isLen : Bool) (x : SV) (K : SV → Prop) : Prop :=
  match T.find t with
  | none => False
  | some ti => match ti.kind with
    | .slice _ => match x with
      | .slc y l w o len cap => K (.i .i64 (sOfN (if isLen = true then len else cap)))
      | .nilslc => K (.i .i64 (.lit 0))
      | _ => False
    | .array n _ => K (.i .i64 (.lit n))
    | _ => False
theorem lenS_sound {P : Program} {T : Tree} (hT : TOk P T) {t : Nat} {x : SV} {K : SV → Prop} {ρ : Rho} {u : Value} (ty : TypeId) (hx : Den ρ x u) :
    (lenS T t true x K → Gives P (Builtin.len_ #[t] ty #[u]) ρ K) ∧ (lenS T t false x K → Gives P (Builtin.cap_ #[t] ty #[u]) ρ K) := by
  constructor
  all_goals
    intro h
    unfold lenS at h
    split at h
    · exact h.elim
    · rename_i ti hti
      obtain ⟨d, h1, h2⟩ := (hT t ti hti).under
      split at h
      · rename_i e hk
        rw [hk] at h2
        simp only [kindOk] at h2
        subst h2
        split at h
        · rename_i y l ws o len cap
          cases hx with
          | slc r hx hn hc =>
            subst hc
            first
              | exact ⟨_, .int .i64 len.val, fun w => by simp [Builtin.len_, h1 w, goInt], .i (by rw [sOfN_val]; rfl), h⟩
              | exact ⟨_, .int .i64 cap.val, fun w => by simp [Builtin.cap_, h1 w, goInt], .i (by rw [sOfN_val]; rfl), h⟩
        · cases hx with
          | nilslc hc =>
            subst hc
            first
              | exact ⟨_, .int .i64 0, fun w => by simp [Builtin.len_, h1 w, goInt], .i rfl, h⟩
              | exact ⟨_, .int .i64 0, fun w => by simp [Builtin.cap_, h1 w, goInt], .i rfl, h⟩
        · exact h.elim
      · rename_i n e hk
        rw [hk] at h2
        simp only [kindOk] at h2
        subst h2
        first
          | exact ⟨_, .int .i64 n, fun w => by simp [Builtin.len_, h1 w, goInt], .i rfl, h⟩
          | exact ⟨_, .int .i64 n, fun w => by simp [Builtin.cap_, h1 w, goInt], .i rfl, h⟩
      · exact h.elim

/-! ### One operation -/
def builtinS (T : Tree) (b : Builtin) (args : List SV) (tys : List Nat) (hp : List Blk) (K : SV → List Blk → Prop) : Prop :=
  match b with
  | .len => match args with
    | [x] => match tys with
      | [t] => lenS T t true x fun v => K v hp
      | _ => False
    | _ => False
  | .cap => match args with
    | [x] => match tys with
      | [t] => lenS T t false x fun v => K v hp
      | _ => False
    | _ => False
  | .append => match args with
    | [x, y] => match tys with
      | [t, t'] => if t = t' then appendS T t x y hp K else False
      | _ => False
    | _ => False
  | _ => False

def makeIfcS (T : Tree) (t : Nat) (v : SV) (K : SV → Prop) : Prop :=
  match T.find t with
  | none => False
  | some ti => match ti.kind with
    | .iface => False
    | .other => False
    | _ => K (.ifc t v)

def opS (T : Tree) (M : MT) (o : Op) (fr : Fr) (hp : List Blk) (K : SV → List Blk → Prop) : Prop :=
  match o with
  | .move x => ev1 fr hp x fun v => K v hp
  | .assign x => ev1 fr hp x fun v => K v hp
  | .pick c a b => ev1 fr hp c fun c => match c with
    | .b (.lit t) => if t = true then ev1 fr hp a fun v => K v hp else ev1 fr hp b fun v => K v hp
    | .b (.ex t) => Br t (fun _ => ev1 fr hp a fun v => K v hp) (fun _ => ev1 fr hp b fun v => K v hp)
    | _ => False
  | .alloc t => allocS T t hp K
  | .box t x => ev1 fr hp x fun v => boxS t v hp K
  | .build t parts => match evP fr hp parts.toList with
    | some ps => buildS T t ps fun v => K v hp
    | none => False
  | .buildSlice t n parts => match evP fr hp parts.toList with
    | some ps => buildSliceS T t n ps hp K
    | none => False
  | .load t x => ev1 fr hp x fun v => match v with
    | .p y o => loadS T t hp y o fun v => K v hp
    | _ => False
  | .store t x v => ev1 fr hp x fun u => ev1 fr hp v fun v => match u with
    | .p y o => storeS T t hp y o v fun hp' => K (.raw undef) hp'
    | _ => False
  | .nilCheck x => ev1 fr hp x fun v => nilCheckS M v fun v => K v hp
  | .binOp op t x y _ => ev1 fr hp x fun u => ev1 fr hp y fun v => binS T op t x y u v fun v => K v hp
  | .unOp op t x => ev1 fr hp x fun v => unS op v fun v => K v hp
  | .convert s d x => ev1 fr hp x fun v => convS T s d v fun v => K v hp
  | .makeInterface t x => ev1 fr hp x fun v => makeIfcS T t v fun v => K v hp
  | .makeFunc f first cap => match evL fr hp first.toList with
    | some l => match evL fr hp cap.toList with
      | some m => K (.fn f l m) hp
      | none => False
    | none => False
  | .makeSlice t l c => ev1 fr hp l fun u => ev1 fr hp c fun v => makeSliceS T t u v hp K
  | .slice t x lo hi mx => match mx with
    | none => ev1 fr hp x fun v => evO fr hp lo fun lo => evO fr hp hi fun hi => sliceS T t v lo hi fun v => K v hp
    | some _ => False
  | .fieldAddr s x f => ev1 fr hp x fun v => fieldAddrS T s v f fun v => K v hp
  | .field t x f => ev1 fr hp x fun v => fieldS T t v f fun v => K v hp
  | .indexAddr t x i => ev1 fr hp x fun v => ev1 fr hp i fun i => indexAddrS T t v i fun v => K v hp
  | .index t x i => ev1 fr hp x fun v => ev1 fr hp i fun i => indexS T t v i fun v => K v hp
  | .extract x n => ev1 fr hp x fun v => extractS v n fun v => K v hp
  | .call c => match c.callee with
    | .builtin b => match evL fr hp c.args.toList with
      | some l => builtinS T b l c.argTypes.toList hp K
      | none => False
    | _ => False
  | _ => False

/-- It leaves the world as it was. -/
def quietOp : Op → Bool
  | .alloc _ | .box .. | .buildSlice .. | .store .. | .makeSlice .. => false
  | .call c => match c.callee with
    | .builtin .len | .builtin .cap => true
    | _ => false
  | _ => true

/-- What it touches. -/
def effS (T : Tree) (o : Op) (fr : Fr) (hp : List Blk) : SEff :=
  match o with
  | .alloc _ | .box .. | .buildSlice .. | .makeSlice .. => .new
  | .load t x => match ev fr hp x with
    | some (.p y o) => .rd y o (loadN T t)
    | _ => .pure
  | .store t x _ => match ev fr hp x with
    | some (.p y o) => .wr y o (storeN T t)
    | _ => .pure
  | .call c => match c.callee with
    | .builtin b => match b with
      | .len => .pure
      | .cap => .pure
      | _ => .other
    | _ => .pure
  | _ => .pure

theorem Gives.runs {P : Program} {s : Sem Value} {ρ : Rho} {w : World} {hp : List Blk} {K : SV → List Blk → Prop} {q : Bool} (h : HSat ρ hp w) (hg : Gives P s ρ fun v => K v hp) :
    Runs P (valS s) ρ w q .pure K := by
  obtain ⟨v, c, h1, h2, h3⟩ := hg
  exact Runs.pure h (fun x => run_valS (h1 x)) h2 h3

theorem ev1_ev {fr : Fr} {hp : List Blk} {x : Operand} {K : SV → Prop} (hv : ev1 fr hp x K) : ∃ v, ev fr hp x = some v ∧ K v := by
  unfold ev1 at hv
  split at hv
  · exact ⟨_, ‹_›, hv⟩
  · exact hv.elim

theorem opS_sound {P : Program} {T : Tree} {M : MT} (hT : TOk P T) (hM : MOk P M) {ρ : Rho} {nt : Nat} {fr : Fr} {a : Act} {hp : List Blk} {w : World} (h : HSat ρ hp w) (hf : FSat ρ nt fr a)
    (o : Oper) {K : SV → List Blk → Prop} (hK : opS T M o.op fr hp K) : Runs P (execOp a.eval o) ρ w (quietOp o.op) (effS T o.op fr hp) K := by
  obtain ⟨dst, op, type, pos, after, guard⟩ := o
  simp only at hK
  unfold opS at hK
  split at hK
  case h_1 x =>
    obtain ⟨v, g1, g2⟩ := ev1_sound h hf hK
    exact Runs.pure h (fun _ => rfl) g1 g2
  case h_2 x =>
    obtain ⟨v, g1, g2⟩ := ev1_sound h hf hK
    exact Runs.pure h (fun _ => rfl) g1 g2
  case h_3 c x y =>
    obtain ⟨v, g1, g2⟩ := ev1_sound h hf hK
    have key : ∀ t : Bool, a.eval c = .bool t → ((t = true → ev1 fr hp x fun v => K v hp) ∧ (t = false → ev1 fr hp y fun v => K v hp)) →
        Runs P (execOp a.eval ⟨dst, .pick c x y, type, pos, after, guard⟩) ρ w true .pure K := by
      intro t ht ⟨k1, k2⟩
      cases t with
      | true =>
        obtain ⟨v, g1, g2⟩ := ev1_sound h hf (k1 rfl)
        exact Runs.pure h (fun _ => by simp [execOp, ht, asBool]) g1 g2
      | false =>
        obtain ⟨v, g1, g2⟩ := ev1_sound h hf (k2 rfl)
        exact Runs.pure h (fun _ => by simp [execOp, ht, asBool]) g1 g2
    split at g2
    · rename_i t
      cases g1 with
      | b hb =>
        refine key t hb ?_
        cases t
        · exact ⟨by simp, fun _ => by simpa using g2⟩
        · exact ⟨fun _ => by simpa using g2, by simp⟩
    · rename_i t
      cases g1 with
      | b hb => rw [Br_eq] at g2; exact key t hb g2
    · exact g2.elim
  case h_4 t => exact allocS_sound hT h hK
  case h_5 t x => obtain ⟨v, g1, g2⟩ := ev1_sound h hf hK; exact boxS_sound h g1 g2
  case h_6 t parts =>
    split at hK
    · rename_i ps hps
      have hp' := evP_sound h hf hps
      have := (buildS_sound hT hp' hK)
      have e : (parts.map fun (i, x) => (i, a.eval x)) = (parts.toList.map fun x => (x.1, a.eval x.2)).toArray := by
        apply Array.ext'; simp
      exact Gives.runs h (by rw [← e] at this; exact this)
    · exact hK.elim
  case h_7 t n parts =>
    split at hK
    · rename_i ps hps
      have hp' := evP_sound h hf hps
      have := (buildSliceS_sound hT h hp' hK)
      have e : (parts.map fun (i, x) => (i, a.eval x)) = (parts.toList.map fun x => (x.1, a.eval x.2)).toArray := by
        apply Array.ext'; simp
      rw [← e] at this; exact this
    · exact hK.elim
  case h_8 t x =>
    obtain ⟨v, g1, g2⟩ := ev1_ev hK
    have g1' := ev_sound h hf g1
    split at g2
    · rename_i y o
      obtain ⟨b, o0, cs, v, u, e0, e1, e2, e3, e4, e5⟩ := loadS_all hT h g1' g2
      show Runs P _ ρ w true (effS T (.load t x) fr hp) K
      simp only [effS, g1]
      exact Runs.det (fun x hx => .inl (run_valS (e3 x hx))) (rdB_inv b (o0 + o.val) cs u) e2 ⟨b, o0, cs, u, e0, e1, rfl⟩ (Ext.refl _) e4 h (Kept.refl _) (fun _ => rfl) e5
    · exact g2.elim
  case h_9 t x y =>
    obtain ⟨u, g1, g2⟩ := ev1_ev hK
    have g1' := ev_sound h hf g1
    obtain ⟨v, g3, g4⟩ := ev1_sound h hf g2
    split at g4
    · show Runs P _ ρ w false (effS T (.store t x y) fr hp) K
      simp only [effS, g1]
      exact storeS_sound hT h g1' g3 g4
    · exact g4.elim
  case h_10 x =>
    obtain ⟨u, g1, g2⟩ := ev1_sound h hf hK
    obtain ⟨v, c, e1, e2, e3⟩ := nilCheckS_sound hM g1 g2
    exact Runs.pure h e1 e2 e3
  case h_11 op t x y t' =>
    obtain ⟨u, g1, g2⟩ := ev1_sound h hf hK
    obtain ⟨v, g3, g4⟩ := ev1_sound h hf g2
    obtain ⟨z, c, e1, e2, e3⟩ := binS_sound hT g1 g3 g4
    exact Gives.runs h ⟨z, c, e1, e2, e3⟩
  case h_12 op t x =>
    obtain ⟨u, g1, g2⟩ := ev1_sound h hf hK
    exact Gives.runs h (unS_sound g1 g2)
  case h_13 s d x =>
    obtain ⟨u, g1, g2⟩ := ev1_sound h hf hK
    exact Gives.runs h (convS_sound hT g1 g2)
  case h_14 t x =>
    obtain ⟨u, g1, g2⟩ := ev1_sound h hf hK
    unfold makeIfcS at g2
    split at g2
    · exact g2.elim
    · rename_i ti hti
      obtain ⟨d, h1, h2⟩ := (hT t ti hti).under
      have key : (∀ ms, d ≠ .interface ms) → K (.ifc t u) hp → Runs P (execOp a.eval ⟨dst, .makeInterface t x, type, pos, after, guard⟩) ρ w true .pure K := by
        intro hne hK
        refine Gives.runs h ⟨.ifc t u, .iface t (a.eval x), ?_, .ifc _ rfl g1, hK⟩
        intro w
        unfold Instr.makeInterface
        rw [Sem.run_bind, h1 w, Result.andThen_ok]
        cases d <;> first | rfl | exact absurd rfl (hne _)
      cases hk : ti.kind <;> simp only [hk, kindOk] at g2 h2
      case struct => obtain ⟨arr, rfl, _⟩ := h2; exact key (by simp) g2
      case func => obtain ⟨_, _, _, rfl⟩ := h2; exact key (by simp) g2
      all_goals (subst h2; exact key (by simp) g2)
  case h_15 f first cap =>
    split at hK
    · rename_i l hl
      split at hK
      · rename_i m hm
        refine Runs.pure h (fun _ => ?_) (.fn _ _ rfl (evL_sound h hf hl) (evL_sound h hf hm)) hK
        have e1 : first.map a.eval = (first.toList.map a.eval).toArray := by apply Array.ext'; simp
        have e2 : cap.map a.eval = (cap.toList.map a.eval).toArray := by apply Array.ext'; simp
        simp only [execOp, Instr.makeFunc, Sem.run_bind, Sem.run_pure, Result.andThen_ok, e1, e2]
      · exact hK.elim
    · exact hK.elim
  case h_16 t l c =>
    obtain ⟨u, g1, g2⟩ := ev1_sound h hf hK
    obtain ⟨v, g3, g4⟩ := ev1_sound h hf g2
    exact makeSliceS_sound hT h g1 g3 g4
  case h_17 t x lo hi mx =>
    split at hK
    · obtain ⟨u, g1, g2⟩ := ev1_sound h hf hK
      obtain ⟨lo', g3, g4⟩ := evO_sound h hf g2
      obtain ⟨hi', g5, g6⟩ := evO_sound h hf g4
      exact Gives.runs h (sliceS_sound hT g1 g3 g5 g6)
    · exact hK.elim
  case h_18 s x f =>
    obtain ⟨u, g1, g2⟩ := ev1_sound h hf hK
    obtain ⟨v, c, e1, e2, e3⟩ := fieldAddrS_sound hT g1 g2
    exact Gives.runs h ⟨v, c, e1, e2, e3⟩
  case h_19 t x f =>
    obtain ⟨u, g1, g2⟩ := ev1_sound h hf hK
    exact Gives.runs h (fieldS_sound hT g1 g2)
  case h_20 t x i =>
    obtain ⟨u, g1, g2⟩ := ev1_sound h hf hK
    obtain ⟨v, g3, g4⟩ := ev1_sound h hf g2
    obtain ⟨v, c, e1, e2, e3⟩ := indexAddrS_sound hT g1 g3 g4
    exact Gives.runs h ⟨v, c, e1, e2, e3⟩
  case h_21 t x i =>
    obtain ⟨u, g1, g2⟩ := ev1_sound h hf hK
    obtain ⟨v, g3, g4⟩ := ev1_sound h hf g2
    exact Gives.runs h (indexS_sound hT g1 g3 g4)
  case h_22 x n =>
    obtain ⟨u, g1, g2⟩ := ev1_sound h hf hK
    exact Gives.runs h (extractS_sound g1 g2)
  case h_23 c =>
    obtain ⟨callee, args, argTypes⟩ := c
    simp only at hK
    split at hK
    · rename_i b
      split at hK
      · rename_i l hl
        have hd := evL_sound h hf hl
        unfold builtinS at hK
        split at hK
        · split at hK
          · split at hK
            · rename_i x _ t hty
              have e1 : argTypes = #[t] := by apply Array.ext'; simpa using hty
              subst e1
              cases hd with
              | cons c c2 hc k1 k2 =>
                cases k2 with
                | nil k2 =>
                  subst k2
                  obtain ⟨v, c', f1, f2, f3⟩ := (lenS_sound hT type k1).1 hK
                  refine Runs.pure h (fun w => ?_) f2 f3
                  have e2 : args.map a.eval = #[c] := by apply Array.ext'; simpa using hc
                  simp only [execOp, resolve, Sem.run_bind, Sem.run_pure, Result.andThen_ok, invoke, builtin, e2, f1 w]
            · exact hK.elim
          · exact hK.elim
        · split at hK
          · split at hK
            · rename_i x _ t hty
              have e1 : argTypes = #[t] := by apply Array.ext'; simpa using hty
              subst e1
              cases hd with
              | cons c c2 hc k1 k2 =>
                cases k2 with
                | nil k2 =>
                  subst k2
                  obtain ⟨v, c', f1, f2, f3⟩ := (lenS_sound hT type k1).2 hK
                  refine Runs.pure h (fun w => ?_) f2 f3
                  have e2 : args.map a.eval = #[c] := by apply Array.ext'; simpa using hc
                  simp only [execOp, resolve, Sem.run_bind, Sem.run_pure, Result.andThen_ok, invoke, builtin, e2, f1 w]
            · exact hK.elim
          · exact hK.elim
        · split at hK
          · split at hK
            · rename_i x y _ t t' hty
              split at hK
              · rename_i et
                subst et
                have e1 : argTypes = #[t, t] := by apply Array.ext'; simpa using hty
                subst e1
                cases hd with
                | cons c c2 hc k1 k2 =>
                  cases k2 with
                  | cons d d2 hd2 k3 k4 =>
                    cases k4 with
                    | nil k4 =>
                      subst k4; subst hd2
                      have := appendS_sound hT type h k1 k3 hK
                      have e2 : args.map a.eval = #[c, d] := by apply Array.ext'; simpa using hc
                      show Runs P _ ρ w false .other K
                      refine cast ?_ this
                      congr 1
                      simp only [execOp, resolve, invoke, builtin, e2]
                      rfl
              · exact hK.elim
            · exact hK.elim
          · exact hK.elim
        · exact hK.elim
      · exact hK.elim
    · exact hK.elim
  case h_24 => exact hK.elim
end
end Go.Vex
