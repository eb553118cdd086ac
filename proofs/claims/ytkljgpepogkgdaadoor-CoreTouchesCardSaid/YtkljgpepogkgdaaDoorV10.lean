/-
  VEX, part 10: regions, code, functions.
-/
import Derived.Test.YtkljgpepogkgdaaDoorV9
import Derived.Test.YtkljgpepogkgdaaDoorVP
import Derived.Scope
set_option linter.unusedSimpArgs false
namespace Go.Vex
set_option linter.unusedVariables false
noncomputable section

structure St where
  fr : Fr
  hp : List Blk

/-- The program, and what is known of its types. -/
structure Kit where
  P : Program
  T : Tree
  M : MT
  hT : TOk P T
  hM : MOk P M
  hO : P.follows .mixedOrders = true

/-- What was there when a function's body began. -/
structure Env where
  ρ0 : Rho
  w0 : World
  nt : Nat

def SSat (E : Env) (q : Bool) (st : St) (a : Act) (w : World) : Prop :=
  ∃ ρ, Ext E.ρ0 ρ ∧ FSat ρ E.nt st.fr a ∧ HSat ρ st.hp w ∧ Kept E.w0 w ∧ (q = true → ∃ n, w = E.w0.drewN n)

inductive Ex where
  | normal
  | exit (id : Nat)
  | ret

def Lift (E : Env) (Q : Bool → Ex → St → Prop) : Exit → Act → World → Prop
  | .normal, a, w => ∃ q st, SSat E q st a w ∧ Q q .normal st
  | .exit id, a, w => ∃ q st, SSat E q st a w ∧ Q q (.exit id) st
  | .ret, a, w => ∃ q st, SSat E q st a w ∧ Q q .ret st
  | _, _, _ => False

/-- The code, from such a state on, comes to such states. (nt: how many slots; n0: how many resources there were at first.) -/
structure Ok (C : Kit) (nt n0 : Nat) (c : Code) (q : Bool) (st : St) (Q : Bool → Ex → St → Prop) : Prop where
  out : ∀ (E : Env) a w, E.nt = nt → E.ρ0.length = n0 → SSat E q st a w → c.wp C.P (Lift E Q) a w

/-! ### Calls -/
def CallOk (P : Program) (f : Nat) : Prop := ∃ fn, P.funcs[f]? = some fn ∧ (fn.name == "runtime.NumGoroutine") = false ∧ fn.body.isNone = false

def Ends (ρ : Rho) (w : World) (K : Bool → SV → List Blk → Prop) (e : Ending) (w' : World) : Prop :=
  ∃ q ρ' v c hp', e = .returned c ∧ Ext ρ ρ' ∧ Den ρ' v c ∧ HSat ρ' hp' w' ∧ Kept w w' ∧ (q = true → ∃ n, w' = w.drewN n) ∧ K q v hp'

structure OkCall (C : Kit) (f : Nat) (args : List SV) (hp : List Blk) (K : Bool → SV → List Blk → Prop) : Prop where
  ok : CallOk C.P f
  out : ∀ ρ w vals, DenT ρ args vals → HSat ρ hp w → Calls C.P f vals.toArray w (Ends ρ w K)

/-- What is to be shown of a call. -/
abbrev Handler := Nat → List SV → List Blk → (Bool → SV → List Blk → Prop) → Prop
def HOk (C : Kit) (H : Handler) : Prop := ∀ f args hp K, H f args hp K → OkCall C f args hp K

theorem run_callFunc {P : Program} {f : Nat} (h : CallOk P f) (args : Array Value) (w : World) : (callFunc f args).run P w = .ok (.enter f args) w := by
  obtain ⟨fn, h1, h2, h3⟩ := h
  unfold callFunc
  simp only [Sem.run_bind, run_program, Result.andThen_ok, h1, h2, h3, Bool.false_eq_true, if_false, Sem.run_pure]

def calleeS (M : MT) (c : Callee) (fr : Fr) (hp : List Blk) (args : List SV) (K : Nat → List SV → Prop) : Prop :=
  match c with
  | .value f => ev1 fr hp f fun v => match v with
    | .fn g first cap => match g with
      | .func g => K g (first ++ (args ++ cap))
      | _ => False
    | _ => False
  | .invoke r name => ev1 fr hp r fun v => match v with
    | .ifc t (.p y o) => match findM M t name with
      | some g => K g (.p y o :: args)
      | none => False
    | _ => False
  | _ => False

def isCall : Op → Bool
  | .call c => match c.callee with
    | .builtin _ => false
    | _ => true
  | _ => false

def stepS (H : Handler) (T : Tree) (M : MT) (o : Op) (fr : Fr) (hp : List Blk) (q : Bool) (K : Bool → SV → List Blk → Prop) : Prop :=
  match o with
  | .call c => match c.callee with
    | .builtin _ => opS T M o fr hp (K (q && quietOp o))
    | _ => match evL fr hp c.args.toList with
      | some l => calleeS M c.callee fr hp l fun f args => H f args hp fun q' v hp' => K (q && q') v hp'
      | none => False
  | _ => opS T M o fr hp (K (q && quietOp o))

def putS (dst : Option Nat) (v : SV) (fr : Fr) : Fr :=
  match dst with
  | some d => (d, v) :: fr
  | none => fr
def dstOk (nt : Nat) (dst : Option Nat) : Bool :=
  match dst with
  | some d => decide (d < nt)
  | none => true

theorem DenT.append {ρ : Rho} : ∀ {l m : List SV} {cs ds : List Value}, DenT ρ l cs → DenT ρ m ds → DenT ρ (l ++ m) (cs ++ ds)
  | [], m, cs, ds, h, h' => by cases h with | nil h => subst h; simpa using h'
  | x :: r, m, cs, ds, h, h' => by
    cases h with
    | cons c c2 hc h1 h2 => subst hc; exact .cons c (c2 ++ ds) (by simp) h1 (h2.append h')

theorem FSat.putO {ρ : Rho} {nt : Nat} {fr : Fr} {a : Act} (h : FSat ρ nt fr a) {d : Option Nat} (hd : dstOk nt d = true) {v : SV} {c : Value} (hv : Den ρ v c) : FSat ρ nt (putS d v fr) (a.put d c) := by
  cases d with
  | none => exact h
  | some d => exact h.put (by simpa [dstOk] using hd) hv

/-- A call: which function, with which arguments. -/
theorem calleeS_sound {C : Kit} {E : Env} {ρ : Rho} {st : St} {a : Act} {w : World} (h3 : HSat ρ st.hp w) (h2 : FSat ρ E.nt st.fr a) {o : Oper} {c : Call} (ho : o.op = .call c) {K : Nat → List SV → Prop}
    (h : match evL st.fr st.hp c.args.toList with
      | some l => calleeS C.M c.callee st.fr st.hp l K
      | none => False) : ∃ f vals cs, DenT ρ vals cs ∧ K f vals ∧ (CallOk C.P f → ∀ x, (execOp a.eval o).run C.P x = .ok (.enter f cs.toArray) x) := by
  obtain ⟨dst, op, type, pos, after, guard⟩ := o
  simp only at ho
  subst ho
  obtain ⟨callee, args, argTypes⟩ := c
  split at h
  · rename_i l hl
    have hdl := evL_sound h3 h2 hl
    cases callee with
    | builtin b => exact h.elim
    | value f =>
      obtain ⟨v, g1, g2⟩ := ev1_sound h3 h2 h
      split at g2
      · rename_i g first cap
        split at g2
        · rename_i g
          cases g1 with
          | fn vs us hc k1 k2 =>
            refine ⟨g, _, _, k1.append (hdl.append k2), g2, fun hok x => ?_⟩
            have e1 : args.map a.eval = (args.toList.map a.eval).toArray := by apply Array.ext'; simp
            simp only [execOp, resolve, hc, Deferred.ofValue, Sem.run_bind, Sem.run_pure, Result.andThen_ok, invoke, run_callFunc hok, e1]
            simp
        · exact g2.elim
      · exact g2.elim
    | invoke r name =>
      obtain ⟨v, g1, g2⟩ := ev1_sound h3 h2 h
      split at g2
      · rename_i t y o
        split at g2
        · rename_i g hg
          cases g1 with
          | ifc u hc k1 =>
            have k1' := k1
            cases k1 with
            | p b o0 hx hp =>
              refine ⟨g, .p y o :: l, u :: args.toList.map a.eval, .cons _ _ rfl k1' hdl, g2, fun hok x => ?_⟩
              have e1 : args.map a.eval = (args.toList.map a.eval).toArray := by apply Array.ext'; simp
              have hm := (C.hM t name g hg).2 ⟨b, o0 + o.val, none⟩ x
              subst hp
              simp only [execOp, resolve, hc, Sem.run_bind, Sem.run_pure, Result.andThen_ok, invoke, e1]
              simp [callMethod, hm, run_callFunc hok]
              rw [List.take_of_length_le (by simp)]
        · exact g2.elim
      · exact g2.elim
  · exact h.elim

theorem stepS_op {H : Handler} {T : Tree} {M : MT} {o : Op} {fr : Fr} {hp : List Blk} {q : Bool} {K : Bool → SV → List Blk → Prop} (hc : isCall o = false) (h : stepS H T M o fr hp q K) : opS T M o fr hp (K (q && quietOp o)) := by
  cases o <;> try exact h
  rename_i c
  obtain ⟨callee, args, argTypes⟩ := c
  cases callee with
  | builtin b => exact h
  | _ => simp [isCall] at hc
theorem stepS_call {H : Handler} {T : Tree} {M : MT} {o : Op} {fr : Fr} {hp : List Blk} {q : Bool} {K : Bool → SV → List Blk → Prop} (hc : isCall o = true) (h : stepS H T M o fr hp q K) : ∃ c, o = .call c ∧
    (match evL fr hp c.args.toList with
      | some l => calleeS M c.callee fr hp l fun f args => H f args hp fun q' v hp' => K (q && q') v hp'
      | none => False) := by
  cases o <;> try simp [isCall] at hc
  rename_i c
  obtain ⟨callee, args, argTypes⟩ := c
  cases callee with
  | builtin b => cases hc
  | _ => exact ⟨_, rfl, h⟩

/-- One operation, in the model. -/
theorem stepS_sound {C : Kit} {H : Handler} (hH : HOk C H) {E : Env} {o : Oper} {q : Bool} {st : St} {K : Bool → SV → List Blk → Prop} {next : Act → World → Prop} {Q : Exit → Act → World → Prop} {a : Act} {w : World}
    (hs : SSat E q st a w) (hd : dstOk E.nt o.dst = true) (h : stepS H C.T C.M o.op st.fr st.hp q K)
    (hn : ∀ q' v hp' a' w', SSat E q' ⟨putS o.dst v st.fr, hp'⟩ a' w' → K q' v hp' → next a' w') : o.wp C.P a w next Q := by
  obtain ⟨ρ, h1, h2, h3, h4, h5⟩ := hs
  cases hcall : isCall o.op with
  | false =>
    obtain ⟨B, g1, _, g0, _, gr⟩ := opS_sound C.hT C.hM h3 h2 o (stepS_op hcall h)
    have g1 := g1 w g0
    have fin : ∀ c w', B.rel w c w' → next (a.put o.dst c) w' := by
      intro c w' hr
      obtain ⟨ρ', v, hp', g2, g3, g4, g5, g6, g7⟩ := gr c w' hr
      refine hn _ v hp' _ w' ⟨ρ', h1.trans g2, (h2.mono g2).putO hd g3, g4, h4.trans g5, fun e => ?_⟩ g7
      simp only [Bool.and_eq_true] at e
      obtain ⟨n, hn⟩ := h5 e.1
      rw [g6 e.2]; exact ⟨n, hn⟩
    unfold Oper.wp
    rcases g1 with ⟨v, x', hr, g1⟩ | ⟨x', hr, g1⟩
    · rw [g1]; exact fin v x' hr
    · rw [g1]; exact fin undef x' hr
  | true =>
    obtain ⟨c, ho, h⟩ := stepS_call hcall h
    obtain ⟨f, vals, cs, hdn, hok, hrun⟩ := calleeS_sound (C := C) (E := E) (st := st) h3 h2 ho h
    have hok := hH _ _ _ _ hok
    unfold Oper.wp
    rw [hrun hok.ok]
    refine (hok.out ρ w cs hdn h3).mono fun e w' he => ?_
    obtain ⟨q', ρ', v, c, hp', rfl, k2, k3, k4, k5, k6, k7⟩ := he
    refine hn _ v hp' _ w' ⟨ρ', h1.trans k2, (h2.mono k2).putO hd k3, k4, h4.trans k5, fun e => ?_⟩ k7
    simp only [Bool.and_eq_true] at e
    obtain ⟨n, hn⟩ := h5 e.1
    obtain ⟨m, hm⟩ := k6 e.2
    exact ⟨n + m, by rw [hm, hn]; simp⟩

theorem SSat.other {E : Env} {q : Bool} {d : Option Nat} {v v' : SV} {fr : Fr} {hp : List Blk} {a : Act} {w : World} (h : SSat E q ⟨putS d v fr, hp⟩ a w) (hv : ∀ ρ c, Den ρ v c → Den ρ v' c) : SSat E q ⟨putS d v' fr, hp⟩ a w := by
  obtain ⟨ρ, h1, h2, h3⟩ := h
  refine ⟨ρ, h1, ?_, h3⟩
  cases d with
  | none => exact h2
  | some d =>
    refine ⟨h2.size, h2.defers, fun t u hu => ?_⟩
    have := h2.val t
    simp only [putS, look] at this hu
    split at hu
    · rename_i e; subst e; cases hu; exact hv _ _ (this v (by simp))
    · rename_i e; exact this u (by rw [if_neg e]; exact hu)

/-! ### Slots that are looked at -/
structure Obs (v : SV) (K : SV → Prop) : Prop where
  out : ∃ v', (∀ ρ c, Den ρ v c → Den ρ v' c) ∧ K v'
theorem Obs.on {v : SV} {K : SV → Prop} (h : K v) : Obs v K := ⟨v, fun _ _ h => h, h⟩
theorem Obs.int {k : IntKind} {n : S Int} {K : SV → Prop} (m : S Int) (e : m.val = n.val) (h : K (.i k m)) : Obs (.i k n) K := ⟨_, fun ρ c hc => by cases hc with | i hc => exact .i (by rw [hc, e]), h⟩
theorem Obs.bool {n : S Bool} {K : SV → Prop} (m : S Bool) (e : m.val = n.val) (h : K (.b m)) : Obs (.b n) K := ⟨_, fun ρ c hc => by cases hc with | b hc => exact .b (by rw [hc, e]), h⟩
def memN : List Nat → Nat → Bool
  | [], _ => false
  | x :: r, y => if x = y then true else memN r y
def obsV (ob : List Nat) (dst : Option Nat) (v : SV) (K : SV → Prop) : Prop :=
  match dst with
  | some d => match memN ob d with
    | true => Obs v K
    | false => K v
  | none => K v
theorem obsV_sound {ob : List Nat} {dst : Option Nat} {v : SV} {K : SV → Prop} (h : obsV ob dst v K) : ∃ v', (∀ ρ c, Den ρ v c → Den ρ v' c) ∧ K v' := by
  unfold obsV at h
  split at h
  · split at h
    · exact h.out
    · exact ⟨v, fun _ _ h => h, h⟩
  · exact ⟨v, fun _ _ h => h, h⟩
/-- What is chosen by hand: the slots to be looked at; how often a loop is gone round. -/
structure Opt where
  ob : List Nat
  lf : Nat

/-! ### Regions -/
/-- Is a guarded operation carried out? -/
def wantS (all : List Oper) (g : Option (Nat × Bool)) (fr : Fr) (K : Bool → Fr → Prop) : Prop :=
  match g with
  | none => K true fr
  | some (j, want) => match all[j]? with
    | none => False
    | some o => match o.dst with
      | none => False
      | some d => match look fr d with
        | some (.b (.lit t)) => K (t == want) fr
        | some (.b (.ex t)) => Br t (fun _ => K want ((d, .b (.lit true)) :: fr)) (fun _ => K (!want) ((d, .b (.lit false)) :: fr))
        | some (.raw (.tuple _)) => K false fr
        | _ => False

def listS (H : Handler) (ob : List Nat) (T : Tree) (M : MT) (nt : Nat) (all : List Oper) : List Oper → Bool → St → (Bool → Ex → St → Prop) → Prop
  | [], q, st, Q => Q q .normal st
  | o :: r, q, st, Q => if dstOk nt o.dst = true then
      wantS all o.guard st.fr fun want fr =>
        if want = true then stepS H T M o.op fr st.hp q fun q v hp => obsV ob o.dst v fun v => listS H ob T M nt all r q ⟨putS o.dst v fr, hp⟩ Q
        else listS H ob T M nt all r q ⟨putS o.dst (.raw undef) fr, st.hp⟩ Q
    else False

theorem FSat.same {ρ : Rho} {nt : Nat} {fr : Fr} {a : Act} (h : FSat ρ nt fr a) {d : Nat} {x y : SV} (hl : look fr d = some x) (hxy : ∀ c, Den ρ x c → Den ρ y c) : FSat ρ nt ((d, y) :: fr) a := by
  refine ⟨h.size, h.defers, fun t u hu => ?_⟩
  unfold look at hu
  split at hu
  · rename_i e; subst e; cases hu; exact hxy _ (h.val d x hl)
  · exact h.val t u hu

theorem wantS_sound {E : Env} {all : Array Oper} {o : Oper} {q : Bool} {st : St} {a : Act} {w : World} {K : Bool → Fr → Prop}
    (hs : SSat E q st a w) (h : wantS all.toList o.guard st.fr K) : ∃ fr, SSat E q ⟨fr, st.hp⟩ a w ∧ K (Region.wanted o (yielded all a.tmps)) fr := by
  unfold wantS at h
  unfold Region.wanted
  split at h
  · rename_i hg; rw [hg]; exact ⟨st.fr, hs, h⟩
  · rename_i j want hg
    rw [hg]
    split at h
    · exact h.elim
    · rename_i oj hj
      split at h
      · exact h.elim
      · rename_i d hd
        obtain ⟨ρ, h1, h2, h3, h4, h5⟩ := hs
        have hy : ∀ v, look st.fr d = some v → yielded all a.tmps j = (match a.tmps.getD d undef with | .bool b => some b | _ => none) := by
          intro v hv
          unfold yielded
          have : all[j]? = some oj := by rw [← Array.getElem?_toList]; exact hj
          simp only [this, Option.bind_some, hd]
          cases hh : a.tmps[d]? with
          | none => simp [hh, undef]
          | some c => simp only [hh, Array.getD_eq_getD_getElem?, Option.getD_some]; cases c <;> rfl
        split at h
        · rename_i t hl
          cases h2.val d _ hl with
          | b hb =>
            refine ⟨st.fr, ⟨ρ, h1, h2, h3, h4, h5⟩, ?_⟩
            simp only [hy _ hl, hb, S.val_lit]
            have : (some t == some want) = (t == want) := rfl
            rw [this]; exact h
        · rename_i t hl
          cases h2.val d _ hl with
          | b hb =>
            rw [Br_eq] at h
            simp only [S.val_ex] at hb
            simp only [hy _ hl, hb]
            cases t with
            | true =>
              refine ⟨_, ⟨ρ, h1, h2.same hl (y := .b (.lit true)) (fun c hc => by cases hc with | b hc => exact .b hc), h3, h4, h5⟩, ?_⟩
              have := h.1 rfl
              cases want <;> exact this
            | false =>
              refine ⟨_, ⟨ρ, h1, h2.same hl (y := .b (.lit false)) (fun c hc => by cases hc with | b hc => exact .b hc), h3, h4, h5⟩, ?_⟩
              have := h.2 rfl
              cases want <;> exact this
        · rename_i vs hl
          cases h2.val d _ hl with
          | raw hb =>
            refine ⟨st.fr, ⟨ρ, h1, h2, h3, h4, h5⟩, ?_⟩
            simp only [hy _ hl, hb]
            cases want <;> exact h
        · exact h.elim

theorem listS_sound {C : Kit} {H : Handler} (hH : HOk C H) {ob : List Nat} {E : Env} {all : Array Oper} {Q : Bool → Ex → St → Prop} : ∀ (l : List Oper) (q : Bool) (st : St) (a : Act) (w : World), SSat E q st a w → listS H ob C.T C.M E.nt all.toList l q st Q →
    wpList C.P all (Lift E Q) l a w
  | [], q, st, a, w, hs, h => ⟨q, st, hs, h⟩
  | o :: r, q, st, a, w, hs, h => by
    unfold listS at h
    split at h
    · rename_i hd
      obtain ⟨fr, hs', h'⟩ := wantS_sound hs h
      unfold wpList
      split at h'
      · rename_i hw
        rw [if_pos hw]
        exact .inl (stepS_sound hH hs' hd h' fun q' v hp' a' w' hs2 hk => by
          obtain ⟨v', e1, e2⟩ := obsV_sound hk
          exact listS_sound hH r q' _ a' w' (hs2.other e1) e2)
      · rename_i hw
        rw [if_neg hw]
        obtain ⟨ρ, h1, h2, h3, h4, h5⟩ := hs'
        exact listS_sound hH r q ⟨putS o.dst (.raw undef) fr, st.hp⟩ _ w ⟨ρ, h1, h2.putO hd (.raw rfl), h3, h4, h5⟩ h'
    · exact h.elim

/-! ### Regions that draw their order -/
/-- A call that reads alone, whose value is told by what it was handed. -/
structure QCall (C : Kit) (f : Nat) (args : List SV) (hp : List Blk) (K : SV → Prop) : Prop where
  ok : CallOk C.P f
  out : ∀ ρ w vals, DenT ρ args vals → HSat ρ hp w → ∃ v c, Den ρ v c ∧ K v ∧ ∀ x, (qcB w c).ok x → Calls C.P f vals.toArray x fun e w' => e = .returned c ∧ ∃ n, w' = x.drewN n

def drawS (C : Kit) (H : Handler) (ob : List Nat) (T : Tree) (M : MT) (nt : Nat) (all : List Oper) (ps : List Nat) (n : Nat) : List Oper → Nat → Bool → St → (Bool → Ex → St → Prop) → Prop
  | [], k, q, st, Q => Q q .normal st
  | o :: r, k, q, st, Q => if dstOk nt o.dst = true then
      wantS all o.guard st.fr fun want fr =>
        if want = true then (match isCall o.op with
          | false => stepS H T M o.op fr st.hp q fun q v hp => obsV ob o.dst v fun v => drawS C H ob T M nt all ps n r (k + 1) q ⟨putS o.dst v fr, hp⟩ Q
          | true => match barB ps n k with
            | true => stepS H T M o.op fr st.hp q fun q v hp => obsV ob o.dst v fun v => drawS C H ob T M nt all ps n r (k + 1) q ⟨putS o.dst v fr, hp⟩ Q
            | false => match o.op with
              | .call c => match evL fr st.hp c.args.toList with
                | some l => calleeS M c.callee fr st.hp l fun f args => QCall C f args st.hp fun v => drawS C H ob T M nt all ps n r (k + 1) q ⟨putS o.dst v fr, st.hp⟩ Q
                | none => False
              | _ => False)
        else drawS C H ob T M nt all ps n r (k + 1) q ⟨putS o.dst (.raw undef) fr, st.hp⟩ Q
    else False

def barAt (all : Array Oper) (k : Nat) : Prop := ∃ o, all[k]? = some o ∧ isCall o.op = true ∧ barB (preds all.toList) all.size k = true

theorem SSat.drewN {E : Env} {q : Bool} {st : St} {a : Act} {w : World} (h : SSat E q st a w) (n : Nat) : SSat E q st a (w.drewN n) := by
  obtain ⟨ρ, h1, h2, h3, h4, h5⟩ := h
  exact ⟨ρ, h1, h2, h3.drewN n, h4.trans (Kept.drewN w n), fun e => by obtain ⟨m, hm⟩ := h5 e; exact ⟨m + n, by rw [hm]; simp⟩⟩

theorem cls_of_op {T : Tree} {o : Op} {fr : Fr} {hp : List Blk} {ρ : Rho} {N : Nat} {B : Beh} (hc : isCall o = false) (hi : B.Inv) (h : BOk ρ N (effS T o fr hp) B) : Cls (clsOp o) B := by
  have pu : (∃ c, B = Beh.pure c) → ∃ ok v, B = Beh.det ok id fun _ => v := by rintro ⟨c, h⟩; exact ⟨_, c, h⟩
  have rd : ∀ y o n, BOk ρ N (.rd y o n) B → ∃ ok v, B = Beh.det ok id fun _ => v := by
    rintro y o n ⟨b, o0, cs, u, _, _, h⟩; exact ⟨_, u, h⟩
  cases o
  case call c =>
    obtain ⟨callee, args, argTypes⟩ := c
    cases callee with
    | builtin b =>
      cases b
      case len => exact ⟨hi, fun _ => h, fun _ => pu h⟩
      case cap => exact ⟨hi, fun _ => h, fun _ => pu h⟩
      all_goals exact ⟨hi, fun h0 => absurd h0 (show ¬ (3 = 0) by omega), fun h0 => absurd h0 (show ¬ (3 ≤ 2) by omega)⟩
    | _ => cases hc
  case load t x =>
    refine ⟨hi, fun h0 => absurd h0 (show ¬ (1 = 0) by omega), fun _ => ?_⟩
    unfold effS at h
    simp only at h
    split at h
    · exact rd _ _ _ h
    · exact pu h
  all_goals first
    | exact ⟨hi, fun _ => h, fun _ => pu h⟩
    | exact ⟨hi, fun h0 => absurd h0 (show ¬ (3 = 0) by omega), fun h0 => absurd h0 (show ¬ (3 ≤ 2) by omega)⟩

def stopOf (all : Array Oper) : List Oper → Nat → Nat
  | [], k => k
  | o :: r, k => if isCall o.op && barB (preds all.toList) all.size k then k else stopOf all r (k + 1)
theorem stopOf_spec {all : Array Oper} : ∀ (l : List Oper) (k : Nat), l = all.toList.drop k → k ≤ all.size → k ≤ stopOf all l k ∧ stopOf all l k ≤ all.size ∧ (stopOf all l k = all.size ∨ barAt all (stopOf all l k)) ∧
    (k < all.size → ¬ barAt all k → k < stopOf all l k)
  | [], k, hl, hk => by
    have : all.size ≤ k := by have := congrArg List.length hl; simp at this; omega
    unfold stopOf
    exact ⟨Nat.le_refl _, hk, .inl (by omega), fun _ => by omega⟩
  | o :: r, k, hl, hk => by
    have hko : all[k]? = some o := by
      have := congrArg (fun l => l[0]?) hl
      simpa using this.symm
    have hlt := (Array.getElem?_eq_some_iff.1 hko).1
    have hr : r = all.toList.drop (k + 1) := by
      have := congrArg List.tail hl
      simpa using this
    unfold stopOf
    split
    · rename_i h
      simp only [Bool.and_eq_true] at h
      exact ⟨Nat.le_refl _, hk, .inr ⟨o, hko, h⟩, fun _ hn => absurd ⟨o, hko, h⟩ hn⟩
    · obtain ⟨h1, h2, h3, h4⟩ := stopOf_spec r (k + 1) hr hlt
      exact ⟨by omega, h2, h3, fun _ _ => by omega⟩

theorem drawS_seg {C : Kit} {H : Handler} {ob : List Nat} {E : Env} {all : Array Oper} {Q : Bool → Ex → St → Prop} {stop : Nat} : ∀ (l : List Oper) (k : Nat) (q : Bool) (st : St) (a : Act) (w : World), l = all.toList.drop k → k ≤ all.size → stopOf all l k = stop →
    SSat E q st a w → drawS C H ob C.T C.M E.nt all.toList (preds all.toList) all.size l k q st Q →
    LexOk C.P all (fun a w => ∃ q st, SSat E q st a w ∧ drawS C H ob C.T C.M E.nt all.toList (preds all.toList) all.size (all.toList.drop stop) stop q st Q) (List.range' k (stop - k)) a w
  | [], k, q, st, a, w, hl, hk, hst, hs, h => by
    subst hst
    unfold stopOf
    rw [Nat.sub_self]
    exact ⟨q, st, hs, by rw [← hl]; exact h⟩
  | o :: r, k, q, st, a, w, hl, hk, hst, hs, h => by
    have hko : all[k]? = some o := by
      have := congrArg (fun l => l[0]?) hl
      simpa using this.symm
    have hlt := (Array.getElem?_eq_some_iff.1 hko).1
    have hr : r = all.toList.drop (k + 1) := by
      have := congrArg List.tail hl
      simpa using this
    unfold stopOf at hst
    split at hst
    · subst hst
      rw [Nat.sub_self]
      exact ⟨q, st, hs, by rw [← hl]; exact h⟩
    · rename_i hb
      have hks := (stopOf_spec r (k + 1) hr hlt).1
      rw [hst] at hks
      rw [show stop - k = (stop - (k + 1)) + 1 by omega, List.range'_succ]
      have go : ∀ q' st' a' w', SSat E q' st' a' w' → drawS C H ob C.T C.M E.nt all.toList (preds all.toList) all.size r (k + 1) q' st' Q →
          LexOk C.P all (fun a w => ∃ q st, SSat E q st a w ∧ drawS C H ob C.T C.M E.nt all.toList (preds all.toList) all.size (all.toList.drop stop) stop q st Q) (List.range' (k + 1) (stop - (k + 1))) a' w' :=
        fun q' st' a' w' h1 h2 => drawS_seg r (k + 1) q' st' a' w' hr hlt hst h1 h2
      unfold drawS at h
      split at h
      · rename_i hd
        obtain ⟨fr, hs', h'⟩ := wantS_sound hs h
        obtain ⟨ρ, h1, h2, h3, h4, h5⟩ := hs'
        split at h'
        · rename_i hw
          split at h'
          · rename_i hc
            obtain ⟨B, g1, gi, g0, gb, gr⟩ := opS_sound C.hT C.hM h3 h2 o (stepS_op hc h')
            refine ⟨o, B, hko, cls_of_op hc gi gb, g0, .inl ⟨hw, fun x hx => ?_⟩, fun c w' hr => ?_⟩
            · rcases g1 x hx with g | g
              · exact .inl g
              · exact .inr (.inl g)
            · obtain ⟨ρ', v, hp', g2, g3, g4, g5, g6, g7⟩ := gr c w' hr
              obtain ⟨v', e1, e2⟩ := obsV_sound g7
              refine go _ ⟨putS o.dst v' fr, hp'⟩ _ _ ⟨ρ', h1.trans g2, (h2.mono g2).putO hd (e1 _ _ g3), g4, h4.trans g5, fun e => ?_⟩ e2
              simp only [Bool.and_eq_true] at e
              obtain ⟨n, hn⟩ := h5 e.1
              rw [g6 e.2]; exact ⟨n, hn⟩
          · rename_i hc
            split at h'
            · rename_i hbar; exact absurd (by rw [hc, hbar]; rfl) hb
            · split at h'
              · rename_i c ho
                obtain ⟨f, vals, cs, hdn, hok, hrun⟩ := calleeS_sound (C := C) (E := E) (st := ⟨fr, st.hp⟩) h3 h2 ho h'
                obtain ⟨v, u, k1, k2, k3⟩ := hok.out ρ w cs hdn h3
                have hcl : clsOp o.op = 2 := by
                  rw [ho] at hc ⊢
                  obtain ⟨callee, args, argTypes⟩ := c
                  cases callee <;> first | rfl | cases hc
                refine ⟨o, qcB w u, hko, ⟨qcB_inv w u, fun e => by omega, fun _ => ⟨_, u, rfl⟩⟩, ⟨rfl, rfl, rfl, rfl⟩, .inl ⟨hw, fun x hx => .inr (.inr ⟨hcl, f, _, hrun hok.ok x, (k3 x hx).mono ?_⟩)⟩, ?_⟩
                · rintro e w' ⟨rfl, n, rfl⟩; exact ⟨u, x, n, rfl, ⟨rfl, rfl⟩, rfl⟩
                · rintro c w' ⟨rfl, rfl⟩; exact go q ⟨putS o.dst v fr, st.hp⟩ _ _ ⟨ρ, h1, h2.putO hd k1, h3, h4, h5⟩ k2
              · exact h'.elim
        · rename_i hw
          refine ⟨o, Beh.pure undef, hko, Cls.pure _ _, trivial, .inr ⟨by simpa using hw, rfl⟩, ?_⟩
          rintro c w' ⟨rfl, rfl⟩
          exact go q ⟨putS o.dst (.raw undef) fr, st.hp⟩ _ _ ⟨ρ, h1, h2.putO hd (.raw rfl), h3, h4, h5⟩ h'
      · exact h.elim

theorem drawS_sound {C : Kit} {H : Handler} (hH : HOk C H) {ob : List Nat} {E : Env} {all : Array Oper} {Q : Bool → Ex → St → Prop} (hchk : drawChk all = true) : ∀ (m k : Nat) (q : Bool) (st : St) (a : Act) (w : World), all.size - k = m → k ≤ all.size → SSat E q st a w →
    drawS C H ob C.T C.M E.nt all.toList (preds all.toList) all.size (all.toList.drop k) k q st Q → wpAny C.P .any all (Lift E Q) (all.size - k) (listedTo all.size k) a w := by
  obtain ⟨c1, c2, c3⟩ := drawChk_sound hchk
  have hlow := lowB_sound c2
  intro m
  induction m using Nat.strongRecOn with
  | ind m ih =>
    intro k q st a w hm hk hs h
    rcases Nat.lt_or_ge k all.size with hlt | hge
    · by_cases hb : barAt all k
      · obtain ⟨o, hko, hcall, hbar⟩ := hb
        obtain ⟨b1, b2⟩ := barB_sound hbar
        refine wpAny_bar k hlow hko (fun i oi hi hoi => b2 i hi (Array.getElem?_eq_some_iff.1 hoi).1) ?_
        have e : all.toList.drop k = o :: all.toList.drop (k + 1) := by
          rw [List.drop_eq_getElem_cons (by simpa using hlt)]
          congr 1
          have := (Array.getElem?_eq_some_iff.1 hko).2
          simpa using this
        rw [e] at h
        unfold drawS at h
        split at h
        · rename_i hd
          obtain ⟨fr, hs', h'⟩ := wantS_sound hs h
          unfold wpOp
          simp only [hko]
          split at h'
          · rename_i hw
            rw [if_pos hw]
            rw [hcall, hbar] at h'
            exact .inl (stepS_sound hH hs' hd h' fun q' v hp' a' w' hs2 hk2 => by
              obtain ⟨v', e1, e2⟩ := obsV_sound hk2
              exact ih (all.size - (k + 1)) (by omega) (k + 1) q' ⟨putS o.dst v' fr, hp'⟩ a' w' rfl (by omega) (hs2.other e1) e2)
          · rename_i hw
            rw [if_neg hw]
            obtain ⟨ρ, h1, h2, h3, h4, h5⟩ := hs'
            exact ih (all.size - (k + 1)) (by omega) (k + 1) q ⟨putS o.dst (.raw undef) fr, st.hp⟩ _ w rfl (by omega) ⟨ρ, h1, h2.putO hd (.raw rfl), h3, h4, h5⟩ h'
        · exact h.elim
      · obtain ⟨t1, t2, t3, t5⟩ := stopOf_spec _ k rfl hk
        have t6 := drawS_seg _ k q st a w rfl hk rfl hs h
        generalize stopOf all (all.toList.drop k) k = stop at *
        have hks := t5 hlt hb
        refine wpAny_seg (Q' := fun a w => ∃ q st, SSat E q st a w ∧ drawS C H ob C.T C.M E.nt all.toList (preds all.toList) all.size (all.toList.drop stop) stop q st Q)
          (fun a w n ⟨q, st, h1, h2⟩ => ⟨q, st, h1.drewN n, h2⟩) c1 stop hlow t2 k t1 (fun j i oj oi _ hji _ hj hi => ?_) (fun j i oi hj hjs hi hoi => ?_)
          (fun a w ⟨q, st, h1, h2⟩ => ih (all.size - stop) (by omega) stop q st a w rfl t2 h1 h2) t6
        · exact c3 j i oj oi hji hj hi
        · have hin := (Array.getElem?_eq_some_iff.1 hoi).1
          rcases t3 with t3 | ⟨o, hso, hcall, hbar⟩
          · omega
          · obtain ⟨b1, b2⟩ := barB_sound hbar
            have hsn := (Array.getElem?_eq_some_iff.1 hso).1
            have hb1 := b1 j hjs hsn
            rcases Nat.lt_or_ge stop i with hsi | hsi
            · exact hb1.trans (b2 i hsi hin)
            · have : i = stop := by omega
              subst this; exact hb1
    · have : k = all.size := by omega
      subst this
      refine wpAny_end ?_
      rw [List.drop_of_length_le (by simp)] at h
      exact ⟨q, st, hs, h⟩

end
end Go.Vex
