/-
  VEX, part 12: code, functions; calls gone into.
-/
import Derived.Test.YtkljgpepogkgdaaDoorV10
set_option linter.unusedSimpArgs false
namespace Go.Vex
set_option linter.unusedVariables false
noncomputable section

/-! ### Loops -/
/-- A loop that is under way: its body next. -/
def LoopW (P : Program) (c : Code) (Q : Exit → Act → World → Prop) (a : Act) (w : World) : Prop :=
  ∀ (b : Frame) (k : List Item) (cs : List Frame), ∃ e a' w', Q e a' w' ∧ Arrives P (lone (b.at a (.code c :: .inLoop c :: k)) cs w) b k cs e a' w'
theorem LoopW.wp {P : Program} {c : Code} {Q : Exit → Act → World → Prop} {a : Act} {w : World} (h : LoopW P c Q a w) : (Code.loop c).wp P Q a w := by
  intro b k cs
  obtain ⟨e, a', w', hq, harr⟩ := h b k cs
  exact ⟨e, a', w', hq, .of_steps (.one step_loop) harr⟩
theorem LoopW.round {P : Program} {c : Code} {Q : Exit → Act → World → Prop} {a : Act} {w : World} (h : c.wp P (Exit.then (LoopW P c Q) Q) a w) : LoopW P c Q a w := by
  intro b k cs
  obtain ⟨e, a₁, w₁, hq, harr⟩ := h b (.inLoop c :: k) cs
  cases e with
  | normal =>
    obtain ⟨e₂, a₂, w₂, hq₂, harr₂⟩ := hq b k cs
    exact ⟨e₂, a₂, w₂, hq₂, .of_steps (Steps.trans harr (.one step_inLoop)) harr₂⟩
  | exit id => exact ⟨_, a₁, w₁, hq, .pass (x := .inLoop c) rfl (fun _ _ => .inl (by simp)) harr⟩
  | goto l => exact ⟨_, a₁, w₁, hq, .pass (x := .inLoop c) rfl (fun _ _ => .inl (by simp)) harr⟩
  | ret => exact ⟨_, a₁, w₁, hq, .pass (x := .inLoop c) rfl (fun _ _ => .inl (by simp)) harr⟩
  | panic ch => exact ⟨_, a₁, w₁, hq, .pass (x := .inLoop c) rfl (fun _ _ => .inl (by simp)) harr⟩
  | outgrown => exact ⟨_, a₁, w₁, hq, .pass (x := .inLoop c) rfl (fun _ _ => .inl (by simp)) harr⟩

structure OkLoop (C : Kit) (nt n0 : Nat) (c : Code) (q : Bool) (st : St) (Q : Bool → Ex → St → Prop) : Prop where
  out : ∀ (E : Env) a w, E.nt = nt → E.ρ0.length = n0 → SSat E q st a w → LoopW C.P c (Lift E Q) a w

/-! ### Code -/
def iterS (body : Bool → St → (Bool → Ex → St → Prop) → Prop) (fin : Bool → St → Prop) (Q : Bool → Ex → St → Prop) : Nat → Bool → St → Prop
  | 0, q, st => fin q st
  | n + 1, q, st => body q st fun q e st => match e with
    | .normal => iterS body fin Q n q st
    | .exit id => Q q (.exit id) st
    | .ret => Q q .ret st

/-- Is the walk cut ahead of such a piece? (A region's number, and a million.) -/
def cutAt (ob : List Nat) (a : Code) : Bool :=
  match a with
  | .region id _ _ => memN ob (1000000 + id)
  | _ => false
/-- The code from such a region on. -/
def codeFrom (n : Nat) : Code → Option Code
  | .seq a b => match a with
    | .region id _ _ => if id = n then some (.seq a b) else codeFrom n b
    | _ => match codeFrom n a with
      | some c => some c
      | none => codeFrom n b
  | .block _ b => codeFrom n b
  | .scope b => codeFrom n b
  | .loop b => codeFrom n b
  | .cond _ x y => match codeFrom n x with
    | some c => some c
    | none => codeFrom n y
  | _ => none
def codeS (C : Kit) (H : Handler) (O : Opt) (T : Tree) (M : MT) (nt n0 : Nat) (c : Code) (q : Bool) (st : St) (Q : Bool → Ex → St → Prop) : Prop :=
  match c with
  | .skip => Q q .normal st
  | .region id ops draw => match draw with
    | true => drawS C H O.ob T M nt ops.toList (preds ops.toList) ops.size ops.toList 0 q st Q
    | false => listS H O.ob T M nt ops.toList ops.toList q st Q
  | .seq a b => match cutAt O.ob a with
    | true => Ok C nt n0 (.seq a b) q st Q
    | false => codeS C H O T M nt n0 a q st fun q e st => match e with
      | .normal => codeS C H O T M nt n0 b q st Q
      | .exit id => Q q (.exit id) st
      | .ret => Q q .ret st
  | .cond c x y => ev1 st.fr st.hp c fun v => match v with
    | .b (.lit t) => if t = true then codeS C H O T M nt n0 x q st Q else codeS C H O T M nt n0 y q st Q
    | .b (.ex t) => Br t (fun _ => codeS C H O T M nt n0 x q st Q) (fun _ => codeS C H O T M nt n0 y q st Q)
    | _ => False
  | .block id b => codeS C H O T M nt n0 b q st fun q e st => match e with
    | .normal => Q q .normal st
    | .exit id' => if id' = id then Q q .normal st else Q q (.exit id') st
    | .ret => Q q .ret st
  | .scope b => codeS C H O T M nt n0 b q st Q
  | .exit id => Q q (.exit id) st
  | .ret => Q q .ret st
  | .loop b => iterS (fun q st Q => codeS C H O T M nt n0 b q st Q) (fun q st => OkLoop C nt n0 b q st Q) Q O.lf q st
  | c => Ok C nt n0 c q st Q

theorem codeS_sound {C : Kit} {H : Handler} (hH : HOk C H) {O : Opt} {E : Env} : ∀ (c : Code) (q : Bool) (st : St) (Q : Bool → Ex → St → Prop) (a : Act) (w : World), drawsChk c = true → SSat E q st a w → codeS C H O C.T C.M E.nt E.ρ0.length c q st Q → c.wp C.P (Lift E Q) a w := by
  intro c
  induction c with
  | skip => intro q st Q a w hch hs h; exact wp_skip ⟨q, st, hs, h⟩
  | region id ops draw =>
    intro q st Q a w hch hs h
    cases draw with
    | true =>
      refine wp_draw C.hO (drawS_sound hH (ob := O.ob) hch _ 0 q st a _ rfl (Nat.zero_le _) (hs.drewN 1) ?_)
      exact h
    | false => exact wp_region_list (listS_sound hH ops.toList q st a w hs h)
  | seq x y ihx ihy =>
    intro q st Q a w hch hs h
    simp only [drawsChk, Bool.and_eq_true] at hch
    unfold codeS at h
    split at h
    · exact h.out E a w rfl rfl hs
    refine wp_seq (wp_mono (ihx q st _ a w hch.1 hs h) ?_)
    intro e a' w' he
    cases e with
    | normal => obtain ⟨q', st', h1, h2⟩ := he; exact ihy q' st' Q a' w' hch.2 h1 h2
    | exit id => exact he
    | ret => exact he
    | goto l => exact he.elim
    | panic ch => exact he.elim
    | outgrown => exact he.elim
  | cond c x y ihx ihy =>
    intro q st Q a w hch hs h
    simp only [drawsChk, Bool.and_eq_true] at hch
    unfold codeS at h
    have hs' := hs
    obtain ⟨ρ, h1, h2, h3, h4, h5⟩ := hs'
    obtain ⟨v, g1, g2⟩ := ev1_sound h3 h2 h
    split at g2
    · rename_i t
      cases g1 with
      | b hb =>
        refine wp_cond hb ?_
        cases t
        · exact ihy q st Q a w hch.2 hs (by simpa using g2)
        · exact ihx q st Q a w hch.1 hs (by simpa using g2)
    · rename_i t
      cases g1 with
      | b hb =>
        rw [Br_eq] at g2
        simp only [S.val_ex] at hb
        refine wp_cond hb ?_
        cases t
        · exact ihy q st Q a w hch.2 hs (g2.2 rfl)
        · exact ihx q st Q a w hch.1 hs (g2.1 rfl)
    · exact g2.elim
  | block id b ih =>
    intro q st Q a w hch hs h
    refine wp_block (wp_mono (ih q st _ a w hch hs h) ?_)
    intro e a' w' he
    cases e with
    | normal => exact he
    | exit id' =>
      obtain ⟨q', st', h1, h2⟩ := he
      simp only at h2
      simp only [Exit.inBlock]
      split at h2
      · rename_i e; rw [if_pos e]; exact ⟨q', st', h1, h2⟩
      · rename_i e; rw [if_neg e]; exact ⟨q', st', h1, h2⟩
    | ret => exact he
    | goto l => exact he.elim
    | panic ch => exact he.elim
    | outgrown => exact he.elim
  | scope b ih =>
    intro q st Q a w hch hs h
    refine wp_scope_straight (wp_mono (ih q st Q a w hch hs h) ?_)
    intro e a' w' he
    cases e <;> first | exact he | exact he.elim
  | exit id => intro q st Q a w hch hs h; exact wp_exit ⟨q, st, hs, h⟩
  | ret => intro q st Q a w hch hs h; exact wp_ret ⟨q, st, hs, h⟩
  | loop b ih =>
    intro q st Q a w hch hs h
    have key : ∀ (n : Nat) (q : Bool) (st : St) (a : Act) (w : World), SSat E q st a w →
        iterS (fun q st Q => codeS C H O C.T C.M E.nt E.ρ0.length b q st Q) (fun q st => OkLoop C E.nt E.ρ0.length b q st Q) Q n q st → LoopW C.P b (Lift E Q) a w := by
      intro n
      induction n with
      | zero => intro q st a w hs h; exact h.out E a w rfl rfl hs
      | succ n ihn =>
        intro q st a w hs h
        refine LoopW.round (wp_mono (ih q st _ a w hch hs h) ?_)
        intro e a' w' he
        cases e with
        | normal => obtain ⟨q', st', h1, h2⟩ := he; exact ihn q' st' a' w' h1 h2
        | exit id => exact he
        | ret => exact he
        | goto l => exact he.elim
        | panic ch => exact he.elim
        | outgrown => exact he.elim
    exact (key O.lf q st a w hs h).wp
  | rangeFunc f ps as b ih1 ih2 => intro q st Q a w hch hs h; exact h.out E a w rfl rfl hs
  | label l => intro q st Q a w hch hs h; exact h.out E a w rfl rfl hs
  | goto l => intro q st Q a w hch hs h; exact h.out E a w rfl rfl hs
  | refuse s => intro q st Q a w hch hs h; exact h.out E a w rfl rfl hs

theorem Ok.of_codeS {C : Kit} {H : Handler} (hH : HOk C H) (O : Opt) {nt n0 : Nat} {c : Code} {q : Bool} {st : St} {Q : Bool → Ex → St → Prop}
    (hch : drawsChk c = true) (h : codeS C H O C.T C.M nt n0 c q st Q) : Ok C nt n0 c q st Q := ⟨fun E a w h1 h2 hs => codeS_sound hH c q st Q a w hch hs (by subst h1; subst h2; exact h)⟩
/-- A loop's next round. -/
theorem OkLoop.round {C : Kit} {H : Handler} (hH : HOk C H) (O : Opt) {nt n0 : Nat} {c : Code} {q : Bool} {st : St} {Q : Bool → Ex → St → Prop}
    (hch : drawsChk c = true) (h : codeS C H O C.T C.M nt n0 c q st fun q e st => match e with
      | .normal => OkLoop C nt n0 c q st Q
      | .exit id => Q q (.exit id) st
      | .ret => Q q .ret st) : OkLoop C nt n0 c q st Q := by
  refine ⟨fun E a w h1 h2 hs => ?_⟩
  subst h1; subst h2
  refine LoopW.round (wp_mono (codeS_sound hH c q st _ a w hch hs h) ?_)
  intro e a' w' he
  cases e with
  | normal => obtain ⟨q', st', h3, h4⟩ := he; exact h4.out E a' w' rfl rfl h3
  | exit id => exact he
  | ret => exact he
  | goto l => exact he.elim
  | panic ch => exact he.elim
  | outgrown => exact he.elim

/-! ### Functions -/
/-- Called with such arguments and resources it returns so. -/
abbrev FSpec (C : Kit) (f : Nat) (args : List SV) (hp : List Blk) (post : Bool → SV → List Blk → Prop) : Prop := OkCall C f args hp post

def argFr : List SV → Nat → Fr
  | [], _ => []
  | v :: r, k => (k, v) :: argFr r (k + 1)

theorem argFr_sound {ρ : Rho} : ∀ {l : List SV} {cs : List Value} {k : Nat} {t : Nat} {v : SV}, DenT ρ l cs → look (argFr l k) t = some v → ∃ c, k ≤ t ∧ cs[t - k]? = some c ∧ Den ρ v c
  | [], cs, k, t, v, h, hv => by simp [argFr, look] at hv
  | x :: r, cs, k, t, v, h, hv => by
    cases h with
    | cons c c2 hc h1 h2 =>
      subst hc
      unfold argFr look at hv
      split at hv
      · rename_i e; subst e; cases hv; exact ⟨c, Nat.le_refl _, by simp, h1⟩
      · obtain ⟨c', e1, e2, e3⟩ := argFr_sound h2 hv
        exact ⟨c', by omega, by rw [show t - k = (t - (k + 1)) + 1 by omega]; simpa using e2, e3⟩

/-- What a function hands back. -/
def resS (T : Tree) (rs : List ResultVar) (fr : Fr) (hp : List Blk) (K : List SV → Prop) : Prop :=
  match rs with
  | [] => K []
  | .tmp t :: r => match look fr t with
    | some v => resS T r fr hp fun l => K (v :: l)
    | none => False
  | .cell t ty :: r => match look fr t with
    | some (.p y o) => loadS T ty hp y o fun v => resS T r fr hp fun l => K (v :: l)
    | _ => False
def tupS (l : List SV) : SV :=
  match l with
  | [v] => v
  | l => .tup l

def resOne (tmps : Array Value) : ResultVar → Sem Value
  | .tmp t => pure (tmps.getD t undef)
  | .cell x t => do loadVar t (← asAddr (tmps.getD x undef))
theorem results_eq (fn : Func) (tmps : Array Value) : results fn tmps = (do let vs ← fn.results.mapM (resOne tmps); pure (if h : vs.size = 1 then vs[0] else .tuple vs)) := by
  have : (fun r => resOne tmps r) = (fun r => match r with
      | .tmp t => pure (tmps.getD t undef)
      | .cell a t => do loadVar t (← asAddr (tmps.getD a undef)) : ResultVar → Sem Value) := by funext x; cases x <;> rfl
  show _ = (do let vs ← fn.results.mapM (fun r => resOne tmps r); pure (if h : vs.size = 1 then vs[0] else .tuple vs))
  rw [this]
  rfl
theorem DenT.length {ρ : Rho} : ∀ {l : List SV} {cs : List Value}, DenT ρ l cs → cs.length = l.length
  | [], cs, h => by cases h with | nil h => subst h; rfl
  | x :: r, cs, h => by cases h with | cons c c2 hc h1 h2 => subst hc; simp [h2.length]

theorem resS_sound {P : Program} {T : Tree} (hT : TOk P T) {ρ : Rho} {nt : Nat} {fr : Fr} {a : Act} {hp : List Blk} {w : World} (h : HSat ρ hp w) (hf : FSat ρ nt fr a) : ∀ (rs : List ResultVar) (K : List SV → Prop), resS T rs fr hp K →
    ∃ l cs, (rs.mapM (resOne a.tmps) : Sem (List Value)).run P w = .ok cs w ∧ DenT ρ l cs ∧ K l
  | [], K, hK => ⟨[], [], by simp, .nil rfl, hK⟩
  | .tmp t :: r, K, hK => by
    unfold resS at hK
    split at hK
    · rename_i v hv
      obtain ⟨l, cs, g1, g2, g3⟩ := resS_sound hT h hf r _ hK
      exact ⟨v :: l, a.tmps.getD t undef :: cs, by simp only [List.mapM_cons, resOne, Sem.run_bind, Sem.run_pure, Result.andThen_ok, g1], .cons _ _ rfl (hf.val t v hv) g2, g3⟩
    · exact hK.elim
  | .cell t ty :: r, K, hK => by
    unfold resS at hK
    split at hK
    · rename_i y o hv
      have hd := hf.val t _ hv
      obtain ⟨v, u, e1, e2, e3⟩ := loadS_sound hT h hd hK
      obtain ⟨l, cs, g1, g2, g3⟩ := resS_sound hT h hf r _ e3
      refine ⟨v :: l, u :: cs, ?_, .cons _ _ rfl e2 g2, g3⟩
      have hl : (do loadVar ty (← asAddr (a.tmps.getD t undef)) : Sem Value).run P w = .ok u w := by
        cases hd with
        | p b o0 hx hc =>
          rw [hc] at e1 ⊢
          exact e1
      simp only [List.mapM_cons, resOne, Sem.run_bind] at hl ⊢
      rw [hl]
      simp only [Result.andThen_ok, g1, Sem.run_pure]
    · exact hK.elim

theorem run_results {P : Program} {fn : Func} {a : Act} {w : World} {ρ : Rho} {l : List SV} {cs : List Value}
    (h : (fn.results.toList.mapM (resOne a.tmps) : Sem (List Value)).run P w = .ok cs w) (hd : DenT ρ l cs) :
    ∃ c, (results fn a.tmps).run P w = .ok c w ∧ Den ρ (tupS l) c := by
  rw [results_eq, Sem.run_bind, Array.mapM_eq_mapM_toList]
  simp only [Sem.run_map]
  rw [h]
  simp only [Result.andThen_ok, Sem.run_pure]
  cases hd with
  | nil hc => subst hc; exact ⟨_, rfl, .tup [] rfl (.nil rfl)⟩
  | cons c c2 hc h1 h2 =>
    cases h2 with
    | nil hc2 => subst hc2; subst hc; exact ⟨_, rfl, h1⟩
    | cons c' c3 hc3 h3 h4 =>
      subst hc3; subst hc
      exact ⟨.tuple (c :: c' :: c3).toArray, by simp, .tup _ rfl (.cons _ _ rfl h1 (.cons _ _ rfl h3 h4))⟩

/-- What is handed back. -/
def endS (T : Tree) (rs : List ResultVar) (K : Bool → SV → List Blk → Prop) (q : Bool) (e : Ex) (st : St) : Prop :=
  match e with
  | .exit _ => False
  | _ => resS T rs st.fr st.hp fun l => K q (tupS l) st.hp

/-- A function's contract, from its body. -/
theorem OkCall.of_code {C : Kit} {f : Nat} {fn : Func} {c : Code} {args : List SV} {hp : List Blk} {post : Bool → SV → List Blk → Prop}
    (hf : C.P.funcs[f]? = some fn) (hb : fn.body = some c) (hn : (fn.name == "runtime.NumGoroutine") = false) (hlen : Nat.ble args.length fn.ntmps = true)
    (h : Ok C fn.ntmps hp.length c true ⟨argFr args 0, hp⟩ (endS C.T fn.results.toList post)) : OkCall C f args hp post := by
  refine ⟨⟨fn, hf, hn, by rw [hb]; rfl⟩, fun ρ w vals hd hs => ?_⟩
  have hvl : vals.length = args.length := hd.length
  have hlen := Nat.le_of_ble_eq_true hlen
  let E : Env := ⟨ρ, w, fn.ntmps⟩
  refine calls_of_wp hf hb (wp_mono (h.out E _ w rfl hs.len.symm ⟨ρ, Ext.refl _, ⟨by show _ = fn.ntmps; simp; omega, rfl, ?_⟩, hs, Kept.refl _, fun _ => ⟨0, rfl⟩⟩) ?_)
  · intro t v hv
    obtain ⟨c, _, e2, e3⟩ := argFr_sound hd hv
    have hlt : t < vals.length := by
      have := (List.getElem?_eq_some_iff.1 e2).1; simpa using this
    have : (vals.toArray ++ Array.replicate (fn.ntmps - vals.toArray.size) undef).getD t undef = c := by
      rw [Array.getD_eq_getD_getElem?, Array.getElem?_append_left (by simpa using hlt)]
      simp at e2 ⊢
      simp [e2]
    rw [this]; exact e3
  · have fin : ∀ (q : Bool) (st : St) (a : Act) (w' : World), SSat E q st a w' → (resS C.T fn.results.toList st.fr st.hp fun l => post q (tupS l) st.hp) →
        a.defers = [] ∧ ∃ v, (results fn a.tmps).run C.P w' = .ok v w' ∧ Ends ρ w post (.returned v) w' := by
      intro q st a w' ⟨ρ', h1, h2, h3, h4, h5⟩ hr
      refine ⟨h2.defers, ?_⟩
      obtain ⟨l, cs, g1, g2, g3⟩ := resS_sound C.hT h3 h2 _ _ hr
      obtain ⟨c, k1, k2⟩ := run_results g1 g2
      exact ⟨c, k1, q, ρ', tupS l, c, st.hp, rfl, h1, k2, h3, h4, h5, g3⟩
    intro e a w' he
    cases e with
    | normal => obtain ⟨q, st, h1, h2⟩ := he; exact fin q st a w' h1 h2
    | ret => obtain ⟨q, st, h1, h2⟩ := he; exact fin q st a w' h1 h2
    | exit id => obtain ⟨q, st, h1, h2⟩ := he; exact h2.elim
    | goto l => exact he.elim
    | panic ch => exact he.elim
    | outgrown => exact he.elim

/-! ### Calls gone into -/
structure FnI where
  nt : Nat
  res : List ResultVar
  body : Code
  opt : Opt
abbrev FnT := List (Nat × FnI)
def findI : FnT → Nat → Option FnI
  | [], _ => none
  | (f, x) :: r, g => if f = g then some x else findI r g
structure FnOk (C : Kit) (f : Nat) (x : FnI) : Prop where
  out : ∃ fn, C.P.funcs[f]? = some fn ∧ fn.body = some x.body ∧ (fn.name == "runtime.NumGoroutine") = false ∧ fn.ntmps = x.nt ∧ fn.results.toList = x.res ∧ drawsChk x.body = true
def FnsOk (C : Kit) : FnT → Prop
  | [] => True
  | (f, x) :: r => FnOk C f x ∧ FnsOk C r
theorem findI_ok {C : Kit} : ∀ {I : FnT} {f : Nat} {x : FnI}, FnsOk C I → findI I f = some x → FnOk C f x
  | [], f, x, _, h => by simp [findI] at h
  | (g, y) :: r, f, x, hI, h => by
    unfold findI at h
    split at h
    · rename_i e; subst e; cases h; exact hI.1
    · exact findI_ok hI.2 h

/-- Calls: those in the table are gone into (so deep), the others asked for. -/
def callH (C : Kit) (T : Tree) (M : MT) (I : FnT) : Nat → Handler
  | 0 => OkCall C
  | n + 1 => fun f args hp K => match findI I f with
    | none => OkCall C f args hp K
    | some x => if Nat.ble args.length x.nt = true then codeS C (callH C T M I n) x.opt T M x.nt hp.length x.body true ⟨argFr args 0, hp⟩ (endS T x.res K) else False
theorem callH_ok {C : Kit} {I : FnT} (hI : FnsOk C I) : ∀ n, HOk C (callH C C.T C.M I n)
  | 0 => fun f args hp K h => h
  | n + 1 => by
    intro f args hp K h
    unfold callH at h
    split at h
    · exact h
    · rename_i x hx
      obtain ⟨fn, h1, h2, h3, h4, h5, h6⟩ := (findI_ok hI hx).out
      split at h
      · rename_i hlen
        refine OkCall.of_code h1 h2 h3 (by rw [h4]; exact hlen) ?_
        rw [h4, h5]
        exact Ok.of_codeS (callH_ok hI n) x.opt h6 h
      · exact h.elim

/-- A call that is gone into. -/
theorem OkCall.into {C : Kit} {I : FnT} (hI : FnsOk C I) (n : Nat) {f : Nat} {args : List SV} {hp : List Blk} {K : Bool → SV → List Blk → Prop} (h : callH C C.T C.M I n f args hp K) : OkCall C f args hp K := callH_ok hI n f args hp K h
end
end Go.Vex
namespace Go.Vex
set_option linter.unusedVariables false
noncomputable section
def fi (fn : Func) (O : Opt) : FnI := ⟨fn.ntmps, fn.results.toList, fn.body.getD .skip, O⟩
theorem fi_ok {C : Kit} {f : Nat} {fn : Func} (O : Opt) (h : C.P.funcs[f]? = some fn) (hb : fn.body.isSome = true) (hn : (fn.name == "runtime.NumGoroutine") = false)
    (hch : drawsChk (fn.body.getD .skip) = true) : FnOk C f (fi fn O) := by
  obtain ⟨b, hb'⟩ := Option.isSome_iff_exists.1 hb
  exact ⟨fn, h, by show fn.body = some (fn.body.getD .skip); rw [hb']; rfl, hn, rfl, rfl, hch⟩
end
end Go.Vex
