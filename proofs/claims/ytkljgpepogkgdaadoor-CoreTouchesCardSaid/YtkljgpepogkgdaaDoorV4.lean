/-
  VEX, part 4: types; single operations: what they do to symbolic values, and that the model does so.
-/
import Derived.Test.YtkljgpepogkgdaaDoorVE
import Derived.Test.YtkljgpepogkgdaaDoorVQ
set_option linter.unusedSimpArgs false
namespace Go.Vex
set_option linter.unusedVariables false
noncomputable section

inductive TK where
  | int (k : IntKind)
  | bool
  | str
  | ptr (e : Nat)
  | slice (e : Nat)
  | array (n e : Nat)
  | struct (fs : List (Nat × Nat))
  | map (k e : Nat)
  | iface
  | func
  | other
structure TI where
  kind : TK
  size : Nat
  bytes : Nat
  zero : List SV
  flat : List FK
inductive Tree where
  | leaf
  | node (k : Nat) (v : TI) (l r : Tree)
def Tree.find : Tree → Nat → Option TI
  | .leaf, _ => none
  | .node k v l r, t => if t = k then some v else if t < k then l.find t else r.find t

def isAggK : TK → Bool
  | .array .. | .struct _ => true
  | _ => false

def kindOk : TK → TypeDesc → Prop
  | .int k, d => d = .int k
  | .bool, d => d = .bool
  | .str, d => d = .string
  | .ptr e, d => d = .pointer e
  | .slice e, d => d = .slice e
  | .array n e, d => d = .array n e
  | .struct fs, d => ∃ arr, d = .struct arr ∧ arr.size = fs.length ∧ ∀ (j off t : Nat), fs[j]? = some (off, t) → ∃ f, arr[j]? = some f ∧ f.offset = off ∧ f.type = t
  | .map k e, d => d = .map k e
  | .iface, d => ∃ ms, d = .interface ms
  | .func, d => ∃ a b c, d = .func a b c
  | .other, d => (∀ fs, d ≠ .struct fs) ∧ ∀ n e, d ≠ .array n e

def TIok (P : Program) (t : Nat) (ti : TI) : Prop :=
  ∃ i d z, P.info? t = some i ∧ P.underlying t = some d ∧ i.size = ti.size ∧ i.bytes = ti.bytes ∧ i.zero = some z ∧ DenL [] ti.zero z.cells.toList ∧ kindOk ti.kind d ∧ (ti.flat ≠ [] → flatP P 9 t = some ti.flat ∧ P.eqGuardType P.depth t = false)
def TOk (P : Program) (T : Tree) : Prop := ∀ t ti, T.find t = some ti → TIok P t ti

def Tree.All (P : Program) : Tree → Prop
  | .leaf => True
  | .node k v l r => TIok P k v ∧ l.All P ∧ r.All P
theorem Tree.All.ok {P : Program} : ∀ {T : Tree}, T.All P → TOk P T
  | .leaf, _, t, ti, h => by simp [Tree.find] at h
  | .node k v l r, ⟨h1, h2, h3⟩, t, ti, h => by
    unfold Tree.find at h
    split at h
    · rename_i e; subst e; cases h; exact h1
    · split at h
      · exact Tree.All.ok h2 t ti h
      · exact Tree.All.ok h3 t ti h

section
variable {P : Program} {t : Nat} {ti : TI}
theorem TIok.size (h : TIok P t ti) (w : World) : (sizeOf t).run P w = .ok ti.size w := by
  obtain ⟨i, d, z, h1, h2, h3, h4, h5, h6, h7, _⟩ := h
  simp [sizeOf, run_typeInfo' h1, h3]
theorem TIok.zeroV (h : TIok P t ti) : ∃ z, (∀ w, (zeroValue t).run P w = .ok z w) ∧ DenL [] ti.zero z.cells.toList := by
  obtain ⟨i, d, z, h1, h2, h3, h4, h5, h6, h7, _⟩ := h
  exact ⟨z, fun w => by simp [zeroValue, run_typeInfo' h1, h5], h6⟩
theorem TIok.under (h : TIok P t ti) : ∃ d, (∀ w, (underlying t).run P w = .ok d w) ∧ kindOk ti.kind d := by
  obtain ⟨i, d, z, h1, h2, h3, h4, h5, h6, h7, _⟩ := h
  exact ⟨d, fun w => run_underlying' h2 w, h7⟩
theorem TIok.isAgg (h : TIok P t ti) (w : World) : (isAgg t).run P w = .ok (isAggK ti.kind) w := by
  obtain ⟨d, h1, h2⟩ := h.under
  unfold Go.isAgg
  rw [Sem.run_bind, h1 w, Result.andThen_ok]
  cases hk : ti.kind <;> simp only [hk, kindOk] at h2
  case struct fs => obtain ⟨arr, rfl, _⟩ := h2; rfl
  case iface => obtain ⟨ms, rfl⟩ := h2; rfl
  case func => obtain ⟨_, _, _, rfl⟩ := h2; rfl
  case other => obtain ⟨g1, g2⟩ := h2; cases d <;> first | rfl | exact absurd rfl (g1 _) | exact absurd rfl (g2 _ _)
  all_goals subst h2; rfl
end

theorem DenL.weak {ρ : Rho} {l : List SV} {cs : List Value} (h : DenL [] l cs) : DenL ρ l cs := h.mono fun x r h => by simp at h

/-! ### What an operation does: a value, new resources, the world kept -/
/-- What it touches, told beforehand. -/
inductive SEff where
  | pure
  | rd (y : Nat) (o : Off) (n : Nat)
  | wr (y : Nat) (o : Off) (n : Nat)
  | new
  | qc
  | other
def BOk (ρ : Rho) (N : Nat) : SEff → Beh → Prop
  | .pure, B => ∃ c, B = Beh.pure c
  | .rd y o n, B => ∃ b o0 cs u, ρ[y]? = some (some (b, o0)) ∧ cs.length = n ∧ B = rdB b (o0 + o.val) cs u
  | .wr y o n, B => ∃ b vs T, ρ[y]? = some (some (b, 0)) ∧ vs.length = n ∧ B = wrB b o.val vs T
  | .new, B => ∃ o mk, B = newB N o mk
  | .qc, B => ∃ w u, B = qcB w u
  | .other, _ => True
def Runs (P : Program) (s : Sem Next) (ρ : Rho) (w : World) (q : Bool) (e : SEff) (K : SV → List Blk → Prop) : Prop :=
  ∃ B, (∀ x, B.ok x → (∃ v x', B.rel x v x' ∧ s.run P x = .ok (.value v) x') ∨ (∃ x', B.rel x undef x' ∧ s.run P x = .ok .skip x')) ∧ B.Inv ∧ B.ok w ∧ BOk ρ w.heap.size e B ∧
    ∀ c w', B.rel w c w' → ∃ ρ' v hp', Ext ρ ρ' ∧ Den ρ' v c ∧ HSat ρ' hp' w' ∧ Kept w w' ∧ (q = true → w' = w) ∧ K v hp'

theorem Runs.det {P : Program} {s : Sem Next} {ρ : Rho} {w : World} {q : Bool} {e : SEff} {K : SV → List Blk → Prop} {ok : World → Prop} {g : World → World} {val : World → Value} {ρ' : Rho} {v : SV} {hp' : List Blk}
    (h1 : ∀ x, ok x → s.run P x = .ok (.value (val x)) (g x) ∨ (s.run P x = .ok .skip (g x) ∧ val x = undef)) (h2 : (Beh.det ok g val).Inv) (h3 : ok w) (h4 : BOk ρ w.heap.size e (Beh.det ok g val))
    (h5 : Ext ρ ρ') (h6 : Den ρ' v (val w)) (h7 : HSat ρ' hp' (g w)) (h8 : Kept w (g w)) (h9 : q = true → g w = w) (hK : K v hp') : Runs P s ρ w q e K := by
  refine ⟨Beh.det ok g val, fun x hx => ?_, h2, h3, h4, ?_⟩
  · rcases h1 x hx with h | ⟨h, hv⟩
    · exact .inl ⟨_, _, ⟨rfl, rfl⟩, h⟩
    · exact .inr ⟨_, ⟨hv.symm, rfl⟩, h⟩
  · rintro c w' ⟨rfl, rfl⟩
    exact ⟨ρ', v, hp', h5, h6, h7, h8, h9, hK⟩

theorem Runs.pure {P : Program} {s : Sem Next} {ρ : Rho} {w : World} {q : Bool} {K : SV → List Blk → Prop} {hp : List Blk} {v : SV} {c : Value}
    (h : HSat ρ hp w) (hr : ∀ x, s.run P x = .ok (.value c) x) (hv : Den ρ v c) (hK : K v hp) : Runs P s ρ w q .pure K :=
  Runs.det (ok := fun _ => True) (g := id) (val := fun _ => c) (fun x _ => .inl (hr x)) (Beh.pure_inv c) trivial ⟨c, rfl⟩ (Ext.refl _) hv h (Kept.refl _) (fun _ => rfl) hK

/-! ### Loads -/
def loadS (T : Tree) (t : Nat) (hp : List Blk) (y : Nat) (o : Off) (K : SV → Prop) : Prop :=
  match T.find t with
  | none => False
  | some ti => match hp[y]? with
    | none => False
    | some k => match blkCells k with
      | none => False
      | some l => if isAggK ti.kind = true then cutOff l o ti.size (fun l' => K (.agg l')) else getOff l o K

theorem run_loadCells_of {P : Program} {w : World} {b o : Nat} {cs : List Value} (h : ∀ (j : Nat) (c : Value), cs[j]? = some c → w.cell? ⟨b, o + j, none⟩ = some c) :
    (loadCells ⟨b, o, none⟩ cs.length).run P w = .ok cs.toArray w :=
  run_loadCells_list w ⟨b, o, none⟩ cs fun j v hv => by rw [addr_add]; exact h j v hv

def loadN (T : Tree) (t : Nat) : Nat :=
  match T.find t with
  | some ti => if isAggK ti.kind = true then ti.size else 1
  | none => 0
theorem loadS_all {P : Program} {T : Tree} (hT : TOk P T) {t : Nat} {ρ : Rho} {hp : List Blk} {w : World} (h : HSat ρ hp w) {y : Nat} {o : Off} {K : SV → Prop} {c : Value}
    (hp' : Den ρ (.p y o) c) (hK : loadS T t hp y o K) : ∃ b o0 cs v u, ρ[y]? = some (some (b, o0)) ∧ cs.length = loadN T t ∧ (rdB b (o0 + o.val) cs u).ok w ∧
      (∀ x, (rdB b (o0 + o.val) cs u).ok x → (Instr.loadAt t c).run P x = .ok u x) ∧ Den ρ v u ∧ K v := by
  unfold loadS at hK
  split at hK
  · exact hK.elim
  · rename_i ti hti
    have ok := hT t ti hti
    split at hK
    · exact hK.elim
    · rename_i k hk
      split at hK
      · exact hK.elim
      · rename_i l hl
        cases hp' with
        | p b o0 hx hc =>
          subst hc
          split at hK
          · rename_i ha
            obtain ⟨l', cs, e1, e2, e3, e4⟩ := h.loadN hx hk hl hK
            refine ⟨b, o0, cs, .agg l', .agg cs.toArray, hx, by simp [Vex.loadN, hti, ha, e1], e2, ?_, .agg cs rfl e3, e4⟩
            intro x hx
            unfold Instr.loadAt Instr.sureAddr loadVar
            simp only [Sem.run_bind, Sem.run_pure, Result.andThen_ok, ok.isAgg x, ha]
            simp only [if_true, Sem.run_bind, ok.size x, Result.andThen_ok]
            rw [← e1, run_loadCells_of hx]
            rfl
          · rename_i ha
            obtain ⟨v, u, e1, e2, e3, e4⟩ := h.load1 hx hk hl hK
            refine ⟨b, o0, [u], v, u, hx, by simp [Vex.loadN, hti, ha], ?_, ?_, e3, e4⟩
            · intro j c hc
              cases j with
              | zero => simp at hc; subst hc; exact e1
              | succ j => simp at hc
            · intro x hx
              have e1 := hx 0 u rfl
              unfold Instr.loadAt Instr.sureAddr loadVar
              simp only [Sem.run_bind, Sem.run_pure, Result.andThen_ok, ok.isAgg x]
              simp only [Nat.add_zero] at e1
              simp only [ha, Bool.false_eq_true, if_false, run_load, e1]
theorem loadS_sound {P : Program} {T : Tree} (hT : TOk P T) {t : Nat} {ρ : Rho} {hp : List Blk} {w : World} (h : HSat ρ hp w) {y : Nat} {o : Off} {K : SV → Prop} {c : Value}
    (hp' : Den ρ (.p y o) c) (hK : loadS T t hp y o K) : ∃ v u, (Instr.loadAt t c).run P w = .ok u w ∧ Den ρ v u ∧ K v := by
  obtain ⟨b, o0, cs, v, u, _, _, h1, h2, h3, h4⟩ := loadS_all hT h hp' hK
  exact ⟨v, u, h2 w h1, h3, h4⟩

/-! ### Sizes of values; new blocks; stores -/
def sizeL : List SV → Option Nat
  | [] => some 0
  | v :: r => match sizeS v with
    | some a => match sizeL r with
      | some b => some (a + b)
      | none => none
    | none => none
theorem sizeL_len {ρ : Rho} : ∀ {l : List SV} {cs : List Value} {n : Nat}, DenL ρ l cs → sizeL l = some n → cs.length = n
  | [], cs, n, h, hn => by rw [h.of_nil]; simpa [sizeL] using hn
  | v :: r, cs, n, h, hn => by
    obtain ⟨c1, c2, rfl, h1, h2⟩ := h.of_cons
    unfold sizeL at hn
    split at hn
    · rename_i a ha
      split at hn
      · rename_i b hb
        cases hn
        rw [List.length_append, sizeS_len h1 ha, sizeL_len h2 hb]
      · cases hn
    · cases hn

/-- The cells of a value. -/
def cellsV : SV → Option (List SV)
  | .agg l => some l
  | .tup _ | .raw _ | .ints .. | .rows .. | .junk .. => none
  | v => some [v]

theorem cellsV_sound {ρ : Rho} {v : SV} {l : List SV} {c : Value} (h : cellsV v = some l) (hv : Den ρ v c) : DenL ρ l c.cells.toList := by
  have one : ∀ (hs : oneC c = true), l = [v] → DenL ρ l c.cells.toList := by
    intro hs e
    subst e
    rw [den_cells_one hv hs]
    exact .cons [c] [] (by simp) (.one c rfl hs hv) (.nil rfl)
  cases v <;> simp only [cellsV, Option.some.injEq, reduceCtorEq] at h
  case agg l' =>
    subst h
    cases hv with | agg vs hc hl => subst hc; simpa [Value.cells] using hl
  case i => exact one (by cases hv with | i h => subst h; rfl) h.symm
  case b => exact one (by cases hv with | b h => subst h; rfl) h.symm
  case str => exact one (by cases hv with | str h => subst h; rfl) h.symm
  case p => exact one (by cases hv with | p _ _ _ h => subst h; rfl) h.symm
  case nilp => exact one (by cases hv with | nilp h => subst h; rfl) h.symm
  case slc => exact one (by cases hv with | slc _ _ _ h => subst h; rfl) h.symm
  case nilslc => exact one (by cases hv with | nilslc h => subst h; rfl) h.symm
  case fn => exact one (by cases hv with | fn _ _ h _ _ => subst h; rfl) h.symm
  case nilfn => exact one (by cases hv with | nilfn h => subst h; rfl) h.symm
  case ifc => exact one (by cases hv with | ifc _ h _ => subst h; rfl) h.symm
  case nilifc => exact one (by cases hv with | nilifc h => subst h; rfl) h.symm
  case map => exact one (by cases hv with | map _ _ h => subst h; rfl) h.symm
  case nilmap => exact one (by cases hv with | nilmap h => subst h; rfl) h.symm

theorem HSat.newCells {ρ : Rho} {hp : List Blk} {w : World} (h : HSat ρ hp w) {l : List SV} {cs : List Value} (T : TypeId) (hd : DenL ρ l cs) :
    HSat (ρ ++ [some (w.heap.size, 0)]) (hp ++ [.cells T l]) (w.alloc (.cells cs.toArray T)) :=
  h.new (o := .cells cs.toArray T) rfl ⟨cs, hd.mono (Ext.push _ _), .inr ⟨w.heap.size, rfl, rfl, by show (w.heap.push _)[w.heap.size]? = _; simp⟩⟩

theorem HSat.len {ρ : Rho} {hp : List Blk} {w : World} (h : HSat ρ hp w) : hp.length = ρ.length := let ⟨_, h⟩ := h; h.lenh

/-- The pointer to a new resource. -/
theorem den_new {ρ : Rho} {hp : List Blk} {w : World} (h : HSat ρ hp w) : Den (ρ ++ [some (w.heap.size, 0)]) (.p hp.length (.at 0)) (.pointer (some ⟨w.heap.size, 0, none⟩)) :=
  .p w.heap.size 0 (by rw [h.len]; simp) rfl

theorem Runs.new {P : Program} {s : Sem Next} {ρ : Rho} {w : World} {K : SV → List Blk → Prop} {hp : List Blk} {l : List SV} {cs : List Value} {T : TypeId}
    (h : HSat ρ hp w) (hd : DenL ρ l cs) (hr : ∀ x, s.run P x = .ok (.value (.pointer (some ⟨x.heap.size, 0, none⟩))) (x.alloc (.cells cs.toArray T)))
    (hK : K (.p hp.length (.at 0)) (hp ++ [.cells T l])) : Runs P s ρ w false .new K :=
  Runs.det (fun x _ => .inl (hr x)) (newB_inv w.heap.size (.cells cs.toArray T) (fun n => .pointer (some ⟨n, 0, none⟩))) (Nat.le_refl _) ⟨.cells cs.toArray T, fun n => .pointer (some ⟨n, 0, none⟩), rfl⟩ (Ext.push _ _) (den_new h) (h.newCells T hd) (Kept.alloc _ _) (by simp) hK

def allocS (T : Tree) (t : Nat) (hp : List Blk) (K : SV → List Blk → Prop) : Prop :=
  match T.find t with
  | none => False
  | some ti => K (.p hp.length (.at 0)) (hp ++ [.cells t ti.zero])

/-- 'execOp' of an operation that yields a value. -/
def valS (s : Sem Value) : Sem Next := do pure (.value (← s))
theorem run_valS {P : Program} {s : Sem Value} {w w' : World} {v : Value} (h : s.run P w = .ok v w') : (valS s).run P w = .ok (.value v) w' := by
  simp [valS, h]
def unitS (s : Sem Unit) : Sem Next := do s; pure .skip
theorem run_unitS {P : Program} {s : Sem Unit} {w w' : World} (h : s.run P w = .ok () w') : (unitS s).run P w = .ok .skip w' := by
  simp [unitS, h]

theorem allocS_sound {P : Program} {T : Tree} (hT : TOk P T) {t : Nat} {ρ : Rho} {hp : List Blk} {w : World} (h : HSat ρ hp w) {K : SV → List Blk → Prop}
    (hK : allocS T t hp K) : Runs P (valS (Instr.alloc t true (.tuple #[]))) ρ w false .new K := by
  unfold allocS at hK
  split at hK
  · exact hK.elim
  · rename_i ti hti
    obtain ⟨z, h1, h2⟩ := (hT t ti hti).zeroV
    refine Runs.new h h2.weak (fun x => run_valS ?_) hK
    simp [Instr.alloc, h1 x, newVar, newRow]

def boxS (t : Nat) (v : SV) (hp : List Blk) (K : SV → List Blk → Prop) : Prop :=
  match cellsV v with
  | none => False
  | some l => K (.p hp.length (.at 0)) (hp ++ [.cells t l])
theorem boxS_sound {P : Program} {t : Nat} {ρ : Rho} {hp : List Blk} {w : World} (h : HSat ρ hp w) {v : SV} {c : Value} (hv : Den ρ v c) {K : SV → List Blk → Prop}
    (hK : boxS t v hp K) : Runs P (valS (Instr.box t c)) ρ w false .new K := by
  unfold boxS at hK
  split at hK
  · exact hK.elim
  · rename_i l hl
    refine Runs.new h (cellsV_sound hl hv) (fun x => run_valS ?_) hK
    simp [Instr.box, newVar, newRow]

def storeS (T : Tree) (t : Nat) (hp : List Blk) (y : Nat) (o : Off) (v : SV) (K : List Blk → Prop) : Prop :=
  match T.find t with
  | none => False
  | some ti => match cellsV v with
    | none => False
    | some l => if sizeL l = some ti.size then (match hp[y]? with
        | some (.cells T' l') => storeL l' o ti.size v fun l'' => K (hp.set y (.cells T' l''))
        | _ => False) else False
def storeN (T : Tree) (t : Nat) : Nat :=
  match T.find t with
  | some ti => ti.size
  | none => 0
theorem storeS_sound {P : Program} {T : Tree} (hT : TOk P T) {t : Nat} {ρ : Rho} {hp : List Blk} {w : World} (h : HSat ρ hp w) {y : Nat} {o : Off} {v : SV} {c d : Value} {K : SV → List Blk → Prop}
    (hp' : Den ρ (.p y o) c) (hv : Den ρ v d) (hK : storeS T t hp y o v (K (.raw undef))) : Runs P (unitS (Instr.storeAt t c d)) ρ w false (.wr y o (storeN T t)) K := by
  unfold storeS at hK
  split at hK
  · exact hK.elim
  · rename_i ti hti
    have ok := hT t ti hti
    split at hK
    · exact hK.elim
    · rename_i l hl
      split at hK
      · rename_i hsz
        have hlen := sizeL_len (cellsV_sound hl hv) hsz
        split at hK
        · rename_i T' l' hk
          cases hp' with
          | p b o0 hx hc =>
            subst hc
            have hlen' : d.cells.size = ti.size := by simpa using hlen
            obtain ⟨l2, cs, rfl, e1, e2, e3, e4, e5⟩ := h.storeL hx hk hv hlen' hK
            refine Runs.det (v := .raw undef) ?_ (wrB_inv b o.val d.cells.toList T') ⟨cs, e1, e2⟩ ⟨b, _, T', hx, by simp [storeN, hti, hlen'], rfl⟩ (Ext.refl _) (.raw rfl) e4 ?_ (by simp) e5
            · rintro x ⟨cs', f1, f2⟩
              refine .inr ⟨run_unitS ?_, rfl⟩
              unfold Instr.storeAt Instr.sureAddr storeVar
              simp only [Sem.run_bind, Sem.run_pure, Result.andThen_ok, ok.size x, hlen', ne_eq, not_true_eq_false, if_false, Nat.zero_add]
              exact run_stored f1 f2 e3
            · show Kept w (stored b o.val d.cells.toList w)
              unfold stored; rw [e1]; exact Kept.putB _ _ _
        · exact hK.elim
      · exact hK.elim

/-! ### Addresses -/
def fieldAddrS (T : Tree) (s : Nat) (v : SV) (f : Nat) (K : SV → Prop) : Prop :=
  match v with
  | .p y o => match T.find s with
    | some ti => match ti.kind with
      | .struct fs => match fs[f]? with
        | some (off, t) => match T.find t with
          | some tj => if tj.size = 0 then False else K (.p y (o.add off))
          | none => False
        | none => False
      | _ => False
    | none => False
  | _ => False
theorem fieldAddrS_sound {P : Program} {T : Tree} (hT : TOk P T) {s f : Nat} {ρ : Rho} {v : SV} {c : Value} {K : SV → Prop}
    (hv : Den ρ v c) (hK : fieldAddrS T s v f K) : ∃ v' u, (∀ w, (Instr.fieldAt s c f).run P w = .ok u w) ∧ Den ρ v' u ∧ K v' := by
  unfold fieldAddrS at hK
  split at hK
  · rename_i y o
    split at hK
    · rename_i ti hti
      obtain ⟨d, h1, h2⟩ := (hT s ti hti).under
      split at hK
      · rename_i fs hfs
        rw [hfs] at h2
        obtain ⟨arr, rfl, _, h3⟩ := h2
        split at hK
        · rename_i off t hf
          obtain ⟨fl, g1, g2, g3⟩ := h3 f off t hf
          split at hK
          · rename_i tj htj
            split at hK
            · exact hK.elim
            · rename_i hne
              cases hv with
              | p b o0 hx hc =>
                subst hc
                refine ⟨.p y (o.add off), .pointer (some ⟨b, o0 + (o.add off).val, none⟩), ?_, .p b o0 hx rfl, hK⟩
                intro w
                unfold Instr.fieldAt
                simp only [Sem.run_bind, h1 w, Result.andThen_ok, g1, Instr.sureAddr, Sem.run_pure]
                unfold fieldPlace
                simp only [Sem.run_bind, g3, (hT t tj htj).size w, Result.andThen_ok, hne, if_false, Sem.run_pure, g2, addr_add, Off.val_add, Nat.add_assoc]
          · exact hK.elim
        · exact hK.elim
      · exact hK.elim
    · exact hK.elim
  · exact hK.elim


/-- An index: its number, within its bound. -/
def idxS (n : S Int) (len : S Nat) (K : S Nat → Prop) : Prop :=
  match n with
  | .lit i => match len with
    | .lit m => if 0 ≤ i then (if i < m then K (.lit i.toNat) else False) else False
    | .ex m => inR i m ∧ K (.lit i.toNat)
  | .ex i => inR i len.val ∧ K (.ex (toN i))
theorem idxS_sound {n : S Int} {len : S Nat} {K : S Nat → Prop} (h : idxS n len K) : 0 ≤ n.val ∧ n.val < len.val ∧ ∃ j : S Nat, j.val = n.val.toNat ∧ K j := by
  unfold idxS at h
  split at h
  · split at h
    · split at h
      · split at h
        · exact ⟨‹_›, ‹_›, _, rfl, h⟩
        · exact h.elim
      · exact h.elim
    · obtain ⟨h1, h2⟩ := h; rw [inR_eq] at h1; exact ⟨h1.1, h1.2, _, rfl, h2⟩
  · obtain ⟨h1, h2⟩ := h; rw [inR_eq] at h1; exact ⟨h1.1, h1.2, _, by rw [toN_eq]; rfl, h2⟩

/-- The place of the element j behind a place. -/
def elemOff (o : Off) (j : S Nat) (w : Nat) (K : Off → Prop) : Prop :=
  match j with
  | .lit j => K (o.add (j * w))
  | .ex j => match o with
    | .at l => K (.row l j w 0)
    | .row .. => False
theorem elemOff_sound {o : Off} {j : S Nat} {w : Nat} {K : Off → Prop} (h : elemOff o j w K) : ∃ o', o'.val = o.val + j.val * w ∧ K o' := by
  unfold elemOff at h
  split at h
  · exact ⟨_, Off.val_add _ _, h⟩
  · split at h
    · exact ⟨_, by simp [Off.val], h⟩
    · exact h.elim

def sAddN (a b : S Nat) : S Nat :=
  match a with
  | .lit 0 => b
  | .lit a => match b with
    | .lit b => .lit (a + b)
    | .ex b => .ex (addN a b)
  | .ex a => .ex (addN a b.val)
theorem sAddN_val (a b : S Nat) : (sAddN a b).val = a.val + b.val := by
  unfold sAddN; split
  · simp
  · split <;> simp [addN_eq]
  · simp [addN_eq]

def indexAddrS (T : Tree) (t : Nat) (v ix : SV) (K : SV → Prop) : Prop :=
  match T.find t with
  | none => False
  | some ti => match ix with
    | .i _ n => match ti.kind with
      | .array len e => match T.find e with
        | none => False
        | some te => match v with
          | .p y o => idxS n (.lit len) fun j => elemOff o j te.size fun o' => K (.p y o')
          | _ => False
      | .slice e => match T.find e with
        | none => False
        | some te => match v with
          | .slc y l w o len cap => if w = te.size then idxS n len fun j => elemOff (.at l) (sAddN o j) w fun o' => K (.p y o') else False
          | _ => False
      | _ => False
    | _ => False

theorem indexAddrS_sound {P : Program} {T : Tree} (hT : TOk P T) {t : Nat} {ρ : Rho} {v ix : SV} {c d : Value} {K : SV → Prop}
    (hv : Den ρ v c) (hi : Den ρ ix d) (hK : indexAddrS T t v ix K) : ∃ v' u, (∀ w, (Instr.indexAt t c d).run P w = .ok u w) ∧ Den ρ v' u ∧ K v' := by
  unfold indexAddrS at hK
  split at hK
  · exact hK.elim
  · rename_i ti hti
    obtain ⟨dd, h1, h2⟩ := (hT t ti hti).under
    split at hK
    · rename_i k n
      cases hi with
      | i hi =>
      subst hi
      split at hK
      · rename_i len e hk
        rw [hk] at h2
        simp only [kindOk] at h2
        subst h2
        split at hK
        · exact hK.elim
        · rename_i te hte
          split at hK
          · rename_i y o
            obtain ⟨g1, g2, j, g3, g4⟩ := idxS_sound hK
            obtain ⟨o', g5, g6⟩ := elemOff_sound g4
            cases hv with
            | p b o0 hx hc =>
              subst hc
              refine ⟨.p y o', .pointer (some ⟨b, o0 + o'.val, none⟩), ?_, .p b o0 hx rfl, g6⟩
              intro w
              unfold Instr.indexAt
              simp only [S.val_lit] at g2
              simp only [asIntOf, Sem.run_bind, Sem.run_pure, Result.andThen_ok, h1 w, Instr.sureAddr, g1, g2, and_self, if_true, (hT e te hte).size w, addr_add]
              simp only [g5, g3, Nat.add_assoc]
          · exact hK.elim
      · rename_i e hk
        rw [hk] at h2
        simp only [kindOk] at h2
        subst h2
        split at hK
        · exact hK.elim
        · rename_i te hte
          split at hK
          · rename_i y l ws o len cap
            split at hK
            · rename_i hw
              obtain ⟨g1, g2, j, g3, g4⟩ := idxS_sound hK
              obtain ⟨o', g5, g6⟩ := elemOff_sound g4
              cases hv with
              | slc r hx hn hc =>
                subst hc
                cases r with
                | none => have := hn rfl; omega
                | some r' =>
                obtain ⟨b, o0⟩ := r'
                refine ⟨.p y o', .pointer (some ⟨b, o0 + o'.val, none⟩), ?_, .p b o0 hx rfl, g6⟩
                intro w
                unfold Instr.indexAt
                simp only [asIntOf, Sem.run_bind, Sem.run_pure, Result.andThen_ok, h1 w, Option.map_some, g1, g2, and_self, if_true, (hT e te hte).size w, addr_add]
                rw [g5, sAddN_val, g3, hw]
                simp only [Off.val, Nat.add_mul, Nat.add_assoc]
            · exact hK.elim
          · exact hK.elim
      · exact hK.elim
    · exact hK.elim
end
end Go.Vex
