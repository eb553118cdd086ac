/-
  VEX, part 6: the remaining operations that stay inside one step.
-/
import Derived.Test.YtkljgpepogkgdaaDoorV5
set_option linter.unusedSimpArgs false
namespace Go.Vex
set_option linter.unusedVariables false
noncomputable section

/-- Yields a value, the same in every world, and leaves the world. -/
def Gives (P : Program) (s : Sem Value) (ρ : Rho) (K : SV → Prop) : Prop := ∃ v c, (∀ w, s.run P w = .ok c w) ∧ Den ρ v c ∧ K v


def unS (op : UnOp) (x : SV) (K : SV → Prop) : Prop :=
  match op with
  | .not => match x with
    | .b a => K (.b (sNot a))
    | _ => False
  | .neg => match x with
    | .i k a => K (.i k (sBin (fun a b => k.wrap (a - b)) (subI k) (.lit 0) a))
    | _ => False
  | .xor => match x with
    | .i k a => K (.i k (sUn (fun a => k.wrap (BitVec.ofInt k.bits (if k.signed then -1 else k.max) ^^^ BitVec.ofInt k.bits a).toNat) (cplI k) a))
    | _ => False
  | _ => False
theorem unS_sound {P : Program} {op : UnOp} {x : SV} {K : SV → Prop} {ρ : Rho} {u : Value} (hx : Den ρ x u) (h : unS op x K) : Gives P (Op.unary op u) ρ K := by
  unfold unS at h
  split at h
  · split at h
    · cases hx with | b hx => subst hx; exact ⟨_, _, fun w => by simp [Op.unary]; rfl, .b (by rw [sNot_val]), h⟩
    · exact h.elim
  · split at h
    · cases hx with | i hx => subst hx; exact ⟨_, _, fun w => by simp [Op.unary, Op.intArith]; rfl, .i (by rw [sBin_val (fun a b => by rw [subI_eq])]; simp), h⟩
    · exact h.elim
  · split at h
    · cases hx with | i hx => subst hx; exact ⟨_, _, fun w => by simp [Op.unary, Op.intBits]; rfl, .i (by rw [sUn_val (fun a => by rw [cplI_eq])]; simp), h⟩
    · exact h.elim
  · exact h.elim

def convS (T : Tree) (src dst : Nat) (x : SV) (K : SV → Prop) : Prop :=
  match T.find src with
  | none => False
  | some ts => match T.find dst with
    | none => False
    | some td => match td.kind with
      | .int k => match x with
        | .i _ a => match ts.kind with
          | .int _ => K (.i k (sUn (fun a => k.wrap a) (convI k) a))
          | _ => False
        | _ => False
      | .str => match x with
        | .str s => match ts.kind with
          | .str => K (.str s)
          | _ => False
        | _ => False
      | _ => False
theorem convS_sound {P : Program} {T : Tree} (hT : TOk P T) {src dst : Nat} {x : SV} {K : SV → Prop} {ρ : Rho} {u : Value} (hx : Den ρ x u) (h : convS T src dst x K) :
    Gives P (convert src dst u) ρ K := by
  unfold convS at h
  split at h
  · exact h.elim
  · rename_i ts hts
    obtain ⟨d1, g1, g2⟩ := (hT src ts hts).under
    split at h
    · exact h.elim
    · rename_i td htd
      obtain ⟨d2, g3, g4⟩ := (hT dst td htd).under
      split at h
      · rename_i k hk
        rw [hk] at g4
        split at h
        · split at h
          · rename_i k' hk'
            rw [hk'] at g2
            simp only [kindOk] at g2 g4
            subst g2; subst g4
            cases hx with
            | i hx =>
              subst hx
              exact ⟨_, _, fun w => by simp [convert, g1 w, g3 w, Conv.intToInt]; rfl, .i (by rw [sUn_val (fun a => by rw [convI_eq])]), h⟩
          · exact h.elim
        · exact h.elim
      · rename_i hk
        rw [hk] at g4
        split at h
        · rename_i s
          split at h
          · rename_i hk'
            rw [hk'] at g2
            simp only [kindOk] at g2 g4
            subst g2; subst g4
            cases hx with
            | str hx => subst hx; exact ⟨_, .string s, fun w => by simp [convert, g1 w, g3 w], .str rfl, h⟩
          · exact h.elim
        · exact h.elim
      · exact h.elim

/-- A part of a struct's or an array's value. -/
def partS (T : Tree) (t : Nat) (l : List SV) (off : Nat) (K : SV → Prop) : Prop :=
  match T.find t with
  | none => False
  | some ti => if isAggK ti.kind = true then (match cut l off ti.size with | some l' => K (.agg l') | none => False) else getAt l off K
theorem partS_sound {P : Program} {T : Tree} (hT : TOk P T) {t : Nat} {l : List SV} {off : Nat} {K : SV → Prop} {ρ : Rho} {cs : List Value} (hd : DenL ρ l cs)
    (h : partS T t l off K) : Gives P (part t cs.toArray off) ρ K := by
  unfold partS at h
  split at h
  · exact h.elim
  · rename_i ti hti
    have ok := hT t ti hti
    split at h
    · rename_i ha
      split at h
      · rename_i l' hl'
        obtain ⟨g1, g2⟩ := cut_sound hd hl'
        refine ⟨.agg l', .agg ((cs.drop off).take ti.size).toArray, ?_, .agg _ rfl g1, h⟩
        intro w
        unfold part
        simp only [Sem.run_bind, ok.isAgg w, Result.andThen_ok, ha, if_true, ok.size w, Sem.run_pure]
        simp [List.extract_toArray]
      · exact h.elim
    · rename_i ha
      obtain ⟨v, c, e1, e2, e3, e4⟩ := getAt_sound l off K cs hd h
      refine ⟨v, c, ?_, e3, e4⟩
      intro w
      unfold part
      simp only [Sem.run_bind, ok.isAgg w, Result.andThen_ok, ha, Bool.false_eq_true, if_false, List.getElem?_toArray, e1, Sem.run_pure]

def fieldS (T : Tree) (t : Nat) (x : SV) (f : Nat) (K : SV → Prop) : Prop :=
  match x with
  | .agg l => match T.find t with
    | some ti => match ti.kind with
      | .struct fs => match fs[f]? with
        | some (off, t') => partS T t' l off K
        | none => False
      | _ => False
    | none => False
  | _ => False
theorem fieldS_sound {P : Program} {T : Tree} (hT : TOk P T) {t f : Nat} {x : SV} {K : SV → Prop} {ρ : Rho} {u : Value} (hx : Den ρ x u) (h : fieldS T t x f K) :
    Gives P (Instr.field t u f) ρ K := by
  unfold fieldS at h
  split at h
  · rename_i l
    split at h
    · rename_i ti hti
      obtain ⟨d, h1, h2⟩ := (hT t ti hti).under
      split at h
      · rename_i fs hfs
        rw [hfs] at h2
        obtain ⟨arr, rfl, _, h3⟩ := h2
        split at h
        · rename_i off t' hf
          obtain ⟨fl, g1, g2, g3⟩ := h3 f off t' hf
          cases hx with
          | agg vs hc hl =>
            subst hc
            obtain ⟨v, c, e1, e2, e3⟩ := partS_sound hT hl h
            refine ⟨v, c, ?_, e2, e3⟩
            intro w
            unfold Instr.field
            simp only [Sem.run_bind, h1 w, Result.andThen_ok, g1, asAgg, Sem.run_pure, g2, g3, e1]
        · exact h.elim
      · exact h.elim
    · exact h.elim
  · exact h.elim

/-- An element of an array's value, by a numeral. -/
def indexS (T : Tree) (t : Nat) (x ix : SV) (K : SV → Prop) : Prop :=
  match x with
  | .agg l => match ix with
    | .i _ (.lit n) => match T.find t with
      | some ti => match ti.kind with
        | .array len e => match T.find e with
          | some te => if 0 ≤ n then (if n < len then partS T e l (n.toNat * te.size) K else False) else False
          | none => False
        | _ => False
      | none => False
    | _ => False
  | _ => False
theorem indexS_sound {P : Program} {T : Tree} (hT : TOk P T) {t : Nat} {x ix : SV} {K : SV → Prop} {ρ : Rho} {u d : Value} (hx : Den ρ x u) (hi : Den ρ ix d) (h : indexS T t x ix K) :
    Gives P (Instr.index t u d) ρ K := by
  unfold indexS at h
  split at h
  · rename_i l
    split at h
    · rename_i k n
      cases hi with
      | i hi =>
      subst hi
      split at h
      · rename_i ti hti
        obtain ⟨d, h1, h2⟩ := (hT t ti hti).under
        split at h
        · rename_i len e hk
          rw [hk] at h2
          simp only [kindOk] at h2
          subst h2
          split at h
          · rename_i te hte
            split at h
            · split at h
              · rename_i g1 g2
                cases hx with
                | agg vs hc hl =>
                  subst hc
                  obtain ⟨v, c, e1, e2, e3⟩ := partS_sound hT hl h
                  refine ⟨v, c, ?_, e2, e3⟩
                  intro w
                  unfold Instr.index
                  simp only [asIntOf, Sem.run_bind, Sem.run_pure, Result.andThen_ok, h1 w, S.val_lit, g1, g2, and_self, if_true, (hT e te hte).size w, e1]
              · exact h.elim
            · exact h.elim
          · exact h.elim
        · exact h.elim
      · exact h.elim
    · exact h.elim
  · exact h.elim

theorem DenT.get {ρ : Rho} : ∀ {l : List SV} {cs : List Value} {n : Nat} {v : SV}, DenT ρ l cs → l[n]? = some v → ∃ c, cs[n]? = some c ∧ Den ρ v c
  | [], cs, n, v, h, hn => by simp at hn
  | x :: r, cs, n, v, h, hn => by
    cases h with
    | cons c c2 hc h1 h2 =>
      subst hc
      cases n with
      | zero => simp at hn; subst hn; exact ⟨c, rfl, h1⟩
      | succ n => simpa using DenT.get h2 (by simpa using hn)

def extractS (x : SV) (n : Nat) (K : SV → Prop) : Prop :=
  match x with
  | .tup l => match l[n]? with
    | some v => K v
    | none => False
  | _ => False
theorem extractS_sound {P : Program} {x : SV} {n : Nat} {K : SV → Prop} {ρ : Rho} {u : Value} (hx : Den ρ x u) (h : extractS x n K) : Gives P (Instr.extract u n) ρ K := by
  unfold extractS at h
  split at h
  · split at h
    · rename_i v hv
      cases hx with
      | tup vs hc hl =>
        subst hc
        obtain ⟨c, g1, g2⟩ := hl.get hv
        exact ⟨v, c, fun w => by simp [Instr.extract, g1], g2, h⟩
    · exact h.elim
  · exact h.elim

/-! ### Literals -/
/-- Where the part i of a literal of this type stands, and its size. -/
def placeS (T : Tree) (k : TK) (i : Nat) : Option (Nat × Nat) :=
  match k with
  | .struct fs => match fs[i]? with
    | some (off, t) => match T.find t with
      | some ti => some (off, ti.size)
      | none => none
    | none => none
  | .array n e => match T.find e with
    | some te => some (i * te.size, te.size)
    | none => none
  | _ => none
def fillS (pl : Nat → Option (Nat × Nat)) : List SV → List (Nat × SV) → Option (List SV)
  | cur, [] => some cur
  | cur, (i, v) :: rest => match pl i with
    | none => none
    | some (off, size) => match cellsV v with
      | none => none
      | some l => if sizeL l = some size then (match setAt cur off size l with | some cur' => fillS pl cur' rest | none => none) else none

theorem foldl_set (vs : List Value) : ∀ (cs : Array Value) (off k : Nat), ((vs.zipIdx k).foldl (fun cs x => cs.setIfInBounds (off + x.2) x.1) cs).toList = setMany cs.toList (off + k) vs := by
  induction vs with
  | nil => intro cs off k; simp [setMany]
  | cons v r ih =>
    intro cs off k
    simp only [List.zipIdx_cons, List.foldl_cons]
    rw [ih, setMany, Array.toList_setIfInBounds, Nat.add_assoc]

inductive DenP (ρ : Rho) : List (Nat × SV) → List (Nat × Value) → Prop
  | nil : DenP ρ [] []
  | cons {i : Nat} {v : SV} {c : Value} {l : List (Nat × SV)} {cs : List (Nat × Value)} (h : Den ρ v c) (hr : DenP ρ l cs) : DenP ρ ((i, v) :: l) ((i, c) :: cs)

theorem fillS_sound {ρ : Rho} {pl pl' : Nat → Option (Nat × Nat)} (hpl : ∀ i r, pl i = some r → pl' i = some r) : ∀ {parts : List (Nat × SV)} {cs : List (Nat × Value)} {cur cur' : List SV} {cells : Array Value},
    DenP ρ parts cs → DenL ρ cur cells.toList → fillS pl cur parts = some cur' → ∃ cells', Instr.fill pl' cells cs = some cells' ∧ DenL ρ cur' cells'.toList ∧ cells'.size = cells.size
  | _, _, cur, cur', cells, .nil, hc, h => by
    simp only [fillS, Option.some.injEq] at h; subst h; exact ⟨cells, rfl, hc, rfl⟩
  | _, _, cur, cur', cells, @DenP.cons _ i v c l cs hv hr, hc, h => by
    unfold fillS at h
    split at h
    · cases h
    · rename_i off size hp
      split at h
      · cases h
      · rename_i lv hlv
        split at h
        · rename_i hsz
          split at h
          · rename_i cur2 h2
            have hd := cellsV_sound hlv hv
            have hlen := sizeL_len hd hsz
            rw [← hlen] at h2
            obtain ⟨g1, g2⟩ := setAt_sound hc hd h2
            have hcl : c.cells.size = size := by simpa using hlen
            let cells2 := c.cells.zipIdx.foldl (fun cs x => cs.setIfInBounds (off + x.2) x.1) cells
            have e2 : cells2.toList = setMany cells.toList off c.cells.toList := by
              have := foldl_set c.cells.toList cells off 0
              simp only [cells2]
              rw [← Array.foldl_toList, Array.toList_zipIdx]
              simpa using this
            have e3 : DenL ρ cur2 cells2.toList := by rw [e2, setMany_eq _ _ _ g2]; exact g1
            obtain ⟨cells', f1, f2, f3⟩ := fillS_sound hpl hr e3 h
            refine ⟨cells', ?_, f2, ?_⟩
            · unfold Instr.fill
              simp only [hpl _ _ hp, hcl]
              rw [if_neg (by simp; simp at g2; omega)]
              exact f1
            · rw [f3]
              have := congrArg List.length e2
              rw [setMany_length] at this
              simpa using this
          · cases h
        · cases h

def buildS (T : Tree) (t : Nat) (parts : List (Nat × SV)) (K : SV → Prop) : Prop :=
  match T.find t with
  | none => False
  | some ti => match ti.kind with
    | .struct fs => if fs.all (fun f => (T.find f.2).isSome) = true then (match fillS (placeS T (.struct fs)) ti.zero parts with | some l => K (.agg l) | none => False) else False
    | .array n e => match T.find e with
      | some te => match fillS (placeS T (.array n e)) ti.zero parts with
        | some l => K (.agg l)
        | none => False
      | none => False
    | _ => False

theorem run_mapM_places {P : Program} (w : World) : ∀ (fs : List Field), (∀ f ∈ fs, ∃ i, P.info? f.type = some i) →
    (fs.mapM (fun f => do pure (f.offset, ← sizeOf f.type)) : Sem (List (Nat × Nat))).run P w = .ok (fs.map fun f => (f.offset, ((P.info? f.type).map (·.size)).getD 0)) w := by
  intro fs
  induction fs with
  | nil => intro _; simp
  | cons f r ih =>
    intro h
    obtain ⟨i, hi⟩ := h f (by simp)
    simp only [List.mapM_cons, Sem.run_bind, sizeOf, run_typeInfo' hi, Result.andThen_ok, Sem.run_pure, List.map_cons, hi, Option.map_some, Option.getD_some]
    have := ih (fun g hg => h g (by simp [hg]))
    simp only [sizeOf] at this
    rw [this]
    rfl

theorem TIok.info {P : Program} {t : Nat} {ti : TI} (h : TIok P t ti) : ∃ i, P.info? t = some i ∧ i.size = ti.size ∧ i.bytes = ti.bytes := by
  obtain ⟨i, d, z, h1, h2, h3, h4, h5, h6, h7, _⟩ := h; exact ⟨i, h1, h3, h4⟩

theorem buildS_sound {P : Program} {T : Tree} (hT : TOk P T) {t : Nat} {parts : List (Nat × SV)} {cs : List (Nat × Value)} {K : SV → Prop} {ρ : Rho} (hp : DenP ρ parts cs)
    (h : buildS T t parts K) : Gives P (Instr.build t cs.toArray) ρ K := by
  unfold buildS at h
  split at h
  · exact h.elim
  · rename_i ti hti
    have ok := hT t ti hti
    obtain ⟨d, h1, h2⟩ := ok.under
    obtain ⟨z, hz, hzd⟩ := ok.zeroV
    split at h
    · rename_i fs hk
      rw [hk] at h2
      obtain ⟨arr, rfl, hsz, h3⟩ := h2
      split at h
      · rename_i hall
        split at h
        · rename_i l hl
          have hinfo : ∀ f ∈ arr.toList, ∃ i, P.info? f.type = some i := by
            intro f hf
            obtain ⟨j, hj⟩ := List.getElem?_of_mem hf
            have hlt : j < fs.length := by
              have := (List.getElem?_eq_some_iff.1 hj).1
              simpa [hsz] using this
            obtain ⟨f', g1, g2, g3⟩ := h3 j (fs[j]).1 (fs[j]).2 (by rw [List.getElem?_eq_getElem hlt])
            have : f' = f := by
              have e : arr.toList[j]? = some f' := by rw [Array.getElem?_toList]; exact g1
              rw [hj] at e; exact (Option.some.inj e).symm
            subst this
            have hm := List.all_eq_true.1 hall (fs[j]) (List.getElem_mem hlt)
            obtain ⟨tj, htj⟩ := Option.isSome_iff_exists.1 hm
            obtain ⟨i, hi, _⟩ := (hT _ _ htj).info
            exact ⟨i, by rw [g3]; exact hi⟩
          let places := arr.toList.map fun f => (f.offset, ((P.info? f.type).map (·.size)).getD 0)
          have hpl : ∀ i r, placeS T (.struct fs) i = some r → places.toArray[i]? = some r := by
            intro i r hr
            simp only [placeS] at hr
            split at hr
            · rename_i off t' hf
              split at hr
              · rename_i tj htj
                cases hr
                obtain ⟨f', g1, g2, g3⟩ := h3 i off t' hf
                obtain ⟨ii, hi, hs, _⟩ := (hT _ _ htj).info
                have e : arr.toList[i]? = some f' := by rw [Array.getElem?_toList]; exact g1
                simp only [places, List.getElem?_toArray, List.getElem?_map, e, Option.map_some, g2, g3, hi, Option.getD_some, hs]
              · cases hr
            · cases hr
          obtain ⟨cells', f1, f2, f3⟩ := fillS_sound (pl' := fun i => places.toArray[i]?) hpl hp (hzd.weak) hl
          refine ⟨.agg l, .agg cells', ?_, .agg cells'.toList (by simp) f2, h⟩
          intro w
          unfold Instr.build
          simp only [Sem.run_bind, hz w, Result.andThen_ok, h1 w]
          rw [Array.mapM_eq_mapM_toList]
          simp only [Sem.run_map]
          rw [run_mapM_places (P := P) w arr.toList hinfo]
          simp only [Result.andThen_ok]
          have f1' : Instr.fill (fun x => (arr.toList.map fun f => (f.offset, ((P.info? f.type).map (·.size)).getD 0)).toArray[x]?) z.cells cs = some cells' := f1
          rw [f1']
          rfl
        · exact h.elim
      · exact h.elim
    · rename_i n e hk
      rw [hk] at h2
      simp only [kindOk] at h2
      subst h2
      split at h
      · rename_i te hte
        split at h
        · rename_i l hl
          have hpl : ∀ i r, placeS T (.array n e) i = some r → (fun i => some (i * te.size, te.size)) i = some r := by
            intro i r hr; simpa [placeS, hte] using hr
          obtain ⟨cells', f1, f2, f3⟩ := fillS_sound hpl hp (hzd.weak) hl
          refine ⟨.agg l, .agg cells', ?_, .agg cells'.toList (by simp) f2, h⟩
          intro w
          unfold Instr.build
          simp only [Sem.run_bind, hz w, Result.andThen_ok, h1 w, (hT e te hte).size w, f1, Sem.run_pure]
        · exact h.elim
      · exact h.elim
    · exact h.elim
#print axioms buildS_sound
end
end Go.Vex
