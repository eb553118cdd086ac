/-
  Joined: R1 TL CX CN R3 R2 KW MU VB MT MS.
-/
import Derived.Test.YtafhmkedblpdlaaDoorZ5
import Derived.Test.YtafhmkedblpdlaaDoorZ3
import Derived.Test.YtafhmkedblpdlaaDoorZ4
set_option linter.unusedVariables false
set_option linter.unusedSimpArgs false
/-
  tables.Map: the first pass.
-/
section
namespace Go.Proofs.YtafhmkedblpdlaaDoor
open Go Go.Vex
set_option maxRecDepth 20000
set_option maxHeartbeats 4000000
/-- The ranges over functions of a code. -/
def rfs : Code → List Code
  | .seq a b => rfs a ++ rfs b
  | .cond _ a b => rfs a ++ rfs b
  | .block _ b => rfs b
  | .scope b => rfs b
  | .loop b => rfs b
  | .rangeFunc g ps a b => .rangeFunc g ps a b :: rfs b
  | _ => []
def rfBody : List Code → Code
  | .rangeFunc _ _ _ b :: _ => b
  | _ => .skip
noncomputable def bd1 : Code := rfBody (rfs (Tryd.f15.body.getD .skip))
noncomputable def bd2 : Code := rfBody ((rfs (Tryd.f15.body.getD .skip)).drop 1)
noncomputable def kd119 : TypeDesc := (Tryd.prog.underlying 98).getD (.int .u32)
noncomputable def fld (t i : Nat) : Field := match Tryd.prog.underlying t with
  | some (.struct fs) => match fs.toList.drop i with
    | f :: _ => f
    | [] => ⟨"", 0, 0, false, "", "", 0⟩
  | _ => ⟨"", 0, 0, false, "", "", 0⟩
theorem mt113 : MapT kit 91 98 99 kd119 (.agg #[]) := ⟨by rw [kit_P]; kernel_rfl, by rw [kit_P]; kernel_rfl, by rw [kit_P]; kernel_rfl⟩
theorem kp119 : KeyT kit 98 pairV := KeyT.pair (f1 := fld 98 0) (f2 := fld 98 1) (by rw [kit_P]; kernel_rfl) (by rw [kit_P]; kernel_rfl) (by kernel_rfl) (by kernel_rfl) (k1 := .u32) (k2 := .u32) (by rw [kit_P]; kernel_rfl) (by rw [kit_P]; kernel_rfl) (by rw [kit_P]; kernel_rfl) (by rw [kit_P]; kernel_rfl)
theorem mt114 : MapT kit 92 22 22 (.int .u32) (.int .u32 0) := ⟨by rw [kit_P]; kernel_rfl, by rw [kit_P]; kernel_rfl, by rw [kit_P]; kernel_rfl⟩
/-- What has been seen; the tables that there are; those that are wanted. -/
structure PS where
  seen : List (Int × Int)
  tabs : List (Int × Value)
  wanted : List Int
def seenL (l : List (Int × Int)) : List ((Int × Int) × Value) := l.map fun x => (x, .agg #[])
/-- wanted, in its variable: nil, or a row. -/
def wanSh (l : List Int) (bs : List Blk) : Prop := (l = [] ∧ bs = [.cells 93 [.nilslc]]) ∨ (l ≠ [] ∧ ∃ cap, l.length ≤ cap ∧ bs = [.cells 93 [.slc 1 0 1 (.lit 0) (.ex l.length) (.ex cap)], .cells 22 [.ints .u32 (.ex l.length) l, .junk 1 (.ex (cap - l.length))]])
abbrev wanB (l : List Int) : Blk := .pk (wanSh l)
noncomputable def I56 : FnT := [(57, fi Tryd.f57 ⟨[], 0⟩), (55, fi Tryd.f55 ⟨[], 0⟩)]
theorem I56ok : FnsOk kit I56 := ⟨fo57 _, fo55 _, trivial⟩
theorem place_spec (pg : Int) (h : 0 ≤ pg ∧ pg < 4294967296) {a b : Int} (ha : a = pg / 1024) (hb : b = pg % 1024) : Spec1 kit 57 [.i .u32 (.ex pg)] [] false (.agg [.i .u32 (.ex a), .i .u32 (.ex b)]) [] [] := by
  refine Spec1.mk2 rfl fun F => ?_
  refine into I56ok 6 ?_
  conv => cbv
  refine (LeOut.mk' [0] (by decide) rfl (by decide) ?_ (by cbv)).two
  conv => cbv
  refine ⟨?_, ?_, trivial⟩
  · show a = quoI .u32 pg 1024
    rw [quoI_eq, Int.tdiv_eq_ediv_of_nonneg h.1, wrap_u32, ha]; omega
  · show b = remI pg 1024
    rw [remI_eq, Int.tmod_eq_emod_of_nonneg h.1, hb]
theorem pageOf_spec (v ph g p k : Int) (hph : 0 ≤ ph ∧ ph < 4294967296) (hk : 0 ≤ k ∧ ph / 4096 + k < 4294967296) {fr : Int} (hfr : fr = ph / 4096 + k) :
    Spec1 kit 55 [.agg [.i .u32 (.ex v), .i .u32 (.ex ph), .i .i64 (.ex g), .i .u8 (.ex p)], .i .u32 (.ex k)] [] false (.agg [.i .i64 (.lit 1), .i .u8 (.ex p), .i .u32 (.ex fr)]) [] [] := by
  refine Spec1.mk2 rfl fun F => ?_
  refine into I56ok 6 ?_
  conv => cbv
  refine (LeOut.mk' [0] (by decide) rfl (by decide) ?_ (by cbv)).two
  conv => cbv
  refine ⟨?_, trivial⟩
  show fr = addI .u32 (shrI .u32 ph 12) k
  have := shrI_u32 ph 12 (by decide)
  rw [show ((12 : Nat) : Int) = 12 from rfl] at this
  rw [this, addI_eq, wrap_u32, hfr]
  show _ = (ph / 4096 + k) % _
  omega
noncomputable def I79 : FnT := [(56, fi Tryd.f56 ⟨[2006007, 3006006, 3006009, 4006016], 0⟩)]
theorem I79ok : FnsOk kit I79 := ⟨foO _ Tryd.func56 (by kernel_rfl) (by decide +kernel) (by kernel_rfl), trivial⟩
/-- A page's word is looked at, and what it asks is noted; none: something is there. -/
def mStep (n : Int) (f : Int → Int) (root : Int) (s : PS) (x : Int × Int) : Option PS :=
  if x ∈ s.seen then none else
  let w := wW n f root x.1
  if wOk n root x.1 = false ∨ decE w ≠ 0 ∨ decK w = 1 ∨ (decK w = 2 ∧ n ≤ decF w) then none else
  if decK w = 0 then some ⟨s.seen ++ [x], s.tabs, if x.1 ∈ s.wanted then s.wanted else s.wanted ++ [x.1]⟩ else
  if wW n f (decF w * 4096) x.2 ≠ 0 then none else some ⟨s.seen ++ [x], putA x.1 (.int .u32 (decF w * 4096)) s.tabs, s.wanted⟩
def pgOf (L : Rgs) (i j : Nat) : Int × Int := ((L.V.getD i 0 / 4096 + j) / 1024, (L.V.getD i 0 / 4096 + j) % 1024)
def pgsOf (L : Rgs) (i k : Nat) : List (Int × Int) := (List.range k).map (pgOf L i)
def allPgs (L : Rgs) (i : Nat) : List (Int × Int) := (List.range i).flatMap fun a => pgsOf L a (L.G.getD a 0).toNat
theorem fA_seen {x : Int × Int} : ∀ {l : List (Int × Int)} (i : Nat), (fA x (seenL l) i = none ↔ x ∉ l)
  | [], i => by simp [seenL, fA]
  | a :: r, i => by
    have ih := fA_seen (x := x) (l := r) (i + 1)
    simp only [seenL, List.map_cons, fA] at ih ⊢
    by_cases h : a = x
    · rw [if_pos h]; simp [h]
    · rw [if_neg h, List.mem_cons, not_or]
      exact ⟨fun h1 => ⟨Ne.symm h, ih.1 h1⟩, fun h1 => ih.2 h1.2⟩
theorem lookupE {C : Kit} {fr : Fr} {hp : List Blk} {K : SV → List Blk → Prop} {t kt et : Nat} {kd : TypeDesc} {z : Value} {α : Type} [DecidableEq α] {kv : α → Value} {m k : Operand} {ok : Bool} {x : Nat} {kS : SV} {E : List (Value × Value)} {L : List (α × Value)} (hE : E = entA kv L) (hT : MapT C t kt et kd z) (hK : KeyT C kt kv)
    (em : ev fr hp m = some (.map x)) (ek : ev fr hp k = some kS) (hx : hp[x]? = some (.abs (MP E))) (n : α) (hn : ∀ ρ c, Den ρ kS c → c = kv n) (v : SV)
    (hv : ∀ ρ, Den ρ v (match fA n L 0 with
      | some (_, v) => if ok = true then .tuple #[v, .bool true] else v
      | none => if ok = true then .tuple #[z, .bool false] else z)) (hk : K v hp) : XOpN C (.lookup t m k ok) fr hp K := by
  subst hE; exact XOpN.lookupMP hT hK em ek hx n hn v hv hk
theorem updateE {C : Kit} {fr : Fr} {hp : List Blk} {K : SV → List Blk → Prop} {t kt et : Nat} {kd : TypeDesc} {z : Value} {α : Type} [DecidableEq α] {kv : α → Value} {m k y : Operand} {x : Nat} {kS vS : SV} {E E' : List (Value × Value)} {L : List (α × Value)} (hE : E = entA kv L) (hT : MapT C t kt et kd z) (hK : KeyT C kt kv)
    (em : ev fr hp m = some (.map x)) (ek : ev fr hp k = some kS) (ey : ev fr hp y = some vS) (hx : hp[x]? = some (.abs (MP E))) (n : α) (hn : ∀ ρ c, Den ρ kS c → c = kv n) (v : Value) (hv : ∀ ρ c, Den ρ vS c → c = v) (hE' : E' = entA kv (putA n v L))
    (hk : K (.raw undef) (hp.set x (.abs (MP E')))) : XOpN C (.mapUpdate t m k y) fr hp K := by
  subst hE hE'; exact XOpN.updateMP hT hK em ek ey hx n hn v hv hk
theorem den_pair {ρ : Rho} {a b : Int} {c : Value} (h : Den ρ (.agg [.i .u32 (.ex a), .i .u32 (.ex b)]) c) : c = pairV (a, b) := by
  cases h with
  | agg vs hc hl =>
    obtain ⟨c1, c2, rfl, g1, g2⟩ := hl.of_cons
    obtain ⟨c3, c4, rfl, g3, g4⟩ := g2.of_cons
    obtain ⟨d1, rfl, _, k1⟩ := g1.single rfl
    obtain ⟨d2, rfl, _, k2⟩ := g3.single rfl
    cases k1 with
    | i k1 => cases k2 with
      | i k2 => rw [g4.of_nil] at hc; rw [hc, k1, k2]; rfl
theorem den_i {ρ : Rho} {k : IntKind} {a : Int} {c : Value} (h : Den ρ (.i k (.ex a)) c) : c = .int k a := by
  cases h with | i h => exact h
theorem den_unit {ρ : Rho} {c : Value} (h : Den ρ (.agg []) c) : c = .agg #[] := by
  cases h with
  | agg vs hc hl => rw [hl.of_nil] at hc; exact hc
theorem fA_seen_some {x : Int × Int} : ∀ {l : List (Int × Int)} (i : Nat), x ∈ l → ∃ j, fA x (seenL l) i = some (j, .agg #[])
  | [], i, h => by simp at h
  | a :: r, i, h => by
    simp only [seenL, List.map_cons, fA]
    by_cases hx : a = x
    · exact ⟨i, by rw [if_pos hx]⟩
    · rw [if_neg hx]
      have : x ∈ r := by rcases List.mem_cons.1 h with h | h; exact absurd h.symm hx; exact h
      exact fA_seen_some (i + 1) this
/-- The heap while the pages are gone over. -/
noncomputable def hpA (n base pages taken root : Int) (sealed : Bool) (f : Int → Int) (V PH G P : List Int) (m cap : Nat) (F : Option (Nat × Nat) → Vex.Own → World → Prop) (e0 : S Int) (D1 D2 : List (Value × Value)) (wl : List Int) (rest : List Blk) : List Blk :=
  memB n f :: arB 0 base pages taken sealed :: spB 1 root :: .ro [.rows 4 (.ex m) (rngF V PH G P)] :: .abs F :: .cells 55 [.p 2 (.at 0)] :: .cells 36 [.i .i64 e0] :: .cells 37 [.p 0 (.at 0)] :: .abs (MP D1) :: .cells 91 [.map 8] :: .abs (MP D2) :: .cells 92 [.map 10] :: wanB wl :: .cells 31 [.slc 3 0 4 (.lit 0) (.ex m) (.ex cap)] :: .obj (.deferred (some [])) :: rest
noncomputable def recB (R : RecT) (st : LoopState) (pe : Option Code) : Blk := .av [.p 5 (.at 0), .p 6 (.at 0), .p 7 (.at 0), .p 9 (.at 0), .p 11 (.at 0), .p 12 (.at 0)] (R st pe)
noncomputable def rgB (a b c d : Int) : Blk := .cells 30 [.i .u32 (.ex a), .i .u32 (.ex b), .i .i64 (.ex c), .i .u8 (.ex d)]
theorem decK_cases (w : Int) : decK w = 0 ∨ decK w = 1 ∨ decK w = 2 := by
  unfold decK; split
  · simp
  · split
    · simp
    · split <;> simp
theorem fA_putA {α : Type} [DecidableEq α] {n : α} {v : Value} {L : List (α × Value)} : ∃ j, fA n (putA n v L) 0 = some (j, v) := by
  have key : ∀ (M : List (α × Value)) (i : Nat), (∃ j : Nat, M[j]? = some (n, v) ∧ ∀ k, k < j → ∀ x, M[k]? = some x → x.1 ≠ n) → ∃ j, fA n M i = some (j, v) := by
    intro M
    induction M with
    | nil => rintro i ⟨j, h, _⟩; simp at h
    | cons a r ih =>
      rintro i ⟨j, h1, h2⟩
      obtain ⟨a1, a2⟩ := a
      unfold fA
      by_cases ha : a1 = n
      · rw [if_pos ha]
        cases j with
        | zero => simp at h1; exact ⟨i, by rw [h1.2]⟩
        | succ j => exact absurd ha (h2 0 (by omega) _ rfl)
      · rw [if_neg ha]
        cases j with
        | zero => simp at h1; exact absurd h1.1 ha
        | succ j => exact ih (i + 1) ⟨j, by simpa using h1, fun k hk x hx => h2 (k + 1) (by omega) x (by simpa using hx)⟩
  have first : ∀ (M : List (α × Value)) (i j : Nat) (u : Value), fA n M i = some (j, u) → i ≤ j ∧ j - i < M.length ∧ ∀ k, k < j - i → ∀ x, M[k]? = some x → x.1 ≠ n := by
    intro M
    induction M with
    | nil => intro i j u h; simp [fA] at h
    | cons a r ih =>
      intro i j u h
      obtain ⟨a1, a2⟩ := a
      unfold fA at h
      split at h
      · cases h; exact ⟨Nat.le_refl _, by simp, fun k hk => by omega⟩
      · rename_i ha
        obtain ⟨h1, h2, h3⟩ := ih _ _ _ h
        refine ⟨by omega, by simp; omega, fun k hk x hx => ?_⟩
        cases k with
        | zero => simp at hx; subst hx; exact ha
        | succ k => exact h3 k (by omega) x (by simpa using hx)
  have none_ : ∀ (M : List (α × Value)) (i : Nat), fA n M i = none → ∀ x ∈ M, x.1 ≠ n := by
    intro M
    induction M with
    | nil => intro i _ x hx; simp at hx
    | cons a r ih =>
      intro i h x hx
      obtain ⟨a1, a2⟩ := a
      unfold fA at h
      split at h
      · cases h
      · rename_i ha
        rcases List.mem_cons.1 hx with rfl | hx
        · exact ha
        · exact ih _ h x hx
  unfold putA
  cases h : fA n L 0 with
  | none =>
    refine key _ 0 ⟨L.length, by simp, fun k hk x hx => ?_⟩
    rw [List.getElem?_append_left hk] at hx
    exact none_ L 0 h x (List.mem_of_getElem? hx)
  | some y =>
    obtain ⟨j, u⟩ := y
    obtain ⟨_, h2, h3⟩ := first L 0 j u h
    refine key _ 0 ⟨j, by rw [List.getElem?_set_self (by omega)], fun k hk x hx => ?_⟩
    rw [List.getElem?_set_ne (by omega)] at hx
    exact h3 k (by omega) x hx
theorem round1 {R : RecT} {y : Nat} (n base pages taken root : Int) (sealed : Bool) (f : Int → Int) (hn : 1 ≤ n ∧ n ≤ 4096) (hmo : MemOk f) (hr : 0 ≤ root ∧ root < 4294967296) (V PH G P : List Int) (m cap : Nat) (F : Option (Nat × Nat) → Vex.Own → World → Prop) (ps : PS) (first second e2 e3 : Int) (hf : 0 ≤ first ∧ first < 1024) (hs : 0 ≤ second ∧ second < 1024) (hwl : ps.wanted.length < 1048576)
    (vz phz gz pz : Int) (D1 D2 : List (Value × Value)) (hD1 : D1 = entA pairV (seenL ps.seen)) (hD2 : D2 = entA (Value.int .u32) ps.tabs) {K : Bool → SV → List Blk → Prop}
    (hok : ∀ ps' D1' D2', mStep n f root ps (first, second) = some ps' → D1' = entA pairV (seenL ps'.seen) → D2' = entA (Value.int .u32) ps'.tabs → K false (.b (.lit true)) (hpA n base pages taken root sealed f V PH G P m cap F (.ex 0) D1' D2' ps'.wanted [recB R .ready none, rgB vz phz gz pz, .gone, .gone]))
    (herr : ∀ D1' D2' wl, mStep n f root ps (first, second) = none → K false (.b (.lit false)) (hpA n base pages taken root sealed f V PH G P m cap F (.ex 71) D1' D2' wl [recB R .done (some .ret), rgB vz phz gz pz, .gone, .gone])) :
    Ok kit 184 19 bd1 false ⟨[(9, .p 19 (.at 0)), (36, .agg [.i .i64 (.lit 1), .i .u8 (.ex e2), .i .u32 (.ex e3)]), (35, .agg [.i .u32 (.ex first), .i .u32 (.ex second)]), (1000003, .tup [.raw (.int .u64 (Int.ofNat y))]), (2, .p 5 (.at 0)), (4, .p 6 (.at 0)), (5, .p 7 (.at 0)), (6, .p 9 (.at 0)), (7, .p 11 (.at 0)), (8, .p 12 (.at 0))],
      hpA n base pages taken root sealed f V PH G P m cap F (.ex 0) D1 D2 ps.wanted [recB R .busy none, rgB vz phz gz pz, .gone, .gone, .cells 98 [.i .u32 (.ex first), .i .u32 (.ex second)]]⟩
      (endRd R 15 fun q v hp' => ∃ q1 v1 hp1, LeOut2 19 q v hp' q1 v1 hp1 ∧ K q1 v1 hp1) := by
  obtain ⟨D3, hD3⟩ : ∃ x, x = entA pairV (putA (first, second) (.agg #[]) (seenL ps.seen)) := ⟨_, rfl⟩
  obtain ⟨w, hw⟩ : ∃ x, x = wW n f root first := ⟨_, rfl⟩
  obtain ⟨a1, ha1⟩ : ∃ x, x = wAt root first := ⟨_, rfl⟩
  obtain ⟨b1, hb1⟩ : ∃ x, x = wOk n root first := ⟨_, rfl⟩
  obtain ⟨k1, hk1⟩ : ∃ x, x = decK w := ⟨_, rfl⟩
  obtain ⟨p1, hp1⟩ : ∃ x, x = decP w := ⟨_, rfl⟩
  obtain ⟨f1, hf1⟩ : ∃ x, x = decF w := ⟨_, rfl⟩
  obtain ⟨er1, he1⟩ : ∃ x, x = decE w := ⟨_, rfl⟩
  obtain ⟨t1, ht1⟩ : ∃ x, f1 * 4096 = x := ⟨_, rfl⟩
  obtain ⟨a2, ha2⟩ : ∃ x, x = wAt t1 second := ⟨_, rfl⟩
  obtain ⟨w2, hw2⟩ : ∃ x, x = wW n f t1 second := ⟨_, rfl⟩
  obtain ⟨b2, hb2⟩ : ∃ x, x = wOk n t1 second := ⟨_, rfl⟩
  obtain ⟨bl, hbl⟩ : ∃ x, x = decide (f1 < n) := ⟨_, rfl⟩
  obtain ⟨bc, hbc⟩ : ∃ x, x = decide (first ∈ ps.wanted) := ⟨_, rfl⟩
  obtain ⟨D4, hD4⟩ : ∃ x, x = entA (Value.int .u32) (putA first (.int .u32 t1) ps.tabs) := ⟨_, rfl⟩
  have hwu : 0 ≤ w ∧ w < 4294967296 := by rw [hw]; exact wW_u hmo _ _ _
  have hfr : er1 = 0 → 0 ≤ f1 ∧ f1 ≤ 4095 := fun h => by rw [hf1]; exact decF_u hwu (by rw [← he1]; exact h)
  have hsh : er1 = 0 → shlI .u32 f1 12 = t1 := fun h => by rw [shl12 (hfr h), ← ht1]; show 4096 * f1 = _; omega
  have ht1u : er1 = 0 → 0 ≤ t1 ∧ t1 < 4294967296 := fun h => by have := hfr h; omega
  have hf1u : er1 = 0 → 0 ≤ f1 ∧ f1 < 4294967296 := fun h => by have := hfr h; omega
  have hms : (first, second) ∉ ps.seen → mStep n f root ps (first, second) = (if b1 = false ∨ er1 ≠ 0 ∨ k1 = 1 ∨ (k1 = 2 ∧ n ≤ f1) then none else if k1 = 0 then some ⟨ps.seen ++ [(first, second)], ps.tabs, if first ∈ ps.wanted then ps.wanted else ps.wanted ++ [first]⟩ else if w2 ≠ 0 then none else some ⟨ps.seen ++ [(first, second)], putA first (.int .u32 t1) ps.tabs, ps.wanted⟩) := by
    intro hsee
    rw [mStep, if_neg hsee]
    simp only [← hw, ← hb1, ← he1, ← hk1, ← hf1, ht1, ← hw2]
  have hs3 : (first, second) ∉ ps.seen → D3 = entA pairV (seenL (ps.seen ++ [(first, second)])) := by
    intro hsee
    rw [hD3, fA_none_putA ((fA_seen 0).2 hsee)]
    simp [seenL]
  obtain ⟨wl, hwl2⟩ : ∃ x, ps.wanted = x := ⟨_, rfl⟩
  obtain ⟨wn, hwn2⟩ : ∃ x, wl.length = x := ⟨_, rfl⟩
  have hwl3 : wn < 1048576 := by rw [← hwn2, ← hwl2]; exact hwl
  obtain ⟨wl3, hwl4⟩ : ∃ x, wl ++ [first] = x := ⟨_, rfl⟩
  refine Ok.unfold 12 rfl ?_
  rintro bs (⟨hwn, rfl⟩ | ⟨hwn, cw, hcw, hbs⟩)
  · skip
    refine kcode (I := []) trivial 3 ⟨[], 0⟩ (by kernel_rfl) ?_
    conv => cbv
    by_cases hsee : (first, second) ∈ ps.seen
    · obtain ⟨j, hj⟩ := fA_seen_some 0 hsee
      refine XOpN.x (lookupE hD1 mt113 kp119 rfl rfl rfl (first, second) (fun ρ c h => den_pair h) (.tup [.agg [], .b (.lit true)]) (fun ρ => by rw [hj]; exact .tup _ rfl (.cons _ _ rfl (.agg [] rfl (.nil rfl)) (.cons _ _ rfl (.b rfl) (.nil rfl)))) ?_)
      conv => cbv
      refine ⟨_, _, _, LeOut2.imp (HImp.fold (S := wanSh ps.wanted) 12 [] [.cells 93 [.nilslc]] (by decide) (by cbv) (.inl ⟨hwn, rfl⟩)) (LeOut.mk' (List.range 19) (by decide) rfl (by decide) (by cbv) ?_).two, herr D1 D2 ps.wanted (by rw [mStep, if_pos hsee])⟩
      conv => cbv
      exact ⟨⟨fun j _ => rngF_le _ _, trivial⟩, trivial⟩
    · refine XOpN.x (lookupE hD1 mt113 kp119 rfl rfl rfl (first, second) (fun ρ c h => den_pair h) (.tup [.agg [], .b (.lit false)]) (fun ρ => by rw [(fA_seen 0).2 hsee]; exact .tup _ rfl (.cons _ _ rfl (.agg [] rfl (.nil rfl)) (.cons _ _ rfl (.b rfl) (.nil rfl)))) ?_)
      conv => cbv
      refine XOpN.x (updateE hD1 mt113 kp119 rfl rfl rfl rfl (first, second) (fun ρ c h => den_pair h) (.agg #[]) (fun ρ c h => den_unit h) hD3 ?_)
      conv => cbv
      refine OkCall.by_spec (word_spec n f root first hn hr (by omega) ha1 hw hb1) [0] (by decide) (by cbv) (by cbv) ?_
      conv => cbv
      refine OkCall.by_spec (dec_spec w hwu hk1 hp1 hf1 he1) [] (by decide) (by cbv) trivial ?_
      conv => cbv
      refine Br.mk (fun h1 => ?_) (fun h1 => ?_)
      · have h1 : notB b1 = true := h1
        rw [notB_eq, Bool.not_eq_true'] at h1
        conv => cbv
        refine ⟨_, _, _, LeOut2.imp (HImp.fold (S := wanSh ps.wanted) 12 [] [.cells 93 [.nilslc]] (by decide) (by cbv) (.inl ⟨hwn, rfl⟩)) (LeOut.mk' (List.range 19) (by decide) rfl (by decide) (by cbv) ?_).two, herr D3 D2 ps.wanted (by rw [hms hsee]; rw [if_pos (.inl h1)])⟩
        conv => cbv
        exact ⟨⟨fun j _ => rngF_le _ _, trivial⟩, trivial⟩
      · have h1 : notB b1 = false := h1
        rw [notB_eq, Bool.not_eq_false'] at h1
        conv => cbv
        refine Br.mk (fun h2 => ?_) (fun h2 => ?_)
        · have h2 : er1 ≠ 0 := neI_t.1 h2
          conv => cbv
          refine ⟨_, _, _, LeOut2.imp (HImp.fold (S := wanSh ps.wanted) 12 [] [.cells 93 [.nilslc]] (by decide) (by cbv) (.inl ⟨hwn, rfl⟩)) (LeOut.mk' (List.range 19) (by decide) rfl (by decide) (by cbv) ?_).two, herr D3 D2 ps.wanted (by rw [hms hsee]; rw [if_pos (.inr (.inl h2))])⟩
          conv => cbv
          exact ⟨⟨fun j _ => rngF_le _ _, trivial⟩, trivial⟩
        · have h2 : er1 = 0 := neI_f.1 h2
          conv => cbv
          refine Br.mk (fun h3 => ?_) (fun h3 => ?_)
          · have h3 : k1 = 1 := eqI_t.1 h3
            conv => cbv
            refine ⟨_, _, _, LeOut2.imp (HImp.fold (S := wanSh ps.wanted) 12 [] [.cells 93 [.nilslc]] (by decide) (by cbv) (.inl ⟨hwn, rfl⟩)) (LeOut.mk' (List.range 19) (by decide) rfl (by decide) (by cbv) ?_).two, herr D3 D2 ps.wanted (by rw [hms hsee]; rw [if_pos (.inr (.inr (.inl h3)))])⟩
            conv => cbv
            exact ⟨⟨fun j _ => rngF_le _ _, trivial⟩, trivial⟩
          · have h3 : k1 ≠ 1 := eqI_f.1 h3
            conv => cbv
            refine Br.mk (fun h4 => ?_) (fun h4 => ?_)
            · have h4 : k1 = 2 := eqI_t.1 h4
              conv => cbv
              refine OkCall.by_spec (lies_spec n f f1 (hf1u h2) hbl) [0] (by decide) (by cbv) (by cbv) ?_
              conv => cbv
              refine Br.mk (fun h5 => ?_) (fun h5 => ?_)
              · have h5 : notB bl = true := h5
                rw [notB_eq, Bool.not_eq_true'] at h5
                have h6 : n ≤ f1 := by rw [h5] at hbl; have := of_decide_eq_false hbl.symm; omega
                conv => cbv
                refine ⟨_, _, _, LeOut2.imp (HImp.fold (S := wanSh ps.wanted) 12 [] [.cells 93 [.nilslc]] (by decide) (by cbv) (.inl ⟨hwn, rfl⟩)) (LeOut.mk' (List.range 19) (by decide) rfl (by decide) (by cbv) ?_).two, herr D3 D2 ps.wanted (by rw [hms hsee]; rw [if_pos (.inr (.inr (.inr ⟨h4, h6⟩)))])⟩
                conv => cbv
                exact ⟨⟨fun j _ => rngF_le _ _, trivial⟩, trivial⟩
              · have h5 : notB bl = false := h5
                rw [notB_eq, Bool.not_eq_false'] at h5
                have h6 : ¬ n ≤ f1 := by rw [h5] at hbl; have := of_decide_eq_true hbl.symm; omega
                have hcnd : ¬ (b1 = false ∨ er1 ≠ 0 ∨ k1 = 1 ∨ (k1 = 2 ∧ n ≤ f1)) := by
                  rintro (h | h | h | h)
                  · rw [h1] at h; cases h
                  · exact h h2
                  · exact h3 h
                  · exact h6 h.2
                conv => cbv
                refine Br.no (show eqI k1 0 = false from eqI_f.2 (by omega)) ?_
                conv => cbv
                refine XOpN.x (updateE hD2 mt114 ku27 rfl rfl rfl rfl first (fun ρ c h => den_i h) (.int .u32 t1) (fun ρ c h => by rw [← hsh h2]; exact den_i h) hD4 ?_)
                conv => cbv
                obtain ⟨jj, hjj⟩ := fA_putA (n := first) (v := Value.int .u32 t1) (L := ps.tabs)
                refine XOpN.x (lookupE hD4 mt114 ku27 rfl rfl rfl first (fun ρ c h => den_i h) (.i .u32 (.ex t1)) (fun ρ => by rw [hjj]; exact .i rfl) ?_)
                conv => cbv
                refine OkCall.by_spec (word_spec n f t1 second hn (ht1u h2) (by omega) ha2 hw2 hb2) [0] (by decide) (by cbv) (by cbv) ?_
                conv => cbv
                refine Br.mk (fun h7 => ?_) (fun h7 => ?_)
                · have h7 : w2 ≠ 0 := neI_t.1 h7
                  conv => cbv
                  refine ⟨_, _, _, LeOut2.imp (HImp.fold (S := wanSh ps.wanted) 12 [] [.cells 93 [.nilslc]] (by decide) (by cbv) (.inl ⟨hwn, rfl⟩)) (LeOut.mk' (List.range 19) (by decide) rfl (by decide) (by cbv) ?_).two, herr D3 D4 ps.wanted (by rw [hms hsee]; rw [if_neg hcnd, if_neg (by omega), if_pos h7])⟩
                  conv => cbv
                  exact ⟨⟨fun j _ => rngF_le _ _, trivial⟩, trivial⟩
                · have h7 : w2 = 0 := neI_f.1 h7
                  conv => cbv
                  refine ⟨_, _, _, LeOut2.imp (HImp.fold (S := wanSh ps.wanted) 12 [] [.cells 93 [.nilslc]] (by decide) (by cbv) (.inl ⟨hwn, rfl⟩)) (LeOut.mk' (List.range 19) (by decide) rfl (by decide) (by cbv) ?_).two, hok _ D3 D4 (by rw [hms hsee, if_neg hcnd, if_neg (by omega), if_neg (by simpa using h7)]) (hs3 hsee) hD4⟩
                  conv => cbv
                  exact ⟨⟨fun j _ => rngF_le _ _, trivial⟩, trivial⟩
            · have h4 : k1 ≠ 2 := eqI_f.1 h4
              have h0 : k1 = 0 := by rw [hk1]; rcases decK_cases w with h | h | h; exact h; exact absurd (hk1.trans h) h3; exact absurd (hk1.trans h) h4
              have hcnd : ¬ (b1 = false ∨ er1 ≠ 0 ∨ k1 = 1 ∨ (k1 = 2 ∧ n ≤ f1)) := by
                rintro (h | h | h | h)
                · rw [h1] at h; cases h
                · exact h h2
                · exact h3 h
                · exact h4 h.1
              conv => cbv
              refine Br.yes (show eqI k1 0 = true from eqI_t.2 h0) ?_
              conv => cbv
              refine OkCall.by_spec (contains_nil first) [] (by decide) (by cbv) trivial ?_
              conv => cbv
              refine ⟨by show apOk 1 4; rw [apOk_eq]; decide, AllN.mk fun cap1 hcap1 => ?_⟩
              conv => cbv
              refine ⟨_, _, _, LeOut2.imp (HImp.fold (S := wanSh [first]) 12 [26] [.cells 93 [.slc 1 0 1 (.lit 0) (.ex 1) (.ex cap1)], .cells 22 [.ints .u32 (.ex 1) [first], .junk 1 (.ex (cap1 - 1))]] (by decide) ?_ (.inr ⟨by simp, cap1, hcap1, rfl⟩)) (LeOut.mk' (List.range 19) (by decide) rfl (by decide) (by cbv) ?_).two, hok ⟨ps.seen ++ [(first, second)], ps.tabs, [first]⟩ D3 D2 (by rw [hms hsee, if_neg hcnd, if_pos h0, hwn]; simp) (hs3 hsee) hD2⟩
              · conv => cbv
                refine ⟨⟨?_, trivial⟩, trivial⟩
                show _ = subN cap1 1
                rw [subN_eq]; cases cap1 <;> rfl
              · conv => cbv
                exact ⟨⟨fun j _ => rngF_le _ _, trivial⟩, trivial⟩
  · obtain ⟨jw, hjw⟩ : ∃ x, cw - wn = x := ⟨_, rfl⟩
    rw [hwl2, hwn2] at hcw hbs
    rw [hjw] at hbs
    subst hbs
    refine kcode (I := []) trivial 3 ⟨[], 0⟩ (by kernel_rfl) ?_
    conv => cbv
    by_cases hsee : (first, second) ∈ ps.seen
    · obtain ⟨j, hj⟩ := fA_seen_some 0 hsee
      refine XOpN.x (lookupE hD1 mt113 kp119 rfl rfl rfl (first, second) (fun ρ c h => den_pair h) (.tup [.agg [], .b (.lit true)]) (fun ρ => by rw [hj]; exact .tup _ rfl (.cons _ _ rfl (.agg [] rfl (.nil rfl)) (.cons _ _ rfl (.b rfl) (.nil rfl)))) ?_)
      conv => cbv
      refine ⟨_, _, _, LeOut2.imp (HImp.fold (S := wanSh ps.wanted) 12 [20] [.cells 93 [.slc 1 0 1 (.lit 0) (.ex wn) (.ex cw)], .cells 22 [.ints .u32 (.ex wn) wl, .junk 1 (.ex jw)]] (by decide) (by cbv) (.inr ⟨hwn, cw, by rw [hwl2, hwn2]; exact hcw, by rw [hwl2, hwn2, hjw]⟩)) (LeOut.mk' (List.range 19) (by decide) rfl (by decide) (by cbv) ?_).two, herr D1 D2 ps.wanted (by rw [mStep, if_pos hsee])⟩
      conv => cbv
      exact ⟨⟨fun j _ => rngF_le _ _, trivial⟩, trivial⟩
    · refine XOpN.x (lookupE hD1 mt113 kp119 rfl rfl rfl (first, second) (fun ρ c h => den_pair h) (.tup [.agg [], .b (.lit false)]) (fun ρ => by rw [(fA_seen 0).2 hsee]; exact .tup _ rfl (.cons _ _ rfl (.agg [] rfl (.nil rfl)) (.cons _ _ rfl (.b rfl) (.nil rfl)))) ?_)
      conv => cbv
      refine XOpN.x (updateE hD1 mt113 kp119 rfl rfl rfl rfl (first, second) (fun ρ c h => den_pair h) (.agg #[]) (fun ρ c h => den_unit h) hD3 ?_)
      conv => cbv
      refine OkCall.by_spec (word_spec n f root first hn hr (by omega) ha1 hw hb1) [0] (by decide) (by cbv) (by cbv) ?_
      conv => cbv
      refine OkCall.by_spec (dec_spec w hwu hk1 hp1 hf1 he1) [] (by decide) (by cbv) trivial ?_
      conv => cbv
      refine Br.mk (fun h1 => ?_) (fun h1 => ?_)
      · have h1 : notB b1 = true := h1
        rw [notB_eq, Bool.not_eq_true'] at h1
        conv => cbv
        refine ⟨_, _, _, LeOut2.imp (HImp.fold (S := wanSh ps.wanted) 12 [20] [.cells 93 [.slc 1 0 1 (.lit 0) (.ex wn) (.ex cw)], .cells 22 [.ints .u32 (.ex wn) wl, .junk 1 (.ex jw)]] (by decide) (by cbv) (.inr ⟨hwn, cw, by rw [hwl2, hwn2]; exact hcw, by rw [hwl2, hwn2, hjw]⟩)) (LeOut.mk' (List.range 19) (by decide) rfl (by decide) (by cbv) ?_).two, herr D3 D2 ps.wanted (by rw [hms hsee]; rw [if_pos (.inl h1)])⟩
        conv => cbv
        exact ⟨⟨fun j _ => rngF_le _ _, trivial⟩, trivial⟩
      · have h1 : notB b1 = false := h1
        rw [notB_eq, Bool.not_eq_false'] at h1
        conv => cbv
        refine Br.mk (fun h2 => ?_) (fun h2 => ?_)
        · have h2 : er1 ≠ 0 := neI_t.1 h2
          conv => cbv
          refine ⟨_, _, _, LeOut2.imp (HImp.fold (S := wanSh ps.wanted) 12 [20] [.cells 93 [.slc 1 0 1 (.lit 0) (.ex wn) (.ex cw)], .cells 22 [.ints .u32 (.ex wn) wl, .junk 1 (.ex jw)]] (by decide) (by cbv) (.inr ⟨hwn, cw, by rw [hwl2, hwn2]; exact hcw, by rw [hwl2, hwn2, hjw]⟩)) (LeOut.mk' (List.range 19) (by decide) rfl (by decide) (by cbv) ?_).two, herr D3 D2 ps.wanted (by rw [hms hsee]; rw [if_pos (.inr (.inl h2))])⟩
          conv => cbv
          exact ⟨⟨fun j _ => rngF_le _ _, trivial⟩, trivial⟩
        · have h2 : er1 = 0 := neI_f.1 h2
          conv => cbv
          refine Br.mk (fun h3 => ?_) (fun h3 => ?_)
          · have h3 : k1 = 1 := eqI_t.1 h3
            conv => cbv
            refine ⟨_, _, _, LeOut2.imp (HImp.fold (S := wanSh ps.wanted) 12 [20] [.cells 93 [.slc 1 0 1 (.lit 0) (.ex wn) (.ex cw)], .cells 22 [.ints .u32 (.ex wn) wl, .junk 1 (.ex jw)]] (by decide) (by cbv) (.inr ⟨hwn, cw, by rw [hwl2, hwn2]; exact hcw, by rw [hwl2, hwn2, hjw]⟩)) (LeOut.mk' (List.range 19) (by decide) rfl (by decide) (by cbv) ?_).two, herr D3 D2 ps.wanted (by rw [hms hsee]; rw [if_pos (.inr (.inr (.inl h3)))])⟩
            conv => cbv
            exact ⟨⟨fun j _ => rngF_le _ _, trivial⟩, trivial⟩
          · have h3 : k1 ≠ 1 := eqI_f.1 h3
            conv => cbv
            refine Br.mk (fun h4 => ?_) (fun h4 => ?_)
            · have h4 : k1 = 2 := eqI_t.1 h4
              conv => cbv
              refine OkCall.by_spec (lies_spec n f f1 (hf1u h2) hbl) [0] (by decide) (by cbv) (by cbv) ?_
              conv => cbv
              refine Br.mk (fun h5 => ?_) (fun h5 => ?_)
              · have h5 : notB bl = true := h5
                rw [notB_eq, Bool.not_eq_true'] at h5
                have h6 : n ≤ f1 := by rw [h5] at hbl; have := of_decide_eq_false hbl.symm; omega
                conv => cbv
                refine ⟨_, _, _, LeOut2.imp (HImp.fold (S := wanSh ps.wanted) 12 [20] [.cells 93 [.slc 1 0 1 (.lit 0) (.ex wn) (.ex cw)], .cells 22 [.ints .u32 (.ex wn) wl, .junk 1 (.ex jw)]] (by decide) (by cbv) (.inr ⟨hwn, cw, by rw [hwl2, hwn2]; exact hcw, by rw [hwl2, hwn2, hjw]⟩)) (LeOut.mk' (List.range 19) (by decide) rfl (by decide) (by cbv) ?_).two, herr D3 D2 ps.wanted (by rw [hms hsee]; rw [if_pos (.inr (.inr (.inr ⟨h4, h6⟩)))])⟩
                conv => cbv
                exact ⟨⟨fun j _ => rngF_le _ _, trivial⟩, trivial⟩
              · have h5 : notB bl = false := h5
                rw [notB_eq, Bool.not_eq_false'] at h5
                have h6 : ¬ n ≤ f1 := by rw [h5] at hbl; have := of_decide_eq_true hbl.symm; omega
                have hcnd : ¬ (b1 = false ∨ er1 ≠ 0 ∨ k1 = 1 ∨ (k1 = 2 ∧ n ≤ f1)) := by
                  rintro (h | h | h | h)
                  · rw [h1] at h; cases h
                  · exact h h2
                  · exact h3 h
                  · exact h6 h.2
                conv => cbv
                refine Br.no (show eqI k1 0 = false from eqI_f.2 (by omega)) ?_
                conv => cbv
                refine XOpN.x (updateE hD2 mt114 ku27 rfl rfl rfl rfl first (fun ρ c h => den_i h) (.int .u32 t1) (fun ρ c h => by rw [← hsh h2]; exact den_i h) hD4 ?_)
                conv => cbv
                obtain ⟨jj, hjj⟩ := fA_putA (n := first) (v := Value.int .u32 t1) (L := ps.tabs)
                refine XOpN.x (lookupE hD4 mt114 ku27 rfl rfl rfl first (fun ρ c h => den_i h) (.i .u32 (.ex t1)) (fun ρ => by rw [hjj]; exact .i rfl) ?_)
                conv => cbv
                refine OkCall.by_spec (word_spec n f t1 second hn (ht1u h2) (by omega) ha2 hw2 hb2) [0] (by decide) (by cbv) (by cbv) ?_
                conv => cbv
                refine Br.mk (fun h7 => ?_) (fun h7 => ?_)
                · have h7 : w2 ≠ 0 := neI_t.1 h7
                  conv => cbv
                  refine ⟨_, _, _, LeOut2.imp (HImp.fold (S := wanSh ps.wanted) 12 [20] [.cells 93 [.slc 1 0 1 (.lit 0) (.ex wn) (.ex cw)], .cells 22 [.ints .u32 (.ex wn) wl, .junk 1 (.ex jw)]] (by decide) (by cbv) (.inr ⟨hwn, cw, by rw [hwl2, hwn2]; exact hcw, by rw [hwl2, hwn2, hjw]⟩)) (LeOut.mk' (List.range 19) (by decide) rfl (by decide) (by cbv) ?_).two, herr D3 D4 ps.wanted (by rw [hms hsee]; rw [if_neg hcnd, if_neg (by omega), if_pos h7])⟩
                  conv => cbv
                  exact ⟨⟨fun j _ => rngF_le _ _, trivial⟩, trivial⟩
                · have h7 : w2 = 0 := neI_f.1 h7
                  conv => cbv
                  refine ⟨_, _, _, LeOut2.imp (HImp.fold (S := wanSh ps.wanted) 12 [20] [.cells 93 [.slc 1 0 1 (.lit 0) (.ex wn) (.ex cw)], .cells 22 [.ints .u32 (.ex wn) wl, .junk 1 (.ex jw)]] (by decide) (by cbv) (.inr ⟨hwn, cw, by rw [hwl2, hwn2]; exact hcw, by rw [hwl2, hwn2, hjw]⟩)) (LeOut.mk' (List.range 19) (by decide) rfl (by decide) (by cbv) ?_).two, hok _ D3 D4 (by rw [hms hsee, if_neg hcnd, if_neg (by omega), if_neg (by simpa using h7)]) (hs3 hsee) hD4⟩
                  conv => cbv
                  exact ⟨⟨fun j _ => rngF_le _ _, trivial⟩, trivial⟩
            · have h4 : k1 ≠ 2 := eqI_f.1 h4
              have h0 : k1 = 0 := by rw [hk1]; rcases decK_cases w with h | h | h; exact h; exact absurd (hk1.trans h) h3; exact absurd (hk1.trans h) h4
              have hcnd : ¬ (b1 = false ∨ er1 ≠ 0 ∨ k1 = 1 ∨ (k1 = 2 ∧ n ≤ f1)) := by
                rintro (h | h | h | h)
                · rw [h1] at h; cases h
                · exact h h2
                · exact h3 h
                · exact h4 h.1
              conv => cbv
              refine Br.yes (show eqI k1 0 = true from eqI_t.2 h0) ?_
              conv => cbv
              refine OkCall.by_spec (contains_spec2 wl wn cw jw hwn2 (Nat.lt_trans hwl3 (by decide)) first (b := bc) (by rw [← hwl2]; exact hbc)) [20] (by decide) (by cbv) (by cbv) ?_
              conv => cbv
              refine Br.mk (fun h8 => ?_) (fun h8 => ?_)
              · have h8 : notB bc = true := h8
                rw [notB_eq, Bool.not_eq_true'] at h8
                have h9 : first ∉ ps.wanted := by rw [h8] at hbc; exact of_decide_eq_false hbc.symm
                conv => cbv
                refine ⟨by show eqN wn wn; rw [eqN_eq], by show eqN (addN wn jw) cw; rw [eqN_eq, addN_eq]; omega, by show apOk (addN wn 1) 4; rw [apOk_eq, addN_eq]; omega, AllN.mk fun cap1 hcap1 => ?_⟩
                have hcap1 : wn + 1 ≤ cap1 := by have h : addN wn 1 ≤ cap1 := hcap1; rw [addN_eq] at h; exact h
                conv => cbv
                refine ⟨_, _, _, LeOut2.imp (HImp.fold (S := wanSh wl3) 12 [27] [.cells 93 [.slc 1 0 1 (.lit 0) (.ex (wn + 1)) (.ex cap1)], .cells 22 [.ints .u32 (.ex (wn + 1)) wl3, .junk 1 (.ex (subN cap1 (addN wn 1)))]] (by decide) ?_ (.inr ⟨by rw [← hwl4]; simp, cap1, by rw [← hwl4]; simp [hwn2]; exact hcap1, by rw [← hwl4, subN_eq, addN_eq]; simp [hwn2]⟩)) (LeOut.mk' (List.range 19) (by decide) rfl (by decide) (by cbv) ?_).two, hok ⟨ps.seen ++ [(first, second)], ps.tabs, wl3⟩ D3 D2 (by rw [hms hsee, if_neg hcnd, if_pos h0, if_neg h9, hwl2, hwl4]) (hs3 hsee) hD2⟩
                · conv => cbv
                  have ea : addN wn 1 = wn + 1 := by rw [addN_eq]
                  refine ⟨⟨⟨ea.symm, trivial⟩, trivial⟩, ⟨⟨ea.symm, ?_⟩, trivial⟩, trivial⟩
                  show wl3 = appI wl [first]
                  rw [appI_eq, hwl4]
                · conv => cbv
                  exact ⟨⟨fun j _ => rngF_le _ _, trivial⟩, trivial⟩
              · have h8 : notB bc = false := h8
                rw [notB_eq, Bool.not_eq_false'] at h8
                have h9 : first ∈ ps.wanted := by rw [h8] at hbc; exact of_decide_eq_true hbc.symm
                conv => cbv
                refine ⟨_, _, _, LeOut2.imp (HImp.fold (S := wanSh ps.wanted) 12 [20] [.cells 93 [.slc 1 0 1 (.lit 0) (.ex wn) (.ex cw)], .cells 22 [.ints .u32 (.ex wn) wl, .junk 1 (.ex jw)]] (by decide) (by cbv) (.inr ⟨hwn, cw, by rw [hwl2, hwn2]; exact hcw, by rw [hwl2, hwn2, hjw]⟩)) (LeOut.mk' (List.range 19) (by decide) rfl (by decide) (by cbv) ?_).two, hok ⟨ps.seen ++ [(first, second)], ps.tabs, ps.wanted⟩ D3 D2 (by rw [hms hsee, if_neg hcnd, if_pos h0, if_pos h9]) (hs3 hsee) hD2⟩
                conv => cbv
                exact ⟨⟨fun j _ => rngF_le _ _, trivial⟩, trivial⟩
end Go.Proofs.YtafhmkedblpdlaaDoor
end

/-
  tlb: a TLB is a map of tags.
-/
section
namespace Go.Proofs.YtafhmkedblpdlaaDoor
open Go Go.Vex
set_option maxRecDepth 20000
set_option maxHeartbeats 4000000
/-- What stands under a tag: frame, permissions, when it was used. -/
def fndV (x : Int × Int × Int) : Value := .agg #[.int .u32 x.1, .int .u8 x.2.1, .int .u64 x.2.2]
/-- A TLB: tags (cell, page), and what stands under them. -/
abbrev TE := List ((Int × Int) × (Int × Int × Int))
abbrev tagV : Int × Int → Value := pairG .i64 .u32
def tlE (E : TE) : List (Value × Value) := entA tagV (vm fndV E)
theorem mt135t : MapT kit 135 148 174 ((Tryd.prog.underlying 148).getD (.int .u32)) (fndV (0, 0, 0)) := ⟨by rw [kit_P]; kernel_rfl, by rw [kit_P]; kernel_rfl, by rw [kit_P]; kernel_rfl⟩
theorem kt148 : KeyT kit 148 tagV := KeyT.pairG (f1 := fld 148 0) (f2 := fld 148 1) (by rw [kit_P]; kernel_rfl) (by rw [kit_P]; kernel_rfl) (by kernel_rfl) (by kernel_rfl) (k1 := .i64) (k2 := .u32) (by rw [kit_P]; kernel_rfl) (by rw [kit_P]; kernel_rfl) (by rw [kit_P]; kernel_rfl) (by rw [kit_P]; kernel_rfl)
theorem den_fnd {ρ : Rho} {a b u : S Int} {c : Value} (h : Den ρ (.agg [.i .u32 a, .i .u8 b, .i .u64 u]) c) : c = fndV (a.val, b.val, u.val) := by
  cases h with
  | agg vs hc hl =>
    subst hc
    obtain ⟨c1, c2, rfl, h1, h2⟩ := hl.of_cons
    obtain ⟨d1, d2, rfl, h3, h4⟩ := h2.of_cons
    obtain ⟨e1, e2, rfl, h5, h6⟩ := h4.of_cons
    obtain ⟨x, rfl, _, hx⟩ := h1.single rfl
    obtain ⟨y, rfl, _, hy⟩ := h3.single rfl
    obtain ⟨z, rfl, _, hz⟩ := h5.single rfl
    rw [h6.of_nil]
    cases hx with
    | i hx => cases hy with
      | i hy => cases hz with
        | i hz => subst hx hy hz; rfl
theorem fnd_den (ρ : Rho) (x : Int × Int × Int) : Den ρ (.agg [.i .u32 (.ex x.1), .i .u8 (.ex x.2.1), .i .u64 (.ex x.2.2)]) (fndV x) :=
  .agg _ rfl (.cons [_] _ rfl (.one _ rfl rfl (.i rfl)) (.cons [_] _ rfl (.one _ rfl rfl (.i rfl)) (.cons [_] [] rfl (.one _ rfl rfl (.i rfl)) (.nil rfl))))
/-- A TLB's resources. -/
noncomputable abbrev tlB (i : Nat) (sl now : Int) : Blk := .cells 138 [.i .i64 (.ex sl), .map i, .i .u64 (.ex now)]
noncomputable def Im73 : FnT := [(73, fi Tryd.f73 ⟨[], 0⟩)]
theorem Im73ok : FnsOk kit Im73 := ⟨fo73 _, trivial⟩
noncomputable def Im61 : FnT := [(61, fi Tryd.f61 ⟨[], 0⟩)]
theorem Im61ok : FnsOk kit Im61 := ⟨fo61 _, trivial⟩
theorem tuse_spec (sl now c p fr pm : Int) (E : TE) (hnow : 0 ≤ now ∧ now < 18446744073709551615) {now' : Int} (hn : now' = now + 1) {X X' : List (Value × Value)} (hX : X = tlE E) (hX' : X' = tlE (putP (c, p) (fr, pm, now') E)) :
    Spec1 kit 73 [.p 0 (.at 0), .agg [.i .i64 (.ex c), .i .u32 (.ex p)], .agg [.i .u32 (.ex fr), .i .u8 (.ex pm)]] [tlB 1 sl now, .abs (MP X)] false (.tup []) [tlB 1 sl now', .abs (MP X')] [] := by
  refine Spec1.mk2 rfl fun F => ?_
  refine into Im73ok 6 ?_
  conv => cbv
  have hadd : addI .u64 now 1 = now' := by rw [addI_eq, wrap_u64, hn]; omega
  refine updateE (E' := X') (hX.trans rfl) mt135t kt148 rfl rfl rfl rfl (c, p) (fun ρ c h => den_pairG h) (fndV (fr, pm, now')) (fun ρ c h => by rw [← hadd]; exact den_fnd h) (by rw [hX', tlE, putA_vm]) ?_
  conv => cbv
  refine (LeOut.mk' [0, 1, 2] (by decide) (by rfl) (by decide) (by cbv) ?_).two
  conv => cbv
  exact ⟨⟨hadd.symm, trivial⟩, trivial⟩
/-- Look: what stands under a tag. -/
theorem look_spec (sl now c p : Int) (E : TE) (hnow : 0 ≤ now ∧ now < 18446744073709551615) {is : Bool} {fr pm us now' : Int} {E' : TE} (hr : (match fP (c, p) E 0 with | some (_, x) => (true, x, now + 1, putP (c, p) (x.1, x.2.1, now + 1) E) | none => (false, (0, 0, 0), now, E)) = (is, (fr, pm, us), now', E')) {X X' : List (Value × Value)} (hX : X = tlE E) (hX' : X' = tlE E') :
    Spec1 kit 61 [.p 0 (.at 0), .agg [.i .i64 (.ex c), .i .u32 (.ex p)]] [tlB 1 sl now, .abs (MP X)] false (.tup [.agg [.i .u32 (.ex fr), .i .u8 (.ex pm)], .b (.ex is)]) [tlB 1 sl now', .abs (MP X')] [] := by
  refine Spec1.mk2 rfl fun F => ?_
  refine into Im61ok 6 ?_
  conv => cbv
  refine XOpR.lookupMP (L := vm fndV E) (hX.trans rfl) mt135t kt148 rfl rfl rfl (c, p) (fun ρ c h => den_pairG h) (.tup [.agg [.i .u32 (.ex fr), .i .u8 (.ex pm), .i .u64 (.ex us)], .b (.ex is)]) (fun ρ => ?_) ?_
  · rw [fA_vm]
    split at hr
    · rename_i i x hf
      simp only [Prod.mk.injEq] at hr
      obtain ⟨rfl, hx, _, _⟩ := hr
      rw [hf]
      simp only [Option.map_some, if_true]
      rw [hx]
      exact .tup _ rfl (.cons _ _ rfl (fnd_den ρ (fr, pm, us)) (.cons _ _ rfl (.b rfl) (.nil rfl)))
    · rename_i hf
      simp only [Prod.mk.injEq] at hr
      obtain ⟨rfl, hx, _, _⟩ := hr
      rw [hf]
      simp only [Option.map_none, if_true]
      obtain ⟨rfl, rfl, rfl⟩ := hx
      exact .tup _ rfl (.cons _ _ rfl (fnd_den ρ (0, 0, 0)) (.cons _ _ rfl (.b rfl) (.nil rfl)))
  conv => cbv
  refine Br.mk (fun h => ?_) (fun h => ?_)
  · have h : is = true := h
    have hE' : now' = now + 1 ∧ E' = putP (c, p) (fr, pm, now + 1) E := by
      split at hr
      · simp only [Prod.mk.injEq] at hr
        obtain ⟨_, rfl, h3, h4⟩ := hr
        exact ⟨h3.symm, h4.symm⟩
      · simp only [Prod.mk.injEq] at hr
        rw [h] at hr
        exact absurd hr.1 (by decide)
    conv => cbv
    refine OkCall.by_spec (tuse_spec sl now c p fr pm E hnow (now' := now') hE'.1 hX (X' := X') (by rw [hX', hE'.2, hE'.1])) [0, 1] (by decide) (by cbv) (by cbv) ?_
    conv => cbv
    refine (LeOut.mk' [0, 1, 2] (by decide) (by rfl) (by decide) (by cbv) (by cbv)).two
  · have h : is = false := h
    have hE' : now' = now ∧ E' = E := by
      split at hr
      · simp only [Prod.mk.injEq] at hr
        rw [h] at hr
        exact absurd hr.1 (by decide)
      · simp only [Prod.mk.injEq] at hr
        obtain ⟨_, _, h3, h4⟩ := hr
        exact ⟨h3.symm, h4.symm⟩
    obtain ⟨rfl, rfl⟩ := hE'
    rw [hX', ← hX]
    conv => cbv
    refine (LeOut.mk' [0, 1, 2] (by decide) (by rfl) (by decide) (by cbv) (by cbv)).two
noncomputable def O64 : Opt := ⟨[5002007, 2008002, 4008005], 0⟩
noncomputable def Im64 : FnT := [(64, fi Tryd.f64 O64)]
theorem Im64ok : FnsOk kit Im64 := ⟨foO O64 Tryd.func64 (by kernel_rfl) (by decide +kernel) (by kernel_rfl), trivial⟩
theorem u135 : kit.P.underlying 135 = some (.map 148 174) := by rw [kit_P]; kernel_rfl
/-- Put, where nothing must go for it. -/
theorem tput_room (sl now c p fr pm : Int) (E : TE) (hnow : 0 ≤ now ∧ now < 18446744073709551615) (hroom : fP (c, p) E 0 ≠ none ∨ (E.length : Int) ≠ sl) {now' : Int} (hn : now' = now + 1) {X X' : List (Value × Value)} (hX : X = tlE E) (hX' : X' = tlE (putP (c, p) (fr, pm, now') E)) :
    Spec1 kit 64 [.p 0 (.at 0), .agg [.i .i64 (.ex c), .i .u32 (.ex p)], .agg [.i .u32 (.ex fr), .i .u8 (.ex pm)]] [tlB 1 sl now, .abs (MP X)] false (.tup [.agg [.i .i64 (.lit 0), .i .u32 (.lit 0)], .b (.lit false)]) [tlB 1 sl now', .abs (MP X')] [] := by
  obtain ⟨is, fr0, pm0, us0, hl⟩ : ∃ is fr0 pm0 us0, (match fP (c, p) E 0 with | some (_, x) => (true, x) | none => (false, (0, 0, 0))) = (is, (fr0, pm0, us0)) := by
    cases fP (c, p) E 0 with
    | none => exact ⟨_, _, _, _, rfl⟩
    | some x => obtain ⟨i, a, b, c⟩ := x; exact ⟨_, _, _, _, rfl⟩
  obtain ⟨el, hel⟩ : ∃ x, x = E.length := ⟨_, rfl⟩
  refine Spec1.mk2 rfl fun F => ?_
  refine into Im64ok 6 ?_
  conv => cbv
  refine XOpR.lookupMP (L := vm fndV E) (hX.trans rfl) mt135t kt148 rfl rfl rfl (c, p) (fun ρ c h => den_pairG h) (.tup [.agg [.i .u32 (.ex fr0), .i .u8 (.ex pm0), .i .u64 (.ex us0)], .b (.ex is)]) (fun ρ => ?_) ?_
  · rw [fA_vm]
    split at hl
    · rename_i i x hf
      simp only [Prod.mk.injEq] at hl
      obtain ⟨rfl, hx⟩ := hl
      rw [hf]
      simp only [Option.map_some, if_true]
      rw [hx]
      exact .tup _ rfl (.cons _ _ rfl (fnd_den ρ (fr0, pm0, us0)) (.cons _ _ rfl (.b rfl) (.nil rfl)))
    · rename_i hf
      simp only [Prod.mk.injEq] at hl
      obtain ⟨rfl, hx⟩ := hl
      rw [hf]
      simp only [Option.map_none, if_true]
      obtain ⟨rfl, rfl, rfl⟩ := hx
      exact .tup _ rfl (.cons _ _ rfl (fnd_den ρ (0, 0, 0)) (.cons _ _ rfl (.b rfl) (.nil rfl)))
  conv => cbv
  refine Br.mk (fun h => ?_) (fun h => ?_)
  · have h : is = false := by have h : notB is = true := h; rw [notB_eq] at h; simpa using h
    have hne : (E.length : Int) ≠ sl := by
      rcases hroom with h1 | h1
      · cases hf : fP (c, p) E 0 with
        | none => exact absurd hf h1
        | some x =>
          rw [hf] at hl
          simp only [Prod.mk.injEq] at hl
          rw [h] at hl
          exact absurd hl.1 (by decide)
      · exact h1
    conv => cbv
    refine XOpR.lenMP u135 rfl rfl (.ex el) (by rw [hX, tlE, hel]; simp [entA, vm]) ?_
    conv => cbv
    refine Br.no (eqI_f.2 (by show (el : Int) ≠ sl; rw [hel]; exact hne)) ?_
    conv => cbv
    refine OkCall.by_spec (tuse_spec sl now c p fr pm E hnow (now' := now') hn hX (X' := X') hX') [0, 1] (by decide) (by cbv) (by cbv) ?_
    conv => cbv
    exact (LeOut.mk' [0, 1, 2] (by decide) (by rfl) (by decide) (by cbv) (by cbv)).two
  · have h : is = true := by have h : notB is = false := h; rw [notB_eq] at h; simpa using h
    conv => cbv
    refine OkCall.by_spec (tuse_spec sl now c p fr pm E hnow (now' := now') hn hX (X' := X') hX') [0, 1] (by decide) (by cbv) (by cbv) ?_
    conv => cbv
    exact (LeOut.mk' [0, 1, 2] (by decide) (by rfl) (by decide) (by cbv) (by cbv)).two
end Go.Proofs.YtafhmkedblpdlaaDoor
end

/-
  cache: an access.
-/
section
namespace Go.Proofs.YtafhmkedblpdlaaDoor
open Go Go.Vex
set_option maxRecDepth 20000
set_option maxHeartbeats 4000000
/-- A cache's lines: of each set, the one used last first: its tag, and whether it is dirty. -/
abbrev Ca := Nat → List (Int × Bool)
def tgs (C : Ca) (k : Nat) : List Int := (C k).map (·.1)
def dts (C : Ca) (k : Nat) : List Int := (C k).map fun x => if x.2 = true then 1 else 0
def mns (C : Ca) (k : Nat) : Int := (C k).length
noncomputable abbrev caC (S W L : Int) (C : Ca) : Blk := caB S W L (tgs C) (dts C) (mns C)
/-- A line of a set is used: hit, written back, cycles; the set. -/
def accL (W : Int) (l : List (Int × Bool)) (t : Int) (w : Bool) : (Bool × Bool × Int) × List (Int × Bool) :=
  let r := findR (l.map (·.1)) l.length t
  if 0 ≤ r then ((true, false, 1), (t, (l.getD r.toNat (0, false)).2 || w) :: (l.take r.toNat ++ l.drop (r.toNat + 1)))
  else if (l.length : Int) = W then ((false, (l.getD (l.length - 1) (0, false)).2, if (l.getD (l.length - 1) (0, false)).2 = true then 20 else 12), (t, w) :: l.take (l.length - 1))
  else ((false, false, 12), (t, w) :: l)
def accC (S W L : Int) (C : Ca) (addr : Int) (w : Bool) : (Bool × Bool × Int) × Ca :=
  let k := (addr / L % S).toNat
  let x := accL W (C k) (addr / L / S) w
  (x.1, fun j => if j = k then x.2 else C j)
theorem front_get {α : Type} {l : List α} {x d : α} {n j : Nat} (hn : n ≤ l.length) : (x :: (l.take n ++ l.drop (n + 1))).getD j d = if j = 0 then x else if j ≤ n then l.getD (j - 1) d else l.getD j d := by
  cases j with
  | zero => rfl
  | succ j =>
    rw [if_neg (by omega), List.getD_eq_getElem?_getD, List.getElem?_cons_succ, List.getD_eq_getElem?_getD, List.getD_eq_getElem?_getD]
    by_cases h : j + 1 ≤ n
    · rw [if_pos h, List.getElem?_append_left (by simp; omega), List.getElem?_take_of_lt (by omega), Nat.add_sub_cancel]
    · rw [if_neg h, List.getElem?_append_right (by simp; omega), List.getElem?_drop, List.length_take, Nat.min_eq_left hn, show n + 1 + (j - n) = j + 1 by omega]
theorem rowS_eq {T1 T2 D1 D2 : Nat → List Int} {M1 M2 : Nat → Int} {j : Nat} (hT : ∀ i, i < 8 → gi (T1 j) i = gi (T2 j) i) (hD : ∀ i, i < 8 → gi (D1 j) i = gi (D2 j) i) (hM : M1 j = M2 j) (τ : Nat → Nat) : leL (rowS T1 D1 M1 j) (renL τ (rowS T2 D2 M2 j)) := by
  refine ⟨⟨rfl, (hT 0 (by decide)).symm⟩, ?_, ⟨rfl, (hT 1 (by decide)).symm⟩, ?_, ⟨rfl, (hT 2 (by decide)).symm⟩, ?_, ⟨rfl, (hT 3 (by decide)).symm⟩, ?_, ⟨rfl, (hT 4 (by decide)).symm⟩, ?_, ⟨rfl, (hT 5 (by decide)).symm⟩, ?_, ⟨rfl, (hT 6 (by decide)).symm⟩, ?_, ⟨rfl, (hT 7 (by decide)).symm⟩, ?_, ⟨rfl, hM.symm⟩, trivial⟩
  · show eqI (gi (D2 j) 0) 1 = eqI (gi (D1 j) 0) 1
    rw [hD 0 (by decide)]
  · show eqI (gi (D2 j) 1) 1 = eqI (gi (D1 j) 1) 1
    rw [hD 1 (by decide)]
  · show eqI (gi (D2 j) 2) 1 = eqI (gi (D1 j) 2) 1
    rw [hD 2 (by decide)]
  · show eqI (gi (D2 j) 3) 1 = eqI (gi (D1 j) 3) 1
    rw [hD 3 (by decide)]
  · show eqI (gi (D2 j) 4) 1 = eqI (gi (D1 j) 4) 1
    rw [hD 4 (by decide)]
  · show eqI (gi (D2 j) 5) 1 = eqI (gi (D1 j) 5) 1
    rw [hD 5 (by decide)]
  · show eqI (gi (D2 j) 6) 1 = eqI (gi (D1 j) 6) 1
    rw [hD 6 (by decide)]
  · show eqI (gi (D2 j) 7) 1 = eqI (gi (D1 j) 7) 1
    rw [hD 7 (by decide)]
def b01 (d : Bool) : Int := if d = true then 1 else 0
/-- A line put ahead of the first n others of a set. -/
def putC (C : Ca) (k n : Nat) (x : Int × Bool) : Ca := fun j => if j = k then x :: ((C k).take n ++ (C k).drop (n + 1)) else C j
theorem putC_T {C : Ca} {k n : Nat} {t : Int} {d : Bool} (hn : n ≤ (C k).length) (j i : Nat) (hi : i < 8) : gi (atK (tgs C) k (frontL (tgs C k) n t) j) i = gi (tgs (putC C k n (t, d)) j) i := by
  unfold atK tgs putC
  by_cases e : j = k
  · rw [if_pos e, if_pos e, frontL_at hi, gi_eq, gi_eq, gi_eq, List.map_cons, List.map_append, List.map_take, List.map_drop]
    rw [front_get (l := (C k).map (·.1)) (by simpa using hn)]
  · rw [if_neg e, if_neg e]
theorem putC_D {C : Ca} {k n : Nat} {t : Int} {d : Bool} (hn : n ≤ (C k).length) (j i : Nat) (hi : i < 8) : gi (atK (dts C) k (frontL (dts C k) n (if d = true then 1 else 0)) j) i = gi (dts (putC C k n (t, d)) j) i := by
  unfold atK dts putC
  by_cases e : j = k
  · rw [if_pos e, if_pos e, frontL_at hi, gi_eq, gi_eq, gi_eq, List.map_cons, List.map_append, List.map_take, List.map_drop]
    rw [front_get (l := (C k).map fun x => if x.2 = true then 1 else 0) (by simpa using hn)]
  · rw [if_neg e, if_neg e]
noncomputable def Im50 : FnT := [(50, fi Tryd.f50 ⟨[1000010], 0⟩)]
theorem Im50ok : FnsOk kit Im50 := ⟨fo50 _, trivial⟩
theorem findR_lt {l : List Int} {m : Nat} {tag : Int} (h : 0 ≤ findR l m tag) : findR l m tag < m := by
  unfold findR at h ⊢
  split
  · rename_i j hj
    have := List.mem_range.1 (List.mem_of_find?_eq_some hj)
    omega
  · rename_i hj
    rw [hj] at h
    exact absurd h (by decide)
theorem accC_hit {S W L : Int} {C : Ca} {addr : Int} {w : Bool} {k : Nat} {t r : Int} (hk : k = (addr / L % S).toNat) (ht : t = addr / L / S) (hr : r = findR (tgs C k) (C k).length t) (h : 0 ≤ r) :
    accC S W L C addr w = ((true, false, 1), putC C k r.toNat (t, ((C k).getD r.toNat (0, false)).2 || w)) := by
  subst hk ht
  have e : r = findR ((C (addr / L % S).toNat).map (·.1)) (C (addr / L % S).toNat).length (addr / L / S) := hr
  unfold accC accL putC
  simp only
  rw [← e, if_pos h]
theorem accC_evict {S W L : Int} {C : Ca} {addr : Int} {w : Bool} {k : Nat} {t r : Int} (hk : k = (addr / L % S).toNat) (ht : t = addr / L / S) (hr : r = findR (tgs C k) (C k).length t) (h : r < 0) (hW : ((C k).length : Int) = W) (hp : 0 < (C k).length) {d : Bool} (hd : d = ((C k).getD ((C k).length - 1) (0, false)).2) :
    accC S W L C addr w = ((false, d, if d = true then 20 else 12), putC C k ((C k).length - 1) (t, w)) := by
  subst hk ht hd
  have e : r = findR ((C (addr / L % S).toNat).map (·.1)) (C (addr / L % S).toNat).length (addr / L / S) := hr
  unfold accC accL putC
  simp only
  rw [← e, if_neg (by omega), if_pos hW, show (C (addr / L % S).toNat).length - 1 + 1 = (C (addr / L % S).toNat).length by omega, List.drop_length, List.append_nil]
theorem accC_miss {S W L : Int} {C : Ca} {addr : Int} {w : Bool} {k : Nat} {t r : Int} (hk : k = (addr / L % S).toNat) (ht : t = addr / L / S) (hr : r = findR (tgs C k) (C k).length t) (h : r < 0) (hW : ((C k).length : Int) ≠ W) :
    accC S W L C addr w = ((false, false, 12), putC C k (C k).length (t, w)) := by
  subst hk ht
  have e : r = findR ((C (addr / L % S).toNat).map (·.1)) (C (addr / L % S).toNat).length (addr / L / S) := hr
  unfold accC accL putC
  simp only
  rw [← e, if_neg (by omega), if_neg hW, List.take_length, List.drop_of_length_le (by omega), List.append_nil]
theorem putC_M {C : Ca} {k n : Nat} {x : Int × Bool} (hn : n ≤ (C k).length) (j : Nat) : mns (putC C k n x) j = if j = k then (if n = (C k).length then (n : Int) + 1 else (C k).length) else mns C j := by
  unfold mns putC
  by_cases e : j = k
  · rw [if_pos e, if_pos e]
    simp only [List.length_cons, List.length_append, List.length_take, List.length_drop]
    split <;> omega
  · rw [if_neg e, if_neg e]
theorem dirt_at {C : Ca} {k i : Nat} : eqI (gi (dts C k) i) 1 = ((C k).getD i (0, false)).2 := by
  rw [eqI_eq, gi_eq, dts, List.getD_eq_getElem?_getD, List.getD_eq_getElem?_getD, List.getElem?_map]
  cases (C k)[i]? with
  | none => rfl
  | some x => obtain ⟨t, d⟩ := x; cases d <;> rfl
theorem access_spec (a b : Nat) (S W L addr : Int) (w : Bool) (C : Ca) (ha : a ≤ 8) (hb : b ≤ 8) (hS : S = 2 ^ a) (hL : L = 2 ^ b) (hW : 1 ≤ W ∧ W ≤ 8) (had : 0 ≤ addr ∧ addr < 4294967296) (hC : ∀ k, ((C k).length : Int) ≤ W)
    {hit back : Bool} {cy : Int} {C' : Ca} (hr : ((hit, back, cy), C') = accC S W L C addr w) :
    Spec1 kit 50 [.p 0 (.at 0), .i .u32 (.ex addr), .b (.ex w)] [caC S W L C, tzB] false (.agg [.b (.ex hit), .b (.ex back), .i .i64 (.ex cy)]) [caC S W L C', tzB] [] := by
  obtain ⟨kI, hkI⟩ : ∃ x, x = addr / L % S := ⟨_, rfl⟩
  obtain ⟨t, ht⟩ : ∃ x, x = addr / L / S := ⟨_, rfl⟩
  have hk : toN kI = kI.toNat := toN_eq _
  have hSb : 1 ≤ S ∧ S ≤ 256 := by
    rw [hS]
    match a, ha with
    | 0, _ => decide
    | 1, _ => decide
    | 2, _ => decide
    | 3, _ => decide
    | 4, _ => decide
    | 5, _ => decide
    | 6, _ => decide
    | 7, _ => decide
    | 8, _ => decide
  have hkb : 0 ≤ kI ∧ kI < S := by rw [hkI]; exact ⟨Int.emod_nonneg _ (by omega), Int.emod_lt_of_pos _ (by omega)⟩
  have hk256 : toN kI < 256 := by rw [hk]; omega
  obtain ⟨T, hT⟩ : ∃ x, x = tgs C := ⟨_, rfl⟩
  obtain ⟨D, hD⟩ : ∃ x, x = dts C := ⟨_, rfl⟩
  obtain ⟨M, hM⟩ : ∃ x, x = mns C := ⟨_, rfl⟩
  obtain ⟨T', hT'⟩ : ∃ x, x = tgs C' := ⟨_, rfl⟩
  obtain ⟨D', hD'⟩ : ∃ x, x = dts C' := ⟨_, rfl⟩
  obtain ⟨M', hM'⟩ : ∃ x, x = mns C' := ⟨_, rfl⟩
  obtain ⟨m, hm⟩ : ∃ x, x = (C (toN kI)).length := ⟨_, rfl⟩
  have hMk : M (toN kI) = m := by rw [hM, hm]; rfl
  have hmW : (m : Int) ≤ W := by rw [hm]; exact hC _
  obtain ⟨dl, hdl⟩ : ∃ x, x = ((C (toN kI)).getD (m - 1) (0, false)).2 := ⟨_, rfl⟩
  obtain ⟨r, hr0⟩ : ∃ x, x = findR (T (toN kI)) m t := ⟨_, rfl⟩
  have hrC : r = findR (tgs C (toN kI)) (C (toN kI)).length t := by rw [hr0, hT, hm]
  have hkC : toN kI = (addr / L % S).toNat := by rw [hk, hkI]
  obtain ⟨n, hn⟩ : ∃ x : Nat, x = if 0 ≤ r then r.toNat else if (m : Int) = W then m - 1 else m := ⟨_, rfl⟩
  obtain ⟨T2, hT2⟩ : ∃ x, x = atK T (toN kI) (frontL (T (toN kI)) n t) := ⟨_, rfl⟩
  obtain ⟨D2, hD2⟩ : ∃ x, x = atK D (toN kI) (frontL (D (toN kI)) n (if w = true then 1 else 0)) := ⟨_, rfl⟩
  obtain ⟨D3, hD3⟩ : ∃ x, x = atK D (toN kI) (frontL (D (toN kI)) n (if true = true then 1 else 0)) := ⟨_, rfl⟩
  show Spec1 kit 50 [.p 0 (.at 0), .i .u32 (.ex addr), .b (.ex w)] [caB S W L (tgs C) (dts C) (mns C), tzB] false (.agg [.b (.ex hit), .b (.ex back), .i .i64 (.ex cy)]) [caB S W L (tgs C') (dts C') (mns C'), tzB] []
  rw [← hT, ← hD, ← hM, ← hT', ← hD', ← hM']
  refine Spec1.mk2 rfl fun F => ?_
  refine into Im50ok 6 ?_
  conv => cbv
  refine OkCall.by_spec (place_spec' a b S W L addr ha hb hS hL had hkI ht) [1] (by decide) (by cbv) (by cbv) ?_
  conv => cbv
  refine ⟨inR.mk (by omega) (by omega), ?_⟩
  refine OkCall.by_spec (find_spec S W L T D M (toN kI) m t hk256 hMk (by omega) hr0) [0] (by decide) (by cbv) ?_ ?_
  · conv => cbv
    exact ⟨⟨fun j _ => rowS_le _ _ _ _ _, trivial⟩, trivial⟩
  conv => cbv
  refine Br.mk (fun h1 => ?_) (fun h1 => ?_)
  · have h1 : 0 ≤ r := leI_t.1 h1
    have h2 : r < m := by rw [hr0] at h1 ⊢; exact findR_lt h1
    have hm8 : m ≤ 8 := by omega
    conv => cbv
    refine ⟨inR.mk h1 (by omega), AllN.mk fun q _ hq => ?_⟩
    have hq : q = r.toNat := by rw [← toN_eq]; exact hq.symm
    have hq8 : q < 8 := by omega
    have hnr : n = r.toNat := by rw [hn, if_pos h1]
    have hacc := accC_hit (W := W) (w := w) hkC ht hrC h1
    rw [← hr] at hacc
    simp only [Prod.mk.injEq] at hacc
    obtain ⟨⟨rfl, rfl, rfl⟩, hC'⟩ := hacc
    have hfin : ∀ (dd : Bool) (Dx : Nat → List Int), dd = (((C (toN kI)).getD r.toNat (0, false)).2 || w) → Dx = atK D (toN kI) (frontL (D (toN kI)) n (if dd = true then 1 else 0)) → ∀ (τ : Nat → Nat) (j : Nat), leL (rowS T2 Dx M j) (renL τ (rowS T' D' M' j)) := fun dd Dx hdd hDx τ j => by
      have hnl : n ≤ (C (toN kI)).length := by omega
      refine rowS_eq (fun i hi => ?_) (fun i hi => ?_) ?_ τ
      · rw [hT2, hT', hC', ← hdd, hT, ← hnr]; exact putC_T hnl j i hi
      · rw [hDx, hD', hC', ← hdd, hD, ← hnr]; exact putC_D hnl j i hi
      · rw [hM', hC', putC_M (by omega), hM]
        by_cases e : j = toN kI
        · rw [if_pos e, if_neg (by omega), e]; rfl
        · rw [if_neg e]
    match q, hq8 with
    | 0, _ =>
      conv => cbv
      refine ⟨nLt.mk hk256, Br.mk (fun hb => ?_) (fun hb => ?_)⟩
      · have hb : ((C (toN kI)).getD 0 (0, false)).2 = true := by rw [← dirt_at, ← hD]; exact hb
        conv => cbv
        refine OkCall.by_spec (front_spec S W L T D M (toN kI) n t true r hk256 (by omega) (by omega) hT2 hD3) [0] (by decide) ?_ ?_ ?_
        · conv => cbv
          trivial
        · conv => cbv
          exact ⟨⟨fun j _ => rowS_le _ _ _ _ _, trivial⟩, trivial⟩
        conv => cbv
        refine (LeOut.mk' [0, 1, 2] (by decide) (by rfl) (by decide) (by cbv) ?_).two
        conv => cbv
        exact ⟨⟨fun j _ => hfin true D3 (by rw [← hq, hb]; rfl) hD3 _ j, trivial⟩, trivial⟩
      · have hb : ((C (toN kI)).getD 0 (0, false)).2 = false := by rw [← dirt_at, ← hD]; exact hb
        conv => cbv
        refine OkCall.by_spec (front_spec S W L T D M (toN kI) n t w r hk256 (by omega) (by omega) hT2 hD2) [0] (by decide) ?_ ?_ ?_
        · conv => cbv
          trivial
        · conv => cbv
          exact ⟨⟨fun j _ => rowS_le _ _ _ _ _, trivial⟩, trivial⟩
        conv => cbv
        refine (LeOut.mk' [0, 1, 2] (by decide) (by rfl) (by decide) (by cbv) ?_).two
        conv => cbv
        exact ⟨⟨fun j _ => hfin w D2 (by rw [← hq, hb]; rfl) hD2 _ j, trivial⟩, trivial⟩
    | 1, _ =>
      conv => cbv
      refine ⟨nLt.mk hk256, Br.mk (fun hb => ?_) (fun hb => ?_)⟩
      · have hb : ((C (toN kI)).getD 1 (0, false)).2 = true := by rw [← dirt_at, ← hD]; exact hb
        conv => cbv
        refine OkCall.by_spec (front_spec S W L T D M (toN kI) n t true r hk256 (by omega) (by omega) hT2 hD3) [0] (by decide) ?_ ?_ ?_
        · conv => cbv
          trivial
        · conv => cbv
          exact ⟨⟨fun j _ => rowS_le _ _ _ _ _, trivial⟩, trivial⟩
        conv => cbv
        refine (LeOut.mk' [0, 1, 2] (by decide) (by rfl) (by decide) (by cbv) ?_).two
        conv => cbv
        exact ⟨⟨fun j _ => hfin true D3 (by rw [← hq, hb]; rfl) hD3 _ j, trivial⟩, trivial⟩
      · have hb : ((C (toN kI)).getD 1 (0, false)).2 = false := by rw [← dirt_at, ← hD]; exact hb
        conv => cbv
        refine OkCall.by_spec (front_spec S W L T D M (toN kI) n t w r hk256 (by omega) (by omega) hT2 hD2) [0] (by decide) ?_ ?_ ?_
        · conv => cbv
          trivial
        · conv => cbv
          exact ⟨⟨fun j _ => rowS_le _ _ _ _ _, trivial⟩, trivial⟩
        conv => cbv
        refine (LeOut.mk' [0, 1, 2] (by decide) (by rfl) (by decide) (by cbv) ?_).two
        conv => cbv
        exact ⟨⟨fun j _ => hfin w D2 (by rw [← hq, hb]; rfl) hD2 _ j, trivial⟩, trivial⟩
    | 2, _ =>
      conv => cbv
      refine ⟨nLt.mk hk256, Br.mk (fun hb => ?_) (fun hb => ?_)⟩
      · have hb : ((C (toN kI)).getD 2 (0, false)).2 = true := by rw [← dirt_at, ← hD]; exact hb
        conv => cbv
        refine OkCall.by_spec (front_spec S W L T D M (toN kI) n t true r hk256 (by omega) (by omega) hT2 hD3) [0] (by decide) ?_ ?_ ?_
        · conv => cbv
          trivial
        · conv => cbv
          exact ⟨⟨fun j _ => rowS_le _ _ _ _ _, trivial⟩, trivial⟩
        conv => cbv
        refine (LeOut.mk' [0, 1, 2] (by decide) (by rfl) (by decide) (by cbv) ?_).two
        conv => cbv
        exact ⟨⟨fun j _ => hfin true D3 (by rw [← hq, hb]; rfl) hD3 _ j, trivial⟩, trivial⟩
      · have hb : ((C (toN kI)).getD 2 (0, false)).2 = false := by rw [← dirt_at, ← hD]; exact hb
        conv => cbv
        refine OkCall.by_spec (front_spec S W L T D M (toN kI) n t w r hk256 (by omega) (by omega) hT2 hD2) [0] (by decide) ?_ ?_ ?_
        · conv => cbv
          trivial
        · conv => cbv
          exact ⟨⟨fun j _ => rowS_le _ _ _ _ _, trivial⟩, trivial⟩
        conv => cbv
        refine (LeOut.mk' [0, 1, 2] (by decide) (by rfl) (by decide) (by cbv) ?_).two
        conv => cbv
        exact ⟨⟨fun j _ => hfin w D2 (by rw [← hq, hb]; rfl) hD2 _ j, trivial⟩, trivial⟩
    | 3, _ =>
      conv => cbv
      refine ⟨nLt.mk hk256, Br.mk (fun hb => ?_) (fun hb => ?_)⟩
      · have hb : ((C (toN kI)).getD 3 (0, false)).2 = true := by rw [← dirt_at, ← hD]; exact hb
        conv => cbv
        refine OkCall.by_spec (front_spec S W L T D M (toN kI) n t true r hk256 (by omega) (by omega) hT2 hD3) [0] (by decide) ?_ ?_ ?_
        · conv => cbv
          trivial
        · conv => cbv
          exact ⟨⟨fun j _ => rowS_le _ _ _ _ _, trivial⟩, trivial⟩
        conv => cbv
        refine (LeOut.mk' [0, 1, 2] (by decide) (by rfl) (by decide) (by cbv) ?_).two
        conv => cbv
        exact ⟨⟨fun j _ => hfin true D3 (by rw [← hq, hb]; rfl) hD3 _ j, trivial⟩, trivial⟩
      · have hb : ((C (toN kI)).getD 3 (0, false)).2 = false := by rw [← dirt_at, ← hD]; exact hb
        conv => cbv
        refine OkCall.by_spec (front_spec S W L T D M (toN kI) n t w r hk256 (by omega) (by omega) hT2 hD2) [0] (by decide) ?_ ?_ ?_
        · conv => cbv
          trivial
        · conv => cbv
          exact ⟨⟨fun j _ => rowS_le _ _ _ _ _, trivial⟩, trivial⟩
        conv => cbv
        refine (LeOut.mk' [0, 1, 2] (by decide) (by rfl) (by decide) (by cbv) ?_).two
        conv => cbv
        exact ⟨⟨fun j _ => hfin w D2 (by rw [← hq, hb]; rfl) hD2 _ j, trivial⟩, trivial⟩
    | 4, _ =>
      conv => cbv
      refine ⟨nLt.mk hk256, Br.mk (fun hb => ?_) (fun hb => ?_)⟩
      · have hb : ((C (toN kI)).getD 4 (0, false)).2 = true := by rw [← dirt_at, ← hD]; exact hb
        conv => cbv
        refine OkCall.by_spec (front_spec S W L T D M (toN kI) n t true r hk256 (by omega) (by omega) hT2 hD3) [0] (by decide) ?_ ?_ ?_
        · conv => cbv
          trivial
        · conv => cbv
          exact ⟨⟨fun j _ => rowS_le _ _ _ _ _, trivial⟩, trivial⟩
        conv => cbv
        refine (LeOut.mk' [0, 1, 2] (by decide) (by rfl) (by decide) (by cbv) ?_).two
        conv => cbv
        exact ⟨⟨fun j _ => hfin true D3 (by rw [← hq, hb]; rfl) hD3 _ j, trivial⟩, trivial⟩
      · have hb : ((C (toN kI)).getD 4 (0, false)).2 = false := by rw [← dirt_at, ← hD]; exact hb
        conv => cbv
        refine OkCall.by_spec (front_spec S W L T D M (toN kI) n t w r hk256 (by omega) (by omega) hT2 hD2) [0] (by decide) ?_ ?_ ?_
        · conv => cbv
          trivial
        · conv => cbv
          exact ⟨⟨fun j _ => rowS_le _ _ _ _ _, trivial⟩, trivial⟩
        conv => cbv
        refine (LeOut.mk' [0, 1, 2] (by decide) (by rfl) (by decide) (by cbv) ?_).two
        conv => cbv
        exact ⟨⟨fun j _ => hfin w D2 (by rw [← hq, hb]; rfl) hD2 _ j, trivial⟩, trivial⟩
    | 5, _ =>
      conv => cbv
      refine ⟨nLt.mk hk256, Br.mk (fun hb => ?_) (fun hb => ?_)⟩
      · have hb : ((C (toN kI)).getD 5 (0, false)).2 = true := by rw [← dirt_at, ← hD]; exact hb
        conv => cbv
        refine OkCall.by_spec (front_spec S W L T D M (toN kI) n t true r hk256 (by omega) (by omega) hT2 hD3) [0] (by decide) ?_ ?_ ?_
        · conv => cbv
          trivial
        · conv => cbv
          exact ⟨⟨fun j _ => rowS_le _ _ _ _ _, trivial⟩, trivial⟩
        conv => cbv
        refine (LeOut.mk' [0, 1, 2] (by decide) (by rfl) (by decide) (by cbv) ?_).two
        conv => cbv
        exact ⟨⟨fun j _ => hfin true D3 (by rw [← hq, hb]; rfl) hD3 _ j, trivial⟩, trivial⟩
      · have hb : ((C (toN kI)).getD 5 (0, false)).2 = false := by rw [← dirt_at, ← hD]; exact hb
        conv => cbv
        refine OkCall.by_spec (front_spec S W L T D M (toN kI) n t w r hk256 (by omega) (by omega) hT2 hD2) [0] (by decide) ?_ ?_ ?_
        · conv => cbv
          trivial
        · conv => cbv
          exact ⟨⟨fun j _ => rowS_le _ _ _ _ _, trivial⟩, trivial⟩
        conv => cbv
        refine (LeOut.mk' [0, 1, 2] (by decide) (by rfl) (by decide) (by cbv) ?_).two
        conv => cbv
        exact ⟨⟨fun j _ => hfin w D2 (by rw [← hq, hb]; rfl) hD2 _ j, trivial⟩, trivial⟩
    | 6, _ =>
      conv => cbv
      refine ⟨nLt.mk hk256, Br.mk (fun hb => ?_) (fun hb => ?_)⟩
      · have hb : ((C (toN kI)).getD 6 (0, false)).2 = true := by rw [← dirt_at, ← hD]; exact hb
        conv => cbv
        refine OkCall.by_spec (front_spec S W L T D M (toN kI) n t true r hk256 (by omega) (by omega) hT2 hD3) [0] (by decide) ?_ ?_ ?_
        · conv => cbv
          trivial
        · conv => cbv
          exact ⟨⟨fun j _ => rowS_le _ _ _ _ _, trivial⟩, trivial⟩
        conv => cbv
        refine (LeOut.mk' [0, 1, 2] (by decide) (by rfl) (by decide) (by cbv) ?_).two
        conv => cbv
        exact ⟨⟨fun j _ => hfin true D3 (by rw [← hq, hb]; rfl) hD3 _ j, trivial⟩, trivial⟩
      · have hb : ((C (toN kI)).getD 6 (0, false)).2 = false := by rw [← dirt_at, ← hD]; exact hb
        conv => cbv
        refine OkCall.by_spec (front_spec S W L T D M (toN kI) n t w r hk256 (by omega) (by omega) hT2 hD2) [0] (by decide) ?_ ?_ ?_
        · conv => cbv
          trivial
        · conv => cbv
          exact ⟨⟨fun j _ => rowS_le _ _ _ _ _, trivial⟩, trivial⟩
        conv => cbv
        refine (LeOut.mk' [0, 1, 2] (by decide) (by rfl) (by decide) (by cbv) ?_).two
        conv => cbv
        exact ⟨⟨fun j _ => hfin w D2 (by rw [← hq, hb]; rfl) hD2 _ j, trivial⟩, trivial⟩
    | 7, _ =>
      conv => cbv
      refine ⟨nLt.mk hk256, Br.mk (fun hb => ?_) (fun hb => ?_)⟩
      · have hb : ((C (toN kI)).getD 7 (0, false)).2 = true := by rw [← dirt_at, ← hD]; exact hb
        conv => cbv
        refine OkCall.by_spec (front_spec S W L T D M (toN kI) n t true r hk256 (by omega) (by omega) hT2 hD3) [0] (by decide) ?_ ?_ ?_
        · conv => cbv
          trivial
        · conv => cbv
          exact ⟨⟨fun j _ => rowS_le _ _ _ _ _, trivial⟩, trivial⟩
        conv => cbv
        refine (LeOut.mk' [0, 1, 2] (by decide) (by rfl) (by decide) (by cbv) ?_).two
        conv => cbv
        exact ⟨⟨fun j _ => hfin true D3 (by rw [← hq, hb]; rfl) hD3 _ j, trivial⟩, trivial⟩
      · have hb : ((C (toN kI)).getD 7 (0, false)).2 = false := by rw [← dirt_at, ← hD]; exact hb
        conv => cbv
        refine OkCall.by_spec (front_spec S W L T D M (toN kI) n t w r hk256 (by omega) (by omega) hT2 hD2) [0] (by decide) ?_ ?_ ?_
        · conv => cbv
          trivial
        · conv => cbv
          exact ⟨⟨fun j _ => rowS_le _ _ _ _ _, trivial⟩, trivial⟩
        conv => cbv
        refine (LeOut.mk' [0, 1, 2] (by decide) (by rfl) (by decide) (by cbv) ?_).two
        conv => cbv
        exact ⟨⟨fun j _ => hfin w D2 (by rw [← hq, hb]; rfl) hD2 _ j, trivial⟩, trivial⟩
  · have h1 : r < 0 := leI_f.1 h1
    conv => cbv
    refine ⟨nLt.mk hk256, Br.mk (fun h2 => ?_) (fun h2 => ?_)⟩
    · have h2 : (m : Int) = W := by have h : M (toN kI) = W := eqI_t.1 h2; rw [← hMk]; exact h
      have hnm : n = m - 1 := by rw [hn, if_neg (by omega), if_pos h2]
      obtain ⟨M2, hM2⟩ : ∃ x : Nat → Int, x = fun j => if j = toN kI then M (toN kI) - 1 else M j := ⟨_, rfl⟩
      have hM2k : M2 (toN kI) = n := by rw [hM2]; simp only [if_true]; rw [hMk]; omega
      conv => cbv
      refine ⟨nLt.mk hk256, nLt.mk hk256, ?_⟩
      have hdl' : dl = ((C (toN kI)).getD ((C (toN kI)).length - 1) (0, false)).2 := by rw [hdl, hm]
      have hacc := accC_evict (W := W) (w := w) hkC ht hrC h1 (by rw [← hm]; exact h2) (by omega) hdl'
      rw [← hr] at hacc
      simp only [Prod.mk.injEq] at hacc
      obtain ⟨⟨rfl, hbk, hcy⟩, hC'⟩ := hacc
      rw [← hm, ← hnm] at hC'
      rw [← hnm] at hdl
      have hnl : n ≤ (C (toN kI)).length := by omega
      have hfin : ∀ (x : Int), x = M2 (toN kI) + 1 → ∀ (τ : Nat → Nat) (j : Nat), leL (rowS T2 D2 (fun _ => x) (toN kI)) (renL τ (rowS T' D' M' (toN kI))) ∧ (j ≠ toN kI → leL (rowS T2 D2 M2 j) (renL τ (rowS T' D' M' j))) := fun x hx τ j => by
        have ht2 : ∀ j i, i < 8 → gi (T2 j) i = gi (T' j) i := fun j i hi => by rw [hT2, hT', hC', hT]; exact putC_T hnl j i hi
        have hd2 : ∀ j i, i < 8 → gi (D2 j) i = gi (D' j) i := fun j i hi => by rw [hD2, hD', hC', hD]; exact putC_D hnl j i hi
        refine ⟨rowS_eq (ht2 _) (hd2 _) ?_ τ, fun e => rowS_eq (ht2 _) (hd2 _) ?_ τ⟩
        · rw [hM', hC', putC_M hnl, if_pos rfl, if_neg (by omega)]; show x = _; omega
        · rw [hM', hC', putC_M hnl, if_neg e, hM2]; simp only [if_neg e]; rw [hM]
      refine Ok.weak (q' := false) (st' := ⟨[(0, .p 0 (.at 0)), (2, .b (.ex w)), (6, .p 3 (.at 0)), (8, .i .u32 (.ex t)), (9, .p 0 (.row 3 (toN kI) 17 0)), (11, .p 4 (.at 0))], [caB S W L T D M2, tzB, .abs F, .cells 124 [.b (.lit false), .b (.lit false), .i .i64 (.lit 0)], .cells 124 [.b (.lit false), .b (.lit false), .i .i64 (.lit 12)]]⟩) (LeSt.mk' [0, 1, 2, 3, 6] (by decide) (by rfl) (by decide) (by cbv) ?_) ?_
      · conv => cbv
        refine ⟨⟨fun j _ => upd_leL (fun e => ?_) (fun e => ?_), trivial⟩, trivial⟩
        · subst e
          show leL (rowS T D (fun _ => subI .i64 (M (toN kI)) 1) (toN kI)) (renL _ (rowS T D M2 (toN kI)))
          exact rowS_eq (fun _ _ => rfl) (fun _ _ => rfl) (by show subI .i64 (M (toN kI)) 1 = _; rw [hM2k, hMk, subI_eq, IntWalk.i64_in _ (by omega)]; omega) _
        · show leL (rowS T D M j) (renL _ (rowS T D M2 j))
          exact rowS_eq (fun _ _ => rfl) (fun _ _ => rfl) (by have e : j ≠ toN kI := e; rw [hM2]; show M j = if j = toN kI then _ else M j; rw [if_neg e]) _
      refine kcode Im50ok 6 ⟨[], 0⟩ (by kernel_rfl) ?_
      conv => cbv
      refine ⟨nLt.mk hk256, inR.mk (by show 0 ≤ M2 (toN kI); rw [hM2k]; omega) (by show M2 (toN kI) < ((8 : Nat) : Int); rw [hM2k]; omega), AllN.mk fun q _ hq => ?_⟩
      have hq : q = n := by have h : toN (M2 (toN kI)) = q := hq; rw [toN_eq, hM2k] at h; omega
      have hq8 : q < 8 := by omega
      match q, hq8 with
      | 0, _ =>
        conv => cbv
        refine ⟨nLt.mk hk256, Br.mk (fun hb => ?_) (fun hb => ?_)⟩
        · have hb : dl = true := by rw [hdl, ← hq, ← dirt_at, ← hD]; exact hb
          conv => cbv
          refine ⟨nLt.mk hk256, OkCall.by_spec (front_spec S W L T D M2 (toN kI) n t w (M2 (toN kI)) hk256 (by omega) hM2k hT2 hD2) [0] (by decide) ?_ ?_ ?_⟩
          · conv => cbv
            trivial
          · conv => cbv
            exact ⟨⟨fun j _ => rowS_le _ _ _ _ _, trivial⟩, trivial⟩
          conv => cbv
          refine ⟨nLt.mk hk256, nLt.mk hk256, (LeOut.mk' [0, 1, 2] (by decide) (by rfl) (by decide) ?_ ?_).two⟩
          · conv => cbv
            exact ⟨hbk.trans hb, hcy.trans (by rw [hb]; rfl), trivial⟩
          · conv => cbv
            refine ⟨⟨fun j _ => upd_leL (fun e => ?_) (fun e => ?_), trivial⟩, trivial⟩
            · subst e
              exact (hfin (addI .i64 (M2 (toN kI)) 1) (by rw [addI_eq, IntWalk.i64_in _ (by omega)]) _ 0).1
            · exact (hfin (M2 (toN kI) + 1) rfl _ j).2 e
        · have hb : dl = false := by rw [hdl, ← hq, ← dirt_at, ← hD]; exact hb
          conv => cbv
          refine ⟨nLt.mk hk256, OkCall.by_spec (front_spec S W L T D M2 (toN kI) n t w (M2 (toN kI)) hk256 (by omega) hM2k hT2 hD2) [0] (by decide) ?_ ?_ ?_⟩
          · conv => cbv
            trivial
          · conv => cbv
            exact ⟨⟨fun j _ => rowS_le _ _ _ _ _, trivial⟩, trivial⟩
          conv => cbv
          refine ⟨nLt.mk hk256, nLt.mk hk256, (LeOut.mk' [0, 1, 2] (by decide) (by rfl) (by decide) ?_ ?_).two⟩
          · conv => cbv
            exact ⟨hbk.trans hb, hcy.trans (by rw [hb]; rfl), trivial⟩
          · conv => cbv
            refine ⟨⟨fun j _ => upd_leL (fun e => ?_) (fun e => ?_), trivial⟩, trivial⟩
            · subst e
              exact (hfin (addI .i64 (M2 (toN kI)) 1) (by rw [addI_eq, IntWalk.i64_in _ (by omega)]) _ 0).1
            · exact (hfin (M2 (toN kI) + 1) rfl _ j).2 e
      | 1, _ =>
        conv => cbv
        refine ⟨nLt.mk hk256, Br.mk (fun hb => ?_) (fun hb => ?_)⟩
        · have hb : dl = true := by rw [hdl, ← hq, ← dirt_at, ← hD]; exact hb
          conv => cbv
          refine ⟨nLt.mk hk256, OkCall.by_spec (front_spec S W L T D M2 (toN kI) n t w (M2 (toN kI)) hk256 (by omega) hM2k hT2 hD2) [0] (by decide) ?_ ?_ ?_⟩
          · conv => cbv
            trivial
          · conv => cbv
            exact ⟨⟨fun j _ => rowS_le _ _ _ _ _, trivial⟩, trivial⟩
          conv => cbv
          refine ⟨nLt.mk hk256, nLt.mk hk256, (LeOut.mk' [0, 1, 2] (by decide) (by rfl) (by decide) ?_ ?_).two⟩
          · conv => cbv
            exact ⟨hbk.trans hb, hcy.trans (by rw [hb]; rfl), trivial⟩
          · conv => cbv
            refine ⟨⟨fun j _ => upd_leL (fun e => ?_) (fun e => ?_), trivial⟩, trivial⟩
            · subst e
              exact (hfin (addI .i64 (M2 (toN kI)) 1) (by rw [addI_eq, IntWalk.i64_in _ (by omega)]) _ 0).1
            · exact (hfin (M2 (toN kI) + 1) rfl _ j).2 e
        · have hb : dl = false := by rw [hdl, ← hq, ← dirt_at, ← hD]; exact hb
          conv => cbv
          refine ⟨nLt.mk hk256, OkCall.by_spec (front_spec S W L T D M2 (toN kI) n t w (M2 (toN kI)) hk256 (by omega) hM2k hT2 hD2) [0] (by decide) ?_ ?_ ?_⟩
          · conv => cbv
            trivial
          · conv => cbv
            exact ⟨⟨fun j _ => rowS_le _ _ _ _ _, trivial⟩, trivial⟩
          conv => cbv
          refine ⟨nLt.mk hk256, nLt.mk hk256, (LeOut.mk' [0, 1, 2] (by decide) (by rfl) (by decide) ?_ ?_).two⟩
          · conv => cbv
            exact ⟨hbk.trans hb, hcy.trans (by rw [hb]; rfl), trivial⟩
          · conv => cbv
            refine ⟨⟨fun j _ => upd_leL (fun e => ?_) (fun e => ?_), trivial⟩, trivial⟩
            · subst e
              exact (hfin (addI .i64 (M2 (toN kI)) 1) (by rw [addI_eq, IntWalk.i64_in _ (by omega)]) _ 0).1
            · exact (hfin (M2 (toN kI) + 1) rfl _ j).2 e
      | 2, _ =>
        conv => cbv
        refine ⟨nLt.mk hk256, Br.mk (fun hb => ?_) (fun hb => ?_)⟩
        · have hb : dl = true := by rw [hdl, ← hq, ← dirt_at, ← hD]; exact hb
          conv => cbv
          refine ⟨nLt.mk hk256, OkCall.by_spec (front_spec S W L T D M2 (toN kI) n t w (M2 (toN kI)) hk256 (by omega) hM2k hT2 hD2) [0] (by decide) ?_ ?_ ?_⟩
          · conv => cbv
            trivial
          · conv => cbv
            exact ⟨⟨fun j _ => rowS_le _ _ _ _ _, trivial⟩, trivial⟩
          conv => cbv
          refine ⟨nLt.mk hk256, nLt.mk hk256, (LeOut.mk' [0, 1, 2] (by decide) (by rfl) (by decide) ?_ ?_).two⟩
          · conv => cbv
            exact ⟨hbk.trans hb, hcy.trans (by rw [hb]; rfl), trivial⟩
          · conv => cbv
            refine ⟨⟨fun j _ => upd_leL (fun e => ?_) (fun e => ?_), trivial⟩, trivial⟩
            · subst e
              exact (hfin (addI .i64 (M2 (toN kI)) 1) (by rw [addI_eq, IntWalk.i64_in _ (by omega)]) _ 0).1
            · exact (hfin (M2 (toN kI) + 1) rfl _ j).2 e
        · have hb : dl = false := by rw [hdl, ← hq, ← dirt_at, ← hD]; exact hb
          conv => cbv
          refine ⟨nLt.mk hk256, OkCall.by_spec (front_spec S W L T D M2 (toN kI) n t w (M2 (toN kI)) hk256 (by omega) hM2k hT2 hD2) [0] (by decide) ?_ ?_ ?_⟩
          · conv => cbv
            trivial
          · conv => cbv
            exact ⟨⟨fun j _ => rowS_le _ _ _ _ _, trivial⟩, trivial⟩
          conv => cbv
          refine ⟨nLt.mk hk256, nLt.mk hk256, (LeOut.mk' [0, 1, 2] (by decide) (by rfl) (by decide) ?_ ?_).two⟩
          · conv => cbv
            exact ⟨hbk.trans hb, hcy.trans (by rw [hb]; rfl), trivial⟩
          · conv => cbv
            refine ⟨⟨fun j _ => upd_leL (fun e => ?_) (fun e => ?_), trivial⟩, trivial⟩
            · subst e
              exact (hfin (addI .i64 (M2 (toN kI)) 1) (by rw [addI_eq, IntWalk.i64_in _ (by omega)]) _ 0).1
            · exact (hfin (M2 (toN kI) + 1) rfl _ j).2 e
      | 3, _ =>
        conv => cbv
        refine ⟨nLt.mk hk256, Br.mk (fun hb => ?_) (fun hb => ?_)⟩
        · have hb : dl = true := by rw [hdl, ← hq, ← dirt_at, ← hD]; exact hb
          conv => cbv
          refine ⟨nLt.mk hk256, OkCall.by_spec (front_spec S W L T D M2 (toN kI) n t w (M2 (toN kI)) hk256 (by omega) hM2k hT2 hD2) [0] (by decide) ?_ ?_ ?_⟩
          · conv => cbv
            trivial
          · conv => cbv
            exact ⟨⟨fun j _ => rowS_le _ _ _ _ _, trivial⟩, trivial⟩
          conv => cbv
          refine ⟨nLt.mk hk256, nLt.mk hk256, (LeOut.mk' [0, 1, 2] (by decide) (by rfl) (by decide) ?_ ?_).two⟩
          · conv => cbv
            exact ⟨hbk.trans hb, hcy.trans (by rw [hb]; rfl), trivial⟩
          · conv => cbv
            refine ⟨⟨fun j _ => upd_leL (fun e => ?_) (fun e => ?_), trivial⟩, trivial⟩
            · subst e
              exact (hfin (addI .i64 (M2 (toN kI)) 1) (by rw [addI_eq, IntWalk.i64_in _ (by omega)]) _ 0).1
            · exact (hfin (M2 (toN kI) + 1) rfl _ j).2 e
        · have hb : dl = false := by rw [hdl, ← hq, ← dirt_at, ← hD]; exact hb
          conv => cbv
          refine ⟨nLt.mk hk256, OkCall.by_spec (front_spec S W L T D M2 (toN kI) n t w (M2 (toN kI)) hk256 (by omega) hM2k hT2 hD2) [0] (by decide) ?_ ?_ ?_⟩
          · conv => cbv
            trivial
          · conv => cbv
            exact ⟨⟨fun j _ => rowS_le _ _ _ _ _, trivial⟩, trivial⟩
          conv => cbv
          refine ⟨nLt.mk hk256, nLt.mk hk256, (LeOut.mk' [0, 1, 2] (by decide) (by rfl) (by decide) ?_ ?_).two⟩
          · conv => cbv
            exact ⟨hbk.trans hb, hcy.trans (by rw [hb]; rfl), trivial⟩
          · conv => cbv
            refine ⟨⟨fun j _ => upd_leL (fun e => ?_) (fun e => ?_), trivial⟩, trivial⟩
            · subst e
              exact (hfin (addI .i64 (M2 (toN kI)) 1) (by rw [addI_eq, IntWalk.i64_in _ (by omega)]) _ 0).1
            · exact (hfin (M2 (toN kI) + 1) rfl _ j).2 e
      | 4, _ =>
        conv => cbv
        refine ⟨nLt.mk hk256, Br.mk (fun hb => ?_) (fun hb => ?_)⟩
        · have hb : dl = true := by rw [hdl, ← hq, ← dirt_at, ← hD]; exact hb
          conv => cbv
          refine ⟨nLt.mk hk256, OkCall.by_spec (front_spec S W L T D M2 (toN kI) n t w (M2 (toN kI)) hk256 (by omega) hM2k hT2 hD2) [0] (by decide) ?_ ?_ ?_⟩
          · conv => cbv
            trivial
          · conv => cbv
            exact ⟨⟨fun j _ => rowS_le _ _ _ _ _, trivial⟩, trivial⟩
          conv => cbv
          refine ⟨nLt.mk hk256, nLt.mk hk256, (LeOut.mk' [0, 1, 2] (by decide) (by rfl) (by decide) ?_ ?_).two⟩
          · conv => cbv
            exact ⟨hbk.trans hb, hcy.trans (by rw [hb]; rfl), trivial⟩
          · conv => cbv
            refine ⟨⟨fun j _ => upd_leL (fun e => ?_) (fun e => ?_), trivial⟩, trivial⟩
            · subst e
              exact (hfin (addI .i64 (M2 (toN kI)) 1) (by rw [addI_eq, IntWalk.i64_in _ (by omega)]) _ 0).1
            · exact (hfin (M2 (toN kI) + 1) rfl _ j).2 e
        · have hb : dl = false := by rw [hdl, ← hq, ← dirt_at, ← hD]; exact hb
          conv => cbv
          refine ⟨nLt.mk hk256, OkCall.by_spec (front_spec S W L T D M2 (toN kI) n t w (M2 (toN kI)) hk256 (by omega) hM2k hT2 hD2) [0] (by decide) ?_ ?_ ?_⟩
          · conv => cbv
            trivial
          · conv => cbv
            exact ⟨⟨fun j _ => rowS_le _ _ _ _ _, trivial⟩, trivial⟩
          conv => cbv
          refine ⟨nLt.mk hk256, nLt.mk hk256, (LeOut.mk' [0, 1, 2] (by decide) (by rfl) (by decide) ?_ ?_).two⟩
          · conv => cbv
            exact ⟨hbk.trans hb, hcy.trans (by rw [hb]; rfl), trivial⟩
          · conv => cbv
            refine ⟨⟨fun j _ => upd_leL (fun e => ?_) (fun e => ?_), trivial⟩, trivial⟩
            · subst e
              exact (hfin (addI .i64 (M2 (toN kI)) 1) (by rw [addI_eq, IntWalk.i64_in _ (by omega)]) _ 0).1
            · exact (hfin (M2 (toN kI) + 1) rfl _ j).2 e
      | 5, _ =>
        conv => cbv
        refine ⟨nLt.mk hk256, Br.mk (fun hb => ?_) (fun hb => ?_)⟩
        · have hb : dl = true := by rw [hdl, ← hq, ← dirt_at, ← hD]; exact hb
          conv => cbv
          refine ⟨nLt.mk hk256, OkCall.by_spec (front_spec S W L T D M2 (toN kI) n t w (M2 (toN kI)) hk256 (by omega) hM2k hT2 hD2) [0] (by decide) ?_ ?_ ?_⟩
          · conv => cbv
            trivial
          · conv => cbv
            exact ⟨⟨fun j _ => rowS_le _ _ _ _ _, trivial⟩, trivial⟩
          conv => cbv
          refine ⟨nLt.mk hk256, nLt.mk hk256, (LeOut.mk' [0, 1, 2] (by decide) (by rfl) (by decide) ?_ ?_).two⟩
          · conv => cbv
            exact ⟨hbk.trans hb, hcy.trans (by rw [hb]; rfl), trivial⟩
          · conv => cbv
            refine ⟨⟨fun j _ => upd_leL (fun e => ?_) (fun e => ?_), trivial⟩, trivial⟩
            · subst e
              exact (hfin (addI .i64 (M2 (toN kI)) 1) (by rw [addI_eq, IntWalk.i64_in _ (by omega)]) _ 0).1
            · exact (hfin (M2 (toN kI) + 1) rfl _ j).2 e
        · have hb : dl = false := by rw [hdl, ← hq, ← dirt_at, ← hD]; exact hb
          conv => cbv
          refine ⟨nLt.mk hk256, OkCall.by_spec (front_spec S W L T D M2 (toN kI) n t w (M2 (toN kI)) hk256 (by omega) hM2k hT2 hD2) [0] (by decide) ?_ ?_ ?_⟩
          · conv => cbv
            trivial
          · conv => cbv
            exact ⟨⟨fun j _ => rowS_le _ _ _ _ _, trivial⟩, trivial⟩
          conv => cbv
          refine ⟨nLt.mk hk256, nLt.mk hk256, (LeOut.mk' [0, 1, 2] (by decide) (by rfl) (by decide) ?_ ?_).two⟩
          · conv => cbv
            exact ⟨hbk.trans hb, hcy.trans (by rw [hb]; rfl), trivial⟩
          · conv => cbv
            refine ⟨⟨fun j _ => upd_leL (fun e => ?_) (fun e => ?_), trivial⟩, trivial⟩
            · subst e
              exact (hfin (addI .i64 (M2 (toN kI)) 1) (by rw [addI_eq, IntWalk.i64_in _ (by omega)]) _ 0).1
            · exact (hfin (M2 (toN kI) + 1) rfl _ j).2 e
      | 6, _ =>
        conv => cbv
        refine ⟨nLt.mk hk256, Br.mk (fun hb => ?_) (fun hb => ?_)⟩
        · have hb : dl = true := by rw [hdl, ← hq, ← dirt_at, ← hD]; exact hb
          conv => cbv
          refine ⟨nLt.mk hk256, OkCall.by_spec (front_spec S W L T D M2 (toN kI) n t w (M2 (toN kI)) hk256 (by omega) hM2k hT2 hD2) [0] (by decide) ?_ ?_ ?_⟩
          · conv => cbv
            trivial
          · conv => cbv
            exact ⟨⟨fun j _ => rowS_le _ _ _ _ _, trivial⟩, trivial⟩
          conv => cbv
          refine ⟨nLt.mk hk256, nLt.mk hk256, (LeOut.mk' [0, 1, 2] (by decide) (by rfl) (by decide) ?_ ?_).two⟩
          · conv => cbv
            exact ⟨hbk.trans hb, hcy.trans (by rw [hb]; rfl), trivial⟩
          · conv => cbv
            refine ⟨⟨fun j _ => upd_leL (fun e => ?_) (fun e => ?_), trivial⟩, trivial⟩
            · subst e
              exact (hfin (addI .i64 (M2 (toN kI)) 1) (by rw [addI_eq, IntWalk.i64_in _ (by omega)]) _ 0).1
            · exact (hfin (M2 (toN kI) + 1) rfl _ j).2 e
        · have hb : dl = false := by rw [hdl, ← hq, ← dirt_at, ← hD]; exact hb
          conv => cbv
          refine ⟨nLt.mk hk256, OkCall.by_spec (front_spec S W L T D M2 (toN kI) n t w (M2 (toN kI)) hk256 (by omega) hM2k hT2 hD2) [0] (by decide) ?_ ?_ ?_⟩
          · conv => cbv
            trivial
          · conv => cbv
            exact ⟨⟨fun j _ => rowS_le _ _ _ _ _, trivial⟩, trivial⟩
          conv => cbv
          refine ⟨nLt.mk hk256, nLt.mk hk256, (LeOut.mk' [0, 1, 2] (by decide) (by rfl) (by decide) ?_ ?_).two⟩
          · conv => cbv
            exact ⟨hbk.trans hb, hcy.trans (by rw [hb]; rfl), trivial⟩
          · conv => cbv
            refine ⟨⟨fun j _ => upd_leL (fun e => ?_) (fun e => ?_), trivial⟩, trivial⟩
            · subst e
              exact (hfin (addI .i64 (M2 (toN kI)) 1) (by rw [addI_eq, IntWalk.i64_in _ (by omega)]) _ 0).1
            · exact (hfin (M2 (toN kI) + 1) rfl _ j).2 e
      | 7, _ =>
        conv => cbv
        refine ⟨nLt.mk hk256, Br.mk (fun hb => ?_) (fun hb => ?_)⟩
        · have hb : dl = true := by rw [hdl, ← hq, ← dirt_at, ← hD]; exact hb
          conv => cbv
          refine ⟨nLt.mk hk256, OkCall.by_spec (front_spec S W L T D M2 (toN kI) n t w (M2 (toN kI)) hk256 (by omega) hM2k hT2 hD2) [0] (by decide) ?_ ?_ ?_⟩
          · conv => cbv
            trivial
          · conv => cbv
            exact ⟨⟨fun j _ => rowS_le _ _ _ _ _, trivial⟩, trivial⟩
          conv => cbv
          refine ⟨nLt.mk hk256, nLt.mk hk256, (LeOut.mk' [0, 1, 2] (by decide) (by rfl) (by decide) ?_ ?_).two⟩
          · conv => cbv
            exact ⟨hbk.trans hb, hcy.trans (by rw [hb]; rfl), trivial⟩
          · conv => cbv
            refine ⟨⟨fun j _ => upd_leL (fun e => ?_) (fun e => ?_), trivial⟩, trivial⟩
            · subst e
              exact (hfin (addI .i64 (M2 (toN kI)) 1) (by rw [addI_eq, IntWalk.i64_in _ (by omega)]) _ 0).1
            · exact (hfin (M2 (toN kI) + 1) rfl _ j).2 e
        · have hb : dl = false := by rw [hdl, ← hq, ← dirt_at, ← hD]; exact hb
          conv => cbv
          refine ⟨nLt.mk hk256, OkCall.by_spec (front_spec S W L T D M2 (toN kI) n t w (M2 (toN kI)) hk256 (by omega) hM2k hT2 hD2) [0] (by decide) ?_ ?_ ?_⟩
          · conv => cbv
            trivial
          · conv => cbv
            exact ⟨⟨fun j _ => rowS_le _ _ _ _ _, trivial⟩, trivial⟩
          conv => cbv
          refine ⟨nLt.mk hk256, nLt.mk hk256, (LeOut.mk' [0, 1, 2] (by decide) (by rfl) (by decide) ?_ ?_).two⟩
          · conv => cbv
            exact ⟨hbk.trans hb, hcy.trans (by rw [hb]; rfl), trivial⟩
          · conv => cbv
            refine ⟨⟨fun j _ => upd_leL (fun e => ?_) (fun e => ?_), trivial⟩, trivial⟩
            · subst e
              exact (hfin (addI .i64 (M2 (toN kI)) 1) (by rw [addI_eq, IntWalk.i64_in _ (by omega)]) _ 0).1
            · exact (hfin (M2 (toN kI) + 1) rfl _ j).2 e
    · have h2 : (m : Int) ≠ W := by have h : M (toN kI) ≠ W := eqI_f.1 h2; rw [← hMk]; exact h
      have hnm : n = m := by rw [hn, if_neg (by omega), if_neg h2]
      have hacc := accC_miss (W := W) (w := w) hkC ht hrC h1 (by rw [← hm]; exact h2)
      rw [← hr] at hacc
      simp only [Prod.mk.injEq] at hacc
      obtain ⟨⟨rfl, rfl, rfl⟩, hC'⟩ := hacc
      rw [← hm, ← hnm] at hC'
      have hnl : n ≤ (C (toN kI)).length := by omega
      have ht2 : ∀ j i, i < 8 → gi (T2 j) i = gi (T' j) i := fun j i hi => by rw [hT2, hT', hC', hT]; exact putC_T hnl j i hi
      have hd2 : ∀ j i, i < 8 → gi (D2 j) i = gi (D' j) i := fun j i hi => by rw [hD2, hD', hC', hD]; exact putC_D hnl j i hi
      conv => cbv
      refine ⟨nLt.mk hk256, OkCall.by_spec (front_spec S W L T D M (toN kI) n t w (M (toN kI)) hk256 (by omega) (by rw [hMk, hnm]) hT2 hD2) [0] (by decide) ?_ ?_ ?_⟩
      · conv => cbv
        trivial
      · conv => cbv
        exact ⟨⟨fun j _ => rowS_le _ _ _ _ _, trivial⟩, trivial⟩
      conv => cbv
      refine ⟨nLt.mk hk256, nLt.mk hk256, (LeOut.mk' [0, 1, 2] (by decide) (by rfl) (by decide) (by cbv) ?_).two⟩
      conv => cbv
      refine ⟨⟨fun j _ => upd_leL (fun e => ?_) (fun e => ?_), trivial⟩, trivial⟩
      · subst e
        show leL (rowS T2 D2 (fun _ => addI .i64 (M (toN kI)) 1) (toN kI)) (renL _ (rowS T' D' M' (toN kI)))
        refine rowS_eq (ht2 _) (hd2 _) ?_ _
        show addI .i64 (M (toN kI)) 1 = _
        rw [hM', hC', putC_M hnl, if_pos rfl, if_pos (by omega), hMk, addI_eq, IntWalk.i64_in _ (by omega)]; omega
      · show leL (rowS T2 D2 M j) (renL _ (rowS T' D' M' j))
        refine rowS_eq (ht2 _) (hd2 _) ?_ _
        have e : j ≠ toN kI := e
        rw [hM', hC', putC_M hnl, if_neg e, hM]
end Go.Proofs.YtafhmkedblpdlaaDoor
end

/-
  cache: a new one.
-/
section
namespace Go.Proofs.YtafhmkedblpdlaaDoor
open Go Go.Vex
set_option maxRecDepth 20000
set_option maxHeartbeats 4000000
noncomputable def Im24 : FnT := [(24, fi Tryd.f24 ⟨[], 0⟩), (51, fi Tryd.f51 ⟨[], 0⟩), (68, fi Tryd.f68 ⟨[], 0⟩)]
theorem Im24ok : FnsOk kit Im24 := ⟨fo24 _, fo51 _, fo68 _, trivial⟩
theorem cnew_spec (a b : Nat) (S W L : Int) (ha : a ≤ 8) (hb : 4 ≤ b ∧ b ≤ 8) (hS : S = 2 ^ a) (hL : L = 2 ^ b) (hW : 1 ≤ W ∧ W ≤ 8) :
    Spec1 kit 24 [.agg [.i .i64 (.ex S), .i .i64 (.ex W), .i .i64 (.ex L)]] [] false (.tup [.p 1 (.at 0), .i .i64 (.lit 0)]) [] [caC S W L (fun _ => [])] := by
  refine Spec1.mk2 rfl fun F => ?_
  refine into Im24ok 6 ?_
  conv => cbv
  have h2 : ∀ n : Nat, n ≤ 8 → (1 : Int) ≤ 2 ^ n ∧ (2 : Int) ^ n ≤ 256 := fun n hn => by
    match n, hn with
    | 0, _ => decide
    | 1, _ => decide
    | 2, _ => decide
    | 3, _ => decide
    | 4, _ => decide
    | 5, _ => decide
    | 6, _ => decide
    | 7, _ => decide
    | 8, _ => decide
  have hpow : ∀ n : Nat, n ≤ 8 → andI .i64 (2 ^ n) (subI .i64 (2 ^ n) 1) = 0 := fun n hn => by
    have := h2 n hn
    rw [subI_eq, IntWalk.i64_in _ (by omega), mask_i64 n (by omega) (by omega) (by omega)]
    exact Int.emod_self
  have hSb := h2 a ha
  have hLb := h2 b hb.2
  rw [← hS] at hSb
  rw [← hL] at hLb
  have hL16 : 16 ≤ L := by
    rw [hL]
    match b, hb with
    | 4, _ => decide
    | 5, _ => decide
    | 6, _ => decide
    | 7, _ => decide
    | 8, _ => decide
  refine Br.yes (leI_t.2 hSb.1) ?_
  conv => cbv
  refine Br.yes (leI_t.2 hSb.2) ?_
  conv => cbv
  refine Br.yes (eqI_t.2 (by show andI .i64 S (subI .i64 S 1) = 0; rw [hS]; exact hpow a ha)) ?_
  conv => cbv
  refine Br.yes (leI_t.2 hW.1) ?_
  conv => cbv
  refine Br.yes (leI_t.2 hW.2) ?_
  conv => cbv
  refine Br.yes (leI_t.2 hL16) ?_
  conv => cbv
  refine Br.yes (leI_t.2 hLb.2) ?_
  conv => cbv
  refine Br.no (by show notB (eqI (andI .i64 L (subI .i64 L 1)) 0) = false; rw [hL, hpow b hb.2, eqI_t.2 rfl, notB_eq]; rfl) ?_
  conv => cbv
  refine (LeOut.mk' [0, 3] (by decide) (by rfl) (by decide) (by cbv) ?_).two
  conv => cbv
  have e0 : ∀ i, gi [] i = 0 := fun i => by rw [gi_eq]; rfl
  have ef : ∀ i, eqI (gi [] i) 1 = false := fun i => by rw [e0]; exact eqI_f.2 (by decide)
  refine ⟨⟨fun j _ => ⟨⟨rfl, e0 0⟩, ef 0, ⟨rfl, e0 1⟩, ef 1, ⟨rfl, e0 2⟩, ef 2, ⟨rfl, e0 3⟩, ef 3, ⟨rfl, e0 4⟩, ef 4, ⟨rfl, e0 5⟩, ef 5, ⟨rfl, e0 6⟩, ef 6, ⟨rfl, e0 7⟩, ef 7, ⟨rfl, rfl⟩, trivial⟩, trivial⟩, trivial⟩
end Go.Proofs.YtafhmkedblpdlaaDoor
end

/-
  tables.Map: from the first pass on: what is there, the second pass.
-/
section
namespace Go.Proofs.YtafhmkedblpdlaaDoor
open Go Go.Vex
set_option maxRecDepth 20000
set_option maxHeartbeats 4000000
noncomputable def O17 : Opt := ⟨[1000024, 2031000, 3031006, 4031011], 0⟩
noncomputable def O17b : Opt := ⟨[2031000, 3031006, 4031011], 0⟩
noncomputable def O17c : Opt := ⟨[1000028, 2031000, 3031006, 4031011], 0⟩
noncomputable def I17 : FnT := [(15, fi Tryd.f15 O17), (33, fi Tryd.f33 ⟨[], 0⟩), (34, fi Tryd.f34 ⟨[], 0⟩), (39, fi Tryd.f39 ⟨[], 0⟩), (40, fi Tryd.f40 ⟨[], 0⟩)]
theorem fo15 : FnOk kit 15 (fi Tryd.f15 O17) := foO O17 Tryd.func15 (by kernel_rfl) (by decide +kernel) (by kernel_rfl)
theorem I17ok : FnsOk kit I17 := ⟨fo15, fo33 _, fo34 _, fo39 _, fo40 _, trivial⟩
noncomputable def c24 : Code := (codeAt 24 (Tryd.f15.body.getD .skip)).getD .skip
theorem nil_ints (T : TypeId) (k : IntKind) : ∀ ρ w, BSat ρ none ⟨[], []⟩ w (.cells T [.ints k (.ex 0) [], .junk 1 (.ex 0)]) := fun ρ w =>
  ⟨[], .cons [] [] rfl (.ints rfl rfl) (.cons [] [] rfl (.junk (by simp) (by simp)) (.nil rfl)), .inl ⟨rfl, rfl, rfl⟩⟩
/-- The arena's next page becomes a table. -/
structure MS where
  f : Int → Int
  taken : Int
  tabs : List (Int × Value)
def tkStep (n base root : Int) (s : MS) (x : Int) : MS :=
  ⟨layF n (zeroF s.f (base + 4096 * s.taken)) root x 2 0 ((base + 4096 * s.taken) / 4096), s.taken + 1, putA x (.int .u32 (base + 4096 * s.taken)) s.tabs⟩
def tabOf (tabs : List (Int × Value)) (x : Int) : Int := match fA x tabs 0 with
  | some (_, .int _ z) => z
  | _ => 0
abbrev PgE := (Int × Int) × (Int × Int)
def lyStep (n : Int) (tabs : List (Int × Value)) (f : Int → Int) (x : PgE) : Int → Int := layF n f (tabOf tabs x.1.1) x.1.2 1 x.2.1 x.2.2
def pgE (L : Rgs) (i j : Nat) : PgE := (pgOf L i j, (L.P.getD i 0, L.PH.getD i 0 / 4096 + j))
def rgE (L : Rgs) (i k : Nat) : List PgE := (List.range k).map (pgE L i)
def allE (L : Rgs) (i : Nat) : List PgE := (List.range i).flatMap fun a => rgE L a (L.G.getD a 0).toNat
def TabsOk (tabs : List (Int × Value)) : Prop := ∀ x ∈ tabs, ∃ z, x.2 = .int .u32 z ∧ 0 ≤ z ∧ z < 4294967296
theorem TabsOk.put {tabs : List (Int × Value)} (h : TabsOk tabs) (x z : Int) (hz : 0 ≤ z ∧ z < 4294967296) : TabsOk (putA x (.int .u32 z) tabs) := by
  intro y hy
  unfold putA at hy
  split at hy
  · rcases List.mem_or_eq_of_mem_set hy with hy | rfl
    · exact h y hy
    · exact ⟨z, rfl, hz⟩
  · rcases List.mem_append.1 hy with hy | hy
    · exact h y hy
    · simp only [List.mem_singleton] at hy; subst hy; exact ⟨z, rfl, hz⟩
theorem TabsOk.of {tabs : List (Int × Value)} (h : TabsOk tabs) (x : Int) : (∃ j, fA x tabs 0 = some (j, .int .u32 (tabOf tabs x))) ∨ (fA x tabs 0 = none ∧ tabOf tabs x = 0) := by
  cases hf : fA x tabs 0 with
  | none => exact .inr ⟨rfl, by rw [tabOf, hf]⟩
  | some y =>
    obtain ⟨j, v⟩ := y
    obtain ⟨_, h2⟩ := fA_some hf
    obtain ⟨z, h3, _⟩ := h _ (List.mem_of_getElem? h2)
    simp only at h3
    subst h3
    exact .inl ⟨j, by rw [tabOf, hf]⟩
theorem TabsOk.u {tabs : List (Int × Value)} (h : TabsOk tabs) (x : Int) : 0 ≤ tabOf tabs x ∧ tabOf tabs x < 4294967296 := by
  cases hf : fA x tabs 0 with
  | none => rw [tabOf, hf]; decide
  | some y =>
    obtain ⟨j, v⟩ := y
    obtain ⟨_, h2⟩ := fA_some hf
    obtain ⟨z, h3, h4⟩ := h _ (List.mem_of_getElem? h2)
    simp only at h3
    subst h3
    rw [tabOf, hf]; exact h4
theorem tk_taken (n base root : Int) : ∀ (l : List Int) (s : MS), (l.foldl (tkStep n base root) s).taken = s.taken + l.length
  | [], s => by simp
  | x :: r, s => by simp only [List.foldl_cons, tk_taken n base root r, tkStep, List.length_cons]; omega
noncomputable def c28 : Code := (codeAt 28 (Tryd.f15.body.getD .skip)).getD .skip
noncomputable def c34 : Code := (codeAt 34 (Tryd.f15.body.getD .skip)).getD .skip
noncomputable def O17d : Opt := ⟨[1000034, 2031000, 3031006, 4031011], 0⟩
theorem lookupER {C : Kit} {fr : Fr} {hp : List Blk} {K : SV → Prop} {t : Nat} {m k : Operand} {x : Nat} {kS : SV} {E : List (Value × Value)} {L : List (Int × Value)} (hE : E = entA (Value.int .u32) L) (hT : MapT C t 22 22 (.int .u32) (.int .u32 0)) (hK : KeyT C 22 (Value.int .u32)) (hL : TabsOk L)
    (em : ev fr hp m = some (.map x)) (ek : ev fr hp k = some kS) (hx : hp[x]? = some (.abs (MP E))) (n : Int) (hn : ∀ ρ c, Den ρ kS c → c = .int .u32 n) {z : Int} (hz : z = tabOf L n) (hk : K (.i .u32 (.ex z))) : XOpR C (.lookup t m k false) fr hp K := by
  refine XOpR.lookupMP hE hT hK em ek hx n hn (.i .u32 (.ex z)) (fun ρ => ?_) hk
  rcases hL.of n with ⟨j, hj⟩ | ⟨h0, h1⟩
  · rw [hj, hz]; exact .i rfl
  · rw [h0, hz, h1]; exact .i rfl
theorem lookupEN {C : Kit} {fr : Fr} {hp : List Blk} {K : SV → List Blk → Prop} {t : Nat} {m k : Operand} {x : Nat} {kS : SV} {E : List (Value × Value)} {L : List (Int × Value)} (hE : E = entA (Value.int .u32) L) (hT : MapT C t 22 22 (.int .u32) (.int .u32 0)) (hK : KeyT C 22 (Value.int .u32)) (hL : TabsOk L)
    (em : ev fr hp m = some (.map x)) (ek : ev fr hp k = some kS) (hx : hp[x]? = some (.abs (MP E))) (n : Int) (hn : ∀ ρ c, Den ρ kS c → c = .int .u32 n) {z : Int} (hz : z = tabOf L n) (hk : K (.i .u32 (.ex z)) hp) : XOpN C (.lookup t m k false) fr hp K := by
  refine lookupE hE hT hK em ek hx n hn (.i .u32 (.ex z)) (fun ρ => ?_) hk
  rcases hL.of n with ⟨j, hj⟩ | ⟨h0, h1⟩
  · rw [hj, hz]; exact .i rfl
  · rw [h0, hz, h1]; exact .i rfl
theorem tabOf_put (x z : Int) (L : List (Int × Value)) : tabOf (putA x (.int .u32 z) L) x = z := by
  obtain ⟨j, hj⟩ := fA_putA (n := x) (v := Value.int .u32 z) (L := L)
  rw [tabOf, hj]
theorem map_loop (n base pages taken root : Int) (sealed : Bool) (f : Int → Int) (hn : 1 ≤ n ∧ n ≤ 4096) (hr : 0 ≤ root ∧ root < 4294967296) (ha : ArOk n base pages taken) (V PH G P : List Int) (m cap : Nat) (F : Option (Nat × Nat) → Vex.Own → World → Prop) (tabs : List (Int × Value)) (D1 D2 : List (Value × Value)) (hD2 : D2 = entA (Value.int .u32) tabs) (hT : TabsOk tabs) (wl : List Int) (wn cw jw : Nat) (hwn : wl.length = wn) (hwl2 : wn < 1048576) (hlf : wn ≤ pages - taken) (hse : wn = 0 ∨ sealed = false)
    {Q : Bool → Ex → St → Prop} (hcont : ∀ D3 s, s = wl.foldl (tkStep n base root) ⟨f, taken, tabs⟩ → D3 = entA (Value.int .u32) s.tabs → TabsOk s.tabs → ∀ f1 tk1, f1 = s.f → tk1 = s.taken →
      Ok kit 184 5 c34 false ⟨[(1000003, .tup [.p 14 (.at 0)]), (1, .slc 3 0 4 (.lit 0) (.ex m) (.ex cap)), (2, .p 5 (.at 0)), (4, .p 6 (.at 0)), (5, .p 7 (.at 0)), (6, .p 9 (.at 0)), (7, .p 11 (.at 0)), (8, .p 12 (.at 0))],
      [memB n f1, arB 0 base pages tk1 sealed, spB 1 root, .ro [.rows 4 (.ex m) (rngF V PH G P)], .abs F, .cells 55 [.p 2 (.at 0)], .cells 36 [.i .i64 (.ex 0)], .cells 37 [.p 0 (.at 0)], .abs (MP D1), .cells 91 [.map 8], .abs (MP D3), .cells 92 [.map 10], .cells 93 [.slc 16 0 1 (.lit 0) (.ex wn) (.ex cw)], .cells 31 [.slc 3 0 4 (.lit 0) (.ex m) (.ex cap)], .obj (.deferred (some [])), .gone, .cells 22 [.ints .u32 (.ex wn) wl, .junk 1 (.ex jw)]]⟩ Q) :
    Ok kit 184 5 c28 false ⟨[(1000003, .tup [.p 14 (.at 0)]), (1, .slc 3 0 4 (.lit 0) (.ex m) (.ex cap)), (2, .p 5 (.at 0)), (4, .p 6 (.at 0)), (5, .p 7 (.at 0)), (6, .p 9 (.at 0)), (7, .p 11 (.at 0)), (8, .p 12 (.at 0))],
      [memB n f, arB 0 base pages taken sealed, spB 1 root, .ro [.rows 4 (.ex m) (rngF V PH G P)], .abs F, .cells 55 [.p 2 (.at 0)], .cells 36 [.i .i64 (.ex 0)], .cells 37 [.p 0 (.at 0)], .abs (MP D1), .cells 91 [.map 8], .abs (MP D2), .cells 92 [.map 10], .cells 93 [.slc 16 0 1 (.lit 0) (.ex wn) (.ex cw)], .cells 31 [.slc 3 0 4 (.lit 0) (.ex m) (.ex cap)], .obj (.deferred (some [])), .gone, .cells 22 [.ints .u32 (.ex wn) wl, .junk 1 (.ex jw)]]⟩ Q := by
  obtain ⟨h1, h2, h3, h4, h5⟩ := ha
  refine kcode I17ok 6 O17d (by kernel_rfl) ?_
  conv => cbv
  refine byInv I17ok 6 O17d (fun a : Int × MS × (Int → Int) × Int × List (Value × Value) => ⟨[(144, .i .i64 (.ex a.1)), (143, .i .i64 (.ex (ofN wn))), (142, .slc 16 0 1 (.lit 0) (.ex wn) (.ex cw)), (1000003, .tup [.p 14 (.at 0)]), (1, .slc 3 0 4 (.lit 0) (.ex m) (.ex cap)), (2, .p 5 (.at 0)), (4, .p 6 (.at 0)), (5, .p 7 (.at 0)), (6, .p 9 (.at 0)), (7, .p 11 (.at 0)), (8, .p 12 (.at 0))],
      [memB n a.2.2.1, arB 0 base pages a.2.2.2.1 sealed, spB 1 root, .ro [.rows 4 (.ex m) (rngF V PH G P)], .abs F, .cells 55 [.p 2 (.at 0)], .cells 36 [.i .i64 (.ex 0)], .cells 37 [.p 0 (.at 0)], .abs (MP D1), .cells 91 [.map 8], .abs (MP a.2.2.2.2), .cells 92 [.map 10], .cells 93 [.slc 16 0 1 (.lit 0) (.ex wn) (.ex cw)], .cells 31 [.slc 3 0 4 (.lit 0) (.ex m) (.ex cap)], .obj (.deferred (some [])), .gone, .cells 22 [.ints .u32 (.ex wn) wl, .junk 1 (.ex jw)]]⟩)
    (fun a => (wn - a.1).toNat) (fun a => 0 ≤ a.1 ∧ a.1 ≤ wn ∧ a.2.1 = (wl.take a.1.toNat).foldl (tkStep n base root) ⟨f, taken, tabs⟩ ∧ a.2.2.1 = a.2.1.f ∧ a.2.2.2.1 = a.2.1.taken ∧ a.2.2.2.2 = entA (Value.int .u32) a.2.1.tabs ∧ TabsOk a.2.1.tabs) false (0, ⟨f, taken, tabs⟩, f, taken, D2) (by kernel_rfl) ⟨by omega, by omega, rfl, rfl, rfl, hD2, hT⟩
    (LeSt.mk' (List.range 17) (by decide) (by rfl) (by decide) (by cbv) ?_) ?_
  · conv => cbv
    exact ⟨⟨fun j _ => rngF_le _ _, trivial⟩, trivial⟩
  rintro ⟨z, s, fz, tz, D⟩ ⟨hz0, hz1, hs, hfz, htz, hD, hTz⟩
  simp only at hz0 hz1 hs hfz htz hD hTz
  have htk : tz = taken + z := by
    rw [htz, hs, tk_taken, List.length_take]; simp only; omega
  obtain ⟨xf, hxf⟩ : ∃ x, x = wl.getD z.toNat 0 := ⟨_, rfl⟩
  obtain ⟨z1, hz1'⟩ : ∃ x, x = z + 1 := ⟨_, rfl⟩
  obtain ⟨at_, hat⟩ : ∃ x, x = base + 4096 * tz := ⟨_, rfl⟩
  obtain ⟨tk, htk'⟩ : ∃ x, x = tz + 1 := ⟨_, rfl⟩
  obtain ⟨fr, hfr⟩ : ∃ x, x = at_ / 4096 := ⟨_, rfl⟩
  obtain ⟨s1, hs1⟩ : ∃ y, y = tkStep n base root s xf := ⟨_, rfl⟩
  obtain ⟨D', hD'⟩ : ∃ x, x = entA (Value.int .u32) (putA xf (.int .u32 at_) s.tabs) := ⟨_, rfl⟩
  obtain ⟨g, hg⟩ : ∃ x, x = layF n (zeroF fz at_) root xf 2 0 fr := ⟨_, rfl⟩
  conv => cbv
  refine Br.mk (fun hc => ?_) (fun hc => ?_)
  · have hc : z < (wn : Int) := by have h : z < ofN wn := ltI_t.1 hc; rw [ofN_eq] at h; exact h
    conv => cbv
    refine ⟨inR.mk hz0 hc, nLt.mk (by simp only [leafs]; omega), ?_⟩
    have hsf : sealed = false := by rcases hse with h | h; omega; exact h
    refine ECall.by_spec (take_ok n base pages tz fz ⟨h1, h2, h3, by omega, h5⟩ (by omega) hat htk') [0, 1] (by decide) (by cbv) (by cbv) ?_ ?_
    · conv => cbv
      exact ⟨⟨hsf.symm, trivial⟩, trivial⟩
    conv => cbv
    refine XOpE.updateMP hD mt114 ku27 rfl rfl rfl rfl (by intro y hy; simp only [List.mem_singleton] at hy; subst hy; exact ⟨by decide, _, _, rfl⟩) xf (fun ρ c h => by rw [hxf, ← toN_eq, ← gi_eq]; exact den_i h) (.int .u32 at_) (fun ρ c h => den_i h) hD' ?_
    conv => cbv
    have hTz' : TabsOk (putA xf (.int .u32 at_) s.tabs) := hTz.put xf at_ (by omega)
    refine lookupER hD' mt114 ku27 hTz' rfl rfl rfl xf (fun ρ c h => by rw [hxf, ← toN_eq, ← gi_eq]; exact den_i h) (tabOf_put xf at_ s.tabs).symm ?_
    conv => cbv
    refine OkCall.by_spec (lay_spec n (zeroF fz at_) root xf 2 0 fr hn (by omega) (by omega) hg) [0] (by decide) ?_ (by cbv) ?_
    · conv => cbv
      refine ⟨?_, ⟨?_, trivial⟩, trivial⟩
      · show xf = gi wl (toN z)
        rw [hxf, toN_eq, gi_eq]
      · have := shrI_u32 at_ 12 (by decide)
        rw [show ((12 : Nat) : Int) = 12 from rfl] at this
        show fr = shrI .u32 at_ 12
        rw [this, hfr]; rfl
    conv => cbv
    have hg2 : g = (s1).f := by rw [hg, hfr, hat, hfz, htz, hs1]; simp only [tkStep]
    have hD2' : D' = entA (Value.int .u32) (s1).tabs := by rw [hD', hat, htz, hs1]; simp only [tkStep]
    refine ⟨(z1, s1, g, tk, D'), ⟨⟨by show 0 ≤ z1; omega, by show z1 ≤ (wn : Int); omega, ?_, ?_, ?_, ?_, ?_⟩, by show ((wn : Int) - z1).toNat < ((wn : Int) - z).toNat; omega⟩, _, (HImp.refl _).ext, LeSt.mk' (List.range 17) (by decide) (by rfl) (by decide) ?_ ?_⟩
    · show s1 = (wl.take z1.toNat).foldl (tkStep n base root) ⟨f, taken, tabs⟩
      have ez : z1.toNat = z.toNat + 1 := by omega
      have el : z.toNat < wl.length := by omega
      rw [ez, List.take_succ_eq_append_getElem el, List.foldl_append, ← hs]
      have : xf = wl[z.toNat] := by rw [hxf, List.getD_eq_getElem?_getD, List.getElem?_eq_getElem el]; rfl
      rw [hs1, this]; rfl
    · exact hg2
    · show tk = (s1).taken
      rw [htk', htz, hs1]; rfl
    · exact hD2'
    · show TabsOk (s1).tabs
      rw [hat, htz] at hTz'; rw [hs1]; exact hTz'
    · conv => cbv
      refine ⟨?_, trivial⟩
      show z1 = addI .i64 z 1
      rw [addI_eq, IntWalk.i64_in _ (by omega), hz1']
    · conv => cbv
      exact ⟨⟨hsf, trivial⟩, ⟨fun j _ => rngF_le _ _, trivial⟩, trivial⟩
  · have hc : (wn : Int) ≤ z := by have h : ofN wn ≤ z := ltI_f.1 hc; rw [ofN_eq] at h; exact h
    conv => cbv
    have hzz : z.toNat = wl.length := by omega
    rw [hzz, List.take_length] at hs
    refine Ok.weak (LeSt.mk' (List.range 17) (by decide) (by rfl) (by decide) (by cbv) ?_) (hcont D s hs hD hTz fz tz hfz htz)
    conv => cbv
    exact ⟨⟨fun j _ => rngF_le _ _, trivial⟩, trivial⟩
noncomputable def I79b : FnT := [(56, fi Tryd.f56 ⟨[2006007, 3006006, 3006009, 4006020], 0⟩)]
theorem I79bok : FnsOk kit I79b := ⟨foO _ Tryd.func56 (by kernel_rfl) (by decide +kernel) (by kernel_rfl), trivial⟩
theorem map_lay (n base pages root : Int) (sealed : Bool) (f1 : Int → Int) (tk1 : Int) (hn : 1 ≤ n ∧ n ≤ 4096) (V PH G P : List Int) (m cap : Nat) (hL : RgsOk ⟨V, PH, G, P⟩ m) (hgood : ∀ j, j < m → mayB (V.getD j 0) (PH.getD j 0) (G.getD j 0) (P.getD j 0) = true) (F : Option (Nat × Nat) → Vex.Own → World → Prop) (tabs : List (Int × Value)) (D1 D3 : List (Value × Value)) (hD3 : D3 = entA (Value.int .u32) tabs) (hT : TabsOk tabs) (wl : List Int) (wn cw jw : Nat)
    {f' : Int → Int} (hf' : f' = (allE ⟨V, PH, G, P⟩ m).foldl (lyStep n tabs) f1) :
    Ok kit 184 5 c34 false ⟨[(1000003, .tup [.p 14 (.at 0)]), (1, .slc 3 0 4 (.lit 0) (.ex m) (.ex cap)), (2, .p 5 (.at 0)), (4, .p 6 (.at 0)), (5, .p 7 (.at 0)), (6, .p 9 (.at 0)), (7, .p 11 (.at 0)), (8, .p 12 (.at 0))],
      [memB n f1, arB 0 base pages tk1 sealed, spB 1 root, .ro [.rows 4 (.ex m) (rngF V PH G P)], .abs F, .cells 55 [.p 2 (.at 0)], .cells 36 [.i .i64 (.ex 0)], .cells 37 [.p 0 (.at 0)], .abs (MP D1), .cells 91 [.map 8], .abs (MP D3), .cells 92 [.map 10], .cells 93 [.slc 16 0 1 (.lit 0) (.ex wn) (.ex cw)], .cells 31 [.slc 3 0 4 (.lit 0) (.ex m) (.ex cap)], .obj (.deferred (some [])), .gone, .cells 22 [.ints .u32 (.ex wn) wl, .junk 1 (.ex jw)]]⟩
      (endS tab (fi Tryd.f15 O17).res fun q v hp' => LeOut2 5 q v hp' false (.i .i64 (.ex 0)) [memB n f', arB 0 base pages tk1 sealed, spB 1 root, .ro [.rows 4 (.ex m) (rngF V PH G P)], .abs F]) := by
  refine kcode I17ok 6 O17b (by kernel_rfl) ?_
  conv => cbv
  refine Ok.rangeFunc [5, 7] rfl rfl rfl fun y R hR => ?_
  conv => cbv
  refine into I79bok 6 ?_
  conv => cbv
  refine byInv I79bok 6 ⟨[2006007, 3006006, 3006009, 4006020], 0⟩ (fun a : Int × (Int → Int) => ⟨[(8, .i .i64 (.ex a.1)), (7, .i .i64 (.ex (ofN m))), (6, .slc 3 0 4 (.lit 0) (.ex m) (.ex cap)), (0, .fn (.yield y) [] [])],
    [memB n a.2, arB 0 base pages tk1 sealed, spB 1 root, .ro [.rows 4 (.ex m) (rngF V PH G P)], .abs F, .cells 55 [.p 2 (.at 0)], .cells 36 [.i .i64 (.ex 0)], .cells 37 [.p 0 (.at 0)], .abs (MP D1), .cells 91 [.map 8], .abs (MP D3), .cells 92 [.map 10], .cells 93 [.slc 16 0 1 (.lit 0) (.ex wn) (.ex cw)], .cells 31 [.slc 3 0 4 (.lit 0) (.ex m) (.ex cap)], .obj (.deferred (some [])), .gone, .cells 22 [.ints .u32 (.ex wn) wl, .junk 1 (.ex jw)], .cells 31 [.slc 3 0 4 (.lit 0) (.ex m) (.ex cap)], .obj (.deferred (some [])), .av [.p 7 (.at 0), .p 11 (.at 0)] (R .ready none)]⟩)
    (fun a => (m - a.1).toNat) (fun a => 0 ≤ a.1 ∧ a.1 ≤ m ∧ a.2 = (allE ⟨V, PH, G, P⟩ a.1.toNat).foldl (lyStep n tabs) f1) false (0, f1) (by kernel_rfl) ⟨by omega, by omega, rfl⟩
    (LeSt.mk' (List.range 20) (by decide) (by rfl) (by decide) (by cbv) ?_) ?_
  · conv => cbv
    exact ⟨⟨fun j _ => rngF_le _ _, trivial⟩, trivial⟩
  rintro ⟨z, fz⟩ ⟨hz0, hz1, hfz⟩
  simp only at hz0 hz1 hfz
  obtain ⟨k, hk⟩ : ∃ x : Nat, z.toNat = x := ⟨_, rfl⟩
  obtain ⟨vz, hvz⟩ : ∃ x, x = V.getD k 0 := ⟨_, rfl⟩
  obtain ⟨phz, hphz⟩ : ∃ x, x = PH.getD k 0 := ⟨_, rfl⟩
  obtain ⟨gz, hgz⟩ : ∃ x, x = G.getD k 0 := ⟨_, rfl⟩
  obtain ⟨pz, hpz⟩ : ∃ x, x = P.getD k 0 := ⟨_, rfl⟩
  obtain ⟨z1, hz1e⟩ : ∃ x, x = z + 1 := ⟨_, rfl⟩
  have hvu : 0 ≤ vz ∧ vz < 4294967296 := by rw [hvz]; exact hL.v k
  have hphu : 0 ≤ phz ∧ phz < 4294967296 := by rw [hphz]; exact hL.ph k
  have hpu : 0 ≤ pz ∧ pz < 256 := by rw [hpz]; exact hL.p k
  conv => cbv
  refine Br.mk (fun hc => ?_) (fun hc => ?_)
  · have hc : z < (m : Int) := by have h : z < ofN m := ltI_t.1 hc; rw [ofN_eq] at h; exact h
    have hgood := hgood k (by omega)
    rw [← hvz, ← hphz, ← hgz, ← hpz] at hgood
    have hgd := of_decide_eq_true hgood
    conv => cbv
    refine ⟨inR.mk hz0 hc, nLt.mk (by simp only [leafs]; omega), ?_⟩
    refine byInv I79bok 6 ⟨[2006007, 3006006, 3006009, 4006020], 0⟩ (fun a : Int × (Int → Int) => ⟨[(15, .i .u32 (.ex a.1)), (14, .i .u32 (.ex gz)), (4, .p 20 (.at 0)), (8, .i .i64 (.ex z)), (7, .i .i64 (.ex (ofN m))), (6, .slc 3 0 4 (.lit 0) (.ex m) (.ex cap)), (0, .fn (.yield y) [] [])],
      [memB n a.2, arB 0 base pages tk1 sealed, spB 1 root, .ro [.rows 4 (.ex m) (rngF V PH G P)], .abs F, .cells 55 [.p 2 (.at 0)], .cells 36 [.i .i64 (.ex 0)], .cells 37 [.p 0 (.at 0)], .abs (MP D1), .cells 91 [.map 8], .abs (MP D3), .cells 92 [.map 10], .cells 93 [.slc 16 0 1 (.lit 0) (.ex wn) (.ex cw)], .cells 31 [.slc 3 0 4 (.lit 0) (.ex m) (.ex cap)], .obj (.deferred (some [])), .gone, .cells 22 [.ints .u32 (.ex wn) wl, .junk 1 (.ex jw)], .cells 31 [.slc 3 0 4 (.lit 0) (.ex m) (.ex cap)], .obj (.deferred (some [])), .av [.p 7 (.at 0), .p 11 (.at 0)] (R .ready none), .cells 30 [.i .u32 (.ex vz), .i .u32 (.ex phz), .i .i64 (.ex gz), .i .u8 (.ex pz)]]⟩)
      (fun a => (gz - a.1).toNat) (fun a => 0 ≤ a.1 ∧ a.1 ≤ gz ∧ a.2 = (allE ⟨V, PH, G, P⟩ k ++ rgE ⟨V, PH, G, P⟩ k a.1.toNat).foldl (lyStep n tabs) f1) false (0, fz) (by kernel_rfl) ⟨by omega, by omega, by rw [← hk]; simpa [rgE] using hfz⟩
      (LeSt.mk' (List.range 21) (by decide) (by rfl) (by decide) ?_ ?_) ?_
    · conv => cbv
      refine ⟨?_, trivial⟩
      show gz = convI .u32 (gi G (toN z))
      rw [convI_eq, wrap_u32, gi_eq, toN_eq, hk, ← hgz]; omega
    · conv => cbv
      refine ⟨⟨fun j _ => rngF_le _ _, trivial⟩, ⟨?_, ?_, ?_, ?_, trivial⟩, trivial⟩
      · show vz = gi V (toN z); rw [gi_eq, toN_eq, hk, hvz]
      · show phz = gi PH (toN z); rw [gi_eq, toN_eq, hk, hphz]
      · show gz = gi G (toN z); rw [gi_eq, toN_eq, hk, hgz]
      · show pz = gi P (toN z); rw [gi_eq, toN_eq, hk, hpz]
    rintro ⟨j, fj⟩ ⟨hj0, hj1, hfj⟩
    simp only at hj0 hj1 hfj
    obtain ⟨pg, hpg⟩ : ∃ x, x = vz / 4096 + j := ⟨_, rfl⟩
    obtain ⟨first, hfst⟩ : ∃ x, x = pg / 1024 := ⟨_, rfl⟩
    obtain ⟨second, hsec⟩ : ∃ x, x = pg % 1024 := ⟨_, rfl⟩
    obtain ⟨fr, hfr⟩ : ∃ x, x = phz / 4096 + j := ⟨_, rfl⟩
    obtain ⟨j1, hj1e⟩ : ∃ x, x = j + 1 := ⟨_, rfl⟩
    obtain ⟨tb, htb⟩ : ∃ x, x = tabOf tabs first := ⟨_, rfl⟩
    obtain ⟨g, hg⟩ : ∃ x, x = layF n fj tb second 1 pz fr := ⟨_, rfl⟩
    have hstep : g = (allE ⟨V, PH, G, P⟩ k ++ rgE ⟨V, PH, G, P⟩ k j1.toNat).foldl (lyStep n tabs) f1 := by
      have ej : j1.toNat = j.toNat + 1 := by omega
      rw [ej, rgE, List.range_succ, List.map_append, ← List.append_assoc, List.foldl_append]
      rw [rgE] at hfj
      rw [← hfj]
      have ep : pgE ⟨V, PH, G, P⟩ k j.toNat = ((first, second), (pz, fr)) := by
        simp only [pgE, pgOf]
        rw [← hvz, ← hphz, ← hpz, hfst, hsec, hpg, hfr]
        have : ((j.toNat : Nat) : Int) = j := by omega
        rw [this]
      simp only [List.map_cons, List.map_nil, List.foldl_cons, List.foldl_nil, ep, lyStep, ← htb, hg]
    conv => cbv
    refine Br.mk (fun hd => ?_) (fun hd => ?_)
    · have hd : j < gz := ltI_t.1 hd
      have hsh : addI .u32 (shrI .u32 vz 12) j = pg := by
        have := shrI_u32 vz 12 (by decide)
        rw [show ((12 : Nat) : Int) = 12 from rfl] at this
        rw [this, addI_eq, wrap_u32, hpg]
        show (vz / 4096 + j) % _ = _
        omega
      conv => cbv
      refine ECall.by_spec (place_spec pg (by omega) hfst hsec) [] (by decide) (by cbv) ?_ trivial ?_
      · conv => cbv
        exact ⟨hsh.symm, trivial⟩
      conv => cbv
      refine ECall.by_spec (pageOf_spec vz phz gz pz j hphu (by omega) hfr) [] (by decide) (by cbv) (by cbv) trivial ?_
      conv => cbv
      refine YCall.out2 ?_
      refine YCall.of hR 19 rfl rfl rfl (kcode (I := []) trivial 3 ⟨[], 0⟩ (by kernel_rfl) ?_)
      conv => cbv
      refine kcode (I := []) trivial 3 ⟨[], 0⟩ (by kernel_rfl) ?_
      conv => cbv
      refine XOpN.x (lookupEN hD3 mt114 ku27 hT rfl rfl rfl first (fun ρ c h => den_i h) htb ?_)
      conv => cbv
      refine OkCall.by_spec (lay_spec n fj tb second 1 pz fr hn hpu (by omega) hg) [0] (by decide) (by cbv) (by cbv) ?_
      conv => cbv
      refine ⟨false, _, _, (LeOut.mk' (List.range 23) (by decide) rfl (by decide) (v' := .b (.lit true)) (by cbv) (hp' := [memB n g, arB 0 base pages tk1 sealed, spB 1 root, .ro [.rows 4 (.ex m) (rngF V PH G P)], .abs F, .cells 55 [.p 2 (.at 0)], .cells 36 [.i .i64 (.ex 0)], .cells 37 [.p 0 (.at 0)], .abs (MP D1), .cells 91 [.map 8], .abs (MP D3), .cells 92 [.map 10], .cells 93 [.slc 16 0 1 (.lit 0) (.ex wn) (.ex cw)], .cells 31 [.slc 3 0 4 (.lit 0) (.ex m) (.ex cap)], .obj (.deferred (some [])), .gone, .cells 22 [.ints .u32 (.ex wn) wl, .junk 1 (.ex jw)], .cells 31 [.slc 3 0 4 (.lit 0) (.ex m) (.ex cap)], .obj (.deferred (some [])), .av [.p 7 (.at 0), .p 11 (.at 0)] (R .ready none), .cells 30 [.i .u32 (.ex vz), .i .u32 (.ex phz), .i .i64 (.ex gz), .i .u8 (.ex pz)], .gone, .gone]) ?_).two, ?_⟩
      · conv => cbv
        exact ⟨⟨fun j _ => rngF_le _ _, trivial⟩, trivial⟩
      · conv => cbv
        refine ⟨(j1, g), ⟨⟨by show 0 ≤ j1; omega, by show j1 ≤ gz; omega, ?_⟩, by show (gz - j1).toNat < (gz - j).toNat; omega⟩, _, (HImp.refl _).ext, LeSt.mk' (List.range 21) (by decide) (by rfl) (by decide) ?_ ?_⟩
        · exact hstep
        · conv => cbv
          refine ⟨?_, trivial⟩
          show j1 = addI .u32 j 1
          rw [addI_eq, wrap_u32, hj1e]; omega
        · conv => cbv
          exact ⟨⟨fun j _ => rngF_le _ _, trivial⟩, trivial⟩
    · have hd : gz ≤ j := ltI_f.1 hd
      have hend : fj = (allE ⟨V, PH, G, P⟩ z1.toNat).foldl (lyStep n tabs) f1 := by
        have ez : z1.toNat = k + 1 := by omega
        have ej : j.toNat = (G.getD k 0).toNat := by rw [← hgz]; omega
        rw [ez, allE, List.range_succ, List.flatMap_append]
        rw [hfj, ej]
        simp [allE]
      conv => cbv
      refine ⟨(z1, fj), ⟨⟨by show 0 ≤ z1; omega, by show z1 ≤ (m : Int); omega, hend⟩, by show ((m : Int) - z1).toNat < ((m : Int) - z).toNat; omega⟩, _, (HImp.refl _).ext, LeSt.mk' (List.range 20) (by decide) (by rfl) (by decide) ?_ ?_⟩
      · conv => cbv
        refine ⟨?_, trivial⟩
        show z1 = addI .i64 z 1
        rw [addI_eq, IntWalk.i64_in _ (by have := hL.m; omega), hz1e]
      · conv => cbv
        exact ⟨⟨fun j _ => rngF_le _ _, trivial⟩, trivial⟩
  · have hc : (m : Int) ≤ z := by have h : ofN m ≤ z := ltI_f.1 hc; rw [ofN_eq] at h; exact h
    have hzm : z.toNat = m := by omega
    rw [hzm, ← hf'] at hfz
    subst hfz
    conv => cbv
    refine ⟨.normal, ?_⟩
    conv => cbv
    refine (LeOut.mk' (List.range 5) (by decide) rfl (by decide) (by cbv) ?_).two
    conv => cbv
    exact ⟨⟨fun j _ => rngF_le _ _, trivial⟩, trivial⟩

theorem map_tail (n base pages taken root : Int) (sealed : Bool) (f : Int → Int) (hn : 1 ≤ n ∧ n ≤ 4096) (hr : 0 ≤ root ∧ root < 4294967296) (ha : ArOk n base pages taken) (V PH G P : List Int) (m cap : Nat) (hL : RgsOk ⟨V, PH, G, P⟩ m) (hgood : ∀ j, j < m → mayB (V.getD j 0) (PH.getD j 0) (G.getD j 0) (P.getD j 0) = true) (F : Option (Nat × Nat) → Vex.Own → World → Prop) (ps : PS) (D1 D2 : List (Value × Value)) (hD2 : D2 = entA (Value.int .u32) ps.tabs) (hT : TabsOk ps.tabs) (wl : List Int) (hwl : ps.wanted = wl) (wn : Nat) (hwn : wl.length = wn) (hwl2 : wl.length < 1048576)
    {e : Int} {f' : Int → Int} {tk' : Int} (hres : (e, f', tk') = if wn ≠ 0 ∧ sealed = true then (73, f, taken) else if pages - taken < wn then (72, f, taken) else
      let s := wl.foldl (tkStep n base root) ⟨f, taken, ps.tabs⟩
      (0, (allE ⟨V, PH, G, P⟩ m).foldl (lyStep n s.tabs) s.f, s.taken)) :
    Ok kit 184 5 c24 false ⟨[(1000003, .tup [.p 14 (.at 0)]), (1, .slc 3 0 4 (.lit 0) (.ex m) (.ex cap)), (2, .p 5 (.at 0)), (4, .p 6 (.at 0)), (5, .p 7 (.at 0)), (6, .p 9 (.at 0)), (7, .p 11 (.at 0)), (8, .p 12 (.at 0))],
      hpA n base pages taken root sealed f V PH G P m cap F (.ex 0) D1 D2 wl [.gone]⟩
      (endS tab (fi Tryd.f15 O17).res fun q v hp' => LeOut2 5 q v hp' false (.i .i64 (.ex e)) [memB n f', arB 0 base pages tk' sealed, spB 1 root, .ro [.rows 4 (.ex m) (rngF V PH G P)], .abs F]) := by
  obtain ⟨h1, h2, h3, h4, h5⟩ := ha
  refine Ok.unfold 12 rfl ?_
  suffices hmain : ∀ cw, wn ≤ cw → ∀ jw, cw - wn = jw → Ok kit 184 5 c24 false ⟨[(1000003, .tup [.p 14 (.at 0)]), (1, .slc 3 0 4 (.lit 0) (.ex m) (.ex cap)), (2, .p 5 (.at 0)), (4, .p 6 (.at 0)), (5, .p 7 (.at 0)), (6, .p 9 (.at 0)), (7, .p 11 (.at 0)), (8, .p 12 (.at 0))],
      [memB n f, arB 0 base pages taken sealed, spB 1 root, .ro [.rows 4 (.ex m) (rngF V PH G P)], .abs F, .cells 55 [.p 2 (.at 0)], .cells 36 [.i .i64 (.ex 0)], .cells 37 [.p 0 (.at 0)], .abs (MP D1), .cells 91 [.map 8], .abs (MP D2), .cells 92 [.map 10], .cells 93 [.slc 16 0 1 (.lit 0) (.ex wn) (.ex cw)], .cells 31 [.slc 3 0 4 (.lit 0) (.ex m) (.ex cap)], .obj (.deferred (some [])), .gone, .cells 22 [.ints .u32 (.ex wn) wl, .junk 1 (.ex jw)]]⟩
      (endS tab (fi Tryd.f15 O17).res fun q v hp' => LeOut2 5 q v hp' false (.i .i64 (.ex e)) [memB n f', arB 0 base pages tk' sealed, spB 1 root, .ro [.rows 4 (.ex m) (rngF V PH G P)], .abs F]) by
    rintro bs (⟨hw, rfl⟩ | ⟨hw, cw, hcw, rfl⟩)
    · subst hw
      simp only [List.length_nil] at hwn
      subst hwn
      refine Ok.ext (HExt.nilFill (hp := unf (hpA n base pages taken root sealed f V PH G P m cap F (.ex 0) D1 D2 [] [.gone]) 12 [.cells 93 [.nilslc]]) 12 0 0 1 (.cells 22 [.ints .u32 (.ex 0) [], .junk 1 (.ex 0)]) rfl rfl (nil_ints 22 .u32)) ?_
      refine Ok.weak (LeSt.mk' (List.range 17) (by decide) rfl (by decide) (by cbv) ?_) (hmain 0 (Nat.le_refl _) 0 rfl)
      conv => cbv
      exact ⟨⟨fun j _ => rngF_le _ _, trivial⟩, trivial⟩
    · rw [hwn] at hcw
      obtain ⟨jw, hjw⟩ : ∃ x, cw - wn = x := ⟨_, rfl⟩
      refine Ok.weak (LeSt.mk' (List.range 17) (by decide) rfl (by decide) (by cbv) ?_) (hmain cw hcw jw hjw)
      rw [hwn, hjw]
      conv => cbv
      exact ⟨⟨fun j _ => rngF_le _ _, trivial⟩, trivial⟩
  intro cw hcw jw hjw
  obtain ⟨lf, hlf⟩ : ∃ x, pages - taken = x := ⟨_, rfl⟩
  have hlf2 : lf = subI .i64 pages taken := by rw [subI_eq, IntWalk.i64_in _ (by omega), hlf]
  have hfin : ∀ {e2 : Int}, (e, f', tk') = (e2, f, taken) → e2 = e ∧ f' = f ∧ tk' = taken := fun h => by
    simp only [Prod.mk.injEq] at h; exact ⟨h.1.symm, h.2.1, h.2.2⟩
  have hgo := fun (hlf3 : (wn : Int) ≤ pages - taken) (hse3 : wn = 0 ∨ sealed = false) (hr3 : (e, f', tk') = (let s := wl.foldl (tkStep n base root) ⟨f, taken, ps.tabs⟩
      (0, (allE ⟨V, PH, G, P⟩ m).foldl (lyStep n s.tabs) s.f, s.taken))) =>
    map_loop n base pages taken root sealed f hn hr ⟨h1, h2, h3, h4, h5⟩ V PH G P m cap F ps.tabs D1 D2 hD2 hT wl wn cw jw hwn (by omega) hlf3 hse3 (Q := endS tab (fi Tryd.f15 O17).res fun q v hp' => LeOut2 5 q v hp' false (.i .i64 (.ex e)) [memB n f', arB 0 base pages tk' sealed, spB 1 root, .ro [.rows 4 (.ex m) (rngF V PH G P)], .abs F])
      (fun D3 s hs hD3 hTs f1 tk1 hf1 htk1 => by
        simp only [Prod.mk.injEq] at hr3
        obtain ⟨he, hf3, htk3⟩ := hr3
        rw [← hs] at hf3 htk3
        subst he
        rw [← htk1] at htk3
        subst htk3
        exact map_lay n base pages root sealed f1 tk' hn V PH G P m cap hL hgood F s.tabs D1 D3 hD3 hTs wl wn cw jw (by rw [hf3, ← hf1]))
  refine kcode I17ok 6 O17c (by kernel_rfl) ?_
  conv => cbv
  refine Br.mk (fun hc => ?_) (fun hc => ?_)
  · have hw0 : (0 : Int) < ofN wn := ltI_t.1 hc
    rw [ofN_eq] at hw0
    conv => cbv
    refine Br.mk (fun hse => ?_) (fun hse => ?_)
    · rw [if_pos ⟨by omega, hse⟩] at hres
      obtain ⟨rfl, rfl, rfl⟩ := hfin hres
      conv => cbv
      refine (LeOut.mk' (List.range 5) (by decide) rfl (by decide) ?_ ?_).two
      · conv => cbv
        trivial
      · conv => cbv
        exact ⟨⟨fun j _ => rngF_le _ _, trivial⟩, trivial⟩
    · have hse : sealed = false := hse
      rw [if_neg (by rw [hse]; simp)] at hres
      conv => cbv
      refine QCall.of_call (.i .i64 (.ex lf)) rfl (into I17ok 6 ?_) ?_
      · conv => cbv
        exact hlf2
      conv => cbv
      refine Br.mk (fun hd => ?_) (fun hd => ?_)
      · have hd : lf < ofN wn := ltI_t.1 hd
        rw [ofN_eq] at hd
        rw [if_pos (by omega)] at hres
        obtain ⟨rfl, rfl, rfl⟩ := hfin hres
        conv => cbv
        refine (LeOut.mk' (List.range 5) (by decide) rfl (by decide) ?_ ?_).two
        · conv => cbv
          trivial
        · conv => cbv
          exact ⟨⟨fun j _ => rngF_le _ _, trivial⟩, trivial⟩
      · have hd : ofN wn ≤ lf := ltI_f.1 hd
        rw [ofN_eq] at hd
        rw [if_neg (by omega)] at hres
        have hgo := hgo (by omega) (.inr hse) hres
        conv => cbv
        refine Ok.weak (LeSt.mk' (List.range 17) (by decide) rfl (by decide) (by cbv) ?_) hgo
        conv => cbv
        exact ⟨⟨fun j _ => rngF_le _ _, trivial⟩, trivial⟩
  · have hw0 : ofN wn ≤ (0 : Int) := ltI_f.1 hc
    rw [ofN_eq] at hw0
    rw [if_neg (by rintro ⟨h, _⟩; omega), if_neg (by omega)] at hres
    conv => cbv
    refine QCall.of_call (.i .i64 (.ex lf)) rfl (into I17ok 6 ?_) ?_
    · conv => cbv
      exact hlf2
    conv => cbv
    refine Br.no (show ltI lf (ofN wn) = false from ltI_f.2 (by rw [ofN_eq]; omega)) ?_
    have hgo := hgo (by omega) (.inl (by omega)) hres
    conv => cbv
    refine Ok.weak (LeSt.mk' (List.range 17) (by decide) rfl (by decide) (by cbv) ?_) hgo
    conv => cbv
    exact ⟨⟨fun j _ => rngF_le _ _, trivial⟩, trivial⟩
end Go.Proofs.YtafhmkedblpdlaaDoor
end

/-
  tables.Map: all of it.
-/
section
namespace Go.Proofs.YtafhmkedblpdlaaDoor
open Go Go.Vex
set_option maxRecDepth 20000
set_option maxHeartbeats 4000000
theorem nodup_lt : ∀ (n : Nat) (l : List Int), l.Nodup → (∀ x ∈ l, 0 ≤ x ∧ x < n) → l.length ≤ n
  | 0, l, _, h => by
    cases l with
    | nil => simp
    | cons a r => have := h a (by simp); omega
  | n + 1, l, hd, h => by
    have := nodup_lt n (l.erase (n : Int)) (hd.erase _) (fun x hx => by
      have hx := hd.mem_erase_iff.1 hx
      have := h x hx.2
      omega)
    by_cases hm : (n : Int) ∈ l
    · rw [List.length_erase_of_mem hm] at this; omega
    · rw [List.erase_of_not_mem hm] at this; omega
/-- What holds of the first pass. -/
structure PsOk (s : PS) : Prop where
  nd : s.wanted.Nodup
  bd : ∀ x ∈ s.wanted, 0 ≤ x ∧ x < 1024
  tb : TabsOk s.tabs
theorem PsOk.len {s : PS} (h : PsOk s) : s.wanted.length < 1048576 := by
  have := nodup_lt 1024 s.wanted h.nd h.bd
  omega
theorem PsOk.step {n root : Int} {f : Int → Int} (hm : MemOk f) {s s' : PS} {x : Int × Int} (h : PsOk s) (hx : 0 ≤ x.1 ∧ x.1 < 1024) (hs : mStep n f root s x = some s') : PsOk s' := by
  unfold mStep at hs
  split at hs
  · cases hs
  simp only at hs
  split at hs
  · cases hs
  rename_i hw
  split at hs
  · cases hs
    refine ⟨?_, ?_, h.tb⟩
    · split
      · exact h.nd
      · rename_i hn
        rw [List.nodup_append]
        refine ⟨h.nd, by simp, fun a ha b hb => ?_⟩
        simp only [List.mem_singleton] at hb
        subst hb; rintro rfl; exact hn ha
    · intro y hy
      split at hy
      · exact h.bd y hy
      · rcases List.mem_append.1 hy with hy | hy
        · exact h.bd y hy
        · simp only [List.mem_singleton] at hy; subst hy; exact hx
  · split at hs
    · cases hs
    · cases hs
      refine ⟨h.nd, h.bd, h.tb.put _ _ ?_⟩
      have := decF_u (wW_u hm n root x.1) (by
        by_cases he : decE (wW n f root x.1) = 0
        · exact he
        · exact absurd (.inr (.inl he)) hw)
      omega
theorem PsOk.fold {n root : Int} {f : Int → Int} (hm : MemOk f) : ∀ (l : List (Int × Int)) (s s' : PS), PsOk s → (∀ x ∈ l, 0 ≤ x.1 ∧ x.1 < 1024) → l.foldlM (mStep n f root) s = some s' → PsOk s'
  | [], s, s', h, _, hs => by simp at hs; subst hs; exact h
  | x :: r, s, s', h, hx, hs => by
    simp only [List.foldlM_cons, Option.bind_eq_bind] at hs
    cases h1 : mStep n f root s x with
    | none => rw [h1] at hs; cases hs
    | some s1 => rw [h1] at hs; exact PsOk.fold hm r s1 s' (h.step hm (hx x (by simp)) h1) (fun y hy => hx y (List.mem_cons_of_mem _ hy)) hs
theorem PsOk.zero : PsOk ⟨[], [], []⟩ := ⟨by simp, by simp, by intro x hx; simp at hx⟩
theorem pgs_bd {L : Rgs} {m : Nat} (hL : RgsOk L m) (hgood : ∀ j, j < m → mayB (L.V.getD j 0) (L.PH.getD j 0) (L.G.getD j 0) (L.P.getD j 0) = true) {i k : Nat} (hi : i < m) (hk : (k : Int) ≤ L.G.getD i 0) : ∀ x ∈ pgsOf L i k, 0 ≤ x.1 ∧ x.1 < 1024 := by
  intro x hx
  simp only [pgsOf, List.mem_map, List.mem_range] at hx
  obtain ⟨j, hj, rfl⟩ := hx
  have hv := hL.v i
  have hg := of_decide_eq_true (hgood i hi)
  simp only [pgOf]
  omega
theorem allPgs_bd {L : Rgs} {m : Nat} (hL : RgsOk L m) (hgood : ∀ j, j < m → mayB (L.V.getD j 0) (L.PH.getD j 0) (L.G.getD j 0) (L.P.getD j 0) = true) {i : Nat} (hi : i ≤ m) : ∀ x ∈ allPgs L i, 0 ≤ x.1 ∧ x.1 < 1024 := by
  intro x hx
  simp only [allPgs, List.mem_flatMap, List.mem_range] at hx
  obtain ⟨a, ha, hx⟩ := hx
  have hg := of_decide_eq_true (hgood a (by omega))
  exact pgs_bd hL hgood (by omega) (by omega) x hx
theorem allPgs_split (L : Rgs) {i m j : Nat} (hi : i < m) (hj : (j : Int) < L.G.getD i 0) : ∃ l2, allPgs L m = (allPgs L i ++ pgsOf L i j) ++ (pgOf L i j :: l2) := by
  have h1 : ∀ (a b : Nat), List.range (a + b) = List.range a ++ (List.range b).map (a + ·) := fun a b => by
    rw [List.range_eq_range', List.range_eq_range', List.range_eq_range', ← List.range'_append_1, List.map_add_range']
    simp
  obtain ⟨d, rfl⟩ : ∃ d, m = i + (d + 1) := ⟨m - i - 1, by omega⟩
  obtain ⟨c, hc⟩ : ∃ c, (L.G.getD i 0).toNat = j + (c + 1) := ⟨(L.G.getD i 0).toNat - j - 1, by omega⟩
  refine ⟨((List.range c).map (fun x => pgOf L i (j + (x + 1)))) ++ ((List.range d).map (fun x => i + (x + 1))).flatMap fun a => pgsOf L a (L.G.getD a 0).toNat, ?_⟩
  have h2 : (List.range (d + 1)).map (i + ·) = i :: (List.range d).map (fun x => i + (x + 1)) := by
    rw [List.range_succ_eq_map]; simp [List.map_map, Function.comp_def]
  have h3 : (List.range (c + 1)).map (j + ·) = j :: (List.range c).map (fun x => j + (x + 1)) := by
    rw [List.range_succ_eq_map]; simp [List.map_map, Function.comp_def]
  have h4 : pgsOf L i (j + (c + 1)) = pgsOf L i j ++ (pgOf L i j :: (List.range c).map (fun x => pgOf L i (j + (x + 1)))) := by
    simp only [pgsOf]
    rw [h1, List.map_append, h3]; simp [List.map_map, Function.comp_def]
  rw [allPgs, h1, List.flatMap_append, h2, List.flatMap_cons, hc, h4]
  simp [allPgs]
/-- Map: the error, the memory, how many pages are taken. -/
def mapP (n base pages taken root : Int) (sealed : Bool) (f : Int → Int) (L : Rgs) (m : Nat) : Int × (Int → Int) × Int :=
  if (List.range m).any (badR L) = true then (70, f, taken) else
  match (allPgs L m).foldlM (mStep n f root) ⟨[], [], []⟩ with
  | none => (71, f, taken)
  | some ps => if ps.wanted.length ≠ 0 ∧ sealed = true then (73, f, taken) else if pages - taken < ps.wanted.length then (72, f, taken) else
      let s := ps.wanted.foldl (tkStep n base root) ⟨f, taken, ps.tabs⟩
      (0, (allE L m).foldl (lyStep n s.tabs) s.f, s.taken)
noncomputable def rfAs : List Code → Code
  | .rangeFunc _ _ a _ :: _ => a
  | _ => .skip
noncomputable def as1 : Code := rfAs (rfs (Tryd.f15.body.getD .skip))
theorem map_pass1 {R : RecT} {y : Nat} (hR : RecIs R y 184 [2, 4, 5, 6, 7, 8] #[35, 36] as1 bd1) (n base pages taken root : Int) (sealed : Bool) (f : Int → Int) (V PH G P : List Int) (m cap : Nat) (hL : RgsOk ⟨V, PH, G, P⟩ m) (hn : 1 ≤ n ∧ n ≤ 4096) (hmo : MemOk f) (hr : 0 ≤ root ∧ root < 4294967296) (F : Option (Nat × Nat) → Vex.Own → World → Prop)
    (hgood0 : ∀ j, j < m → mayB (V.getD j 0) (PH.getD j 0) (G.getD j 0) (P.getD j 0) = true) (E1 E2 : List (Value × Value)) (hE1 : E1 = entA pairV (seenL [])) (hE2 : E2 = entA (Value.int .u32) []) {K : Bool → SV → List Blk → Prop}
    (hok : ∀ ps D1 D2, (allPgs ⟨V, PH, G, P⟩ m).foldlM (mStep n f root) ⟨[], [], []⟩ = some ps → PsOk ps → D1 = entA pairV (seenL ps.seen) → D2 = entA (Value.int .u32) ps.tabs → K false (.tup []) [memB n f, arB 0 base pages taken sealed, spB 1 root, .ro [.rows 4 (.ex m) (rngF V PH G P)], .abs F, .cells 55 [.p 2 (.at 0)], .cells 36 [.i .i64 (.ex 0)], .cells 37 [.p 0 (.at 0)], .abs (MP D1), .cells 91 [.map 8], .abs (MP D2), .cells 92 [.map 10], wanB ps.wanted, .cells 31 [.slc 3 0 4 (.lit 0) (.ex m) (.ex cap)], .obj (.deferred (some [])), .av [.p 5 (.at 0), .p 6 (.at 0), .p 7 (.at 0), .p 9 (.at 0), .p 11 (.at 0), .p 12 (.at 0)] (R .ready none)])
    (herr' : ∀ D1 D2 wl, (allPgs ⟨V, PH, G, P⟩ m).foldlM (mStep n f root) ⟨[], [], []⟩ = none → ∀ rg, K false (.tup []) [memB n f, arB 0 base pages taken sealed, spB 1 root, .ro [.rows 4 (.ex m) (rngF V PH G P)], .abs F, .cells 55 [.p 2 (.at 0)], .cells 36 [.i .i64 (.ex 71)], .cells 37 [.p 0 (.at 0)], .abs (MP D1), .cells 91 [.map 8], .abs (MP D2), .cells 92 [.map 10], wanB wl, .cells 31 [.slc 3 0 4 (.lit 0) (.ex m) (.ex cap)], .obj (.deferred (some [])), .av [.p 5 (.at 0), .p 6 (.at 0), .p 7 (.at 0), .p 9 (.at 0), .p 11 (.at 0), .p 12 (.at 0)] (R .done (some .ret)), rg, .gone, .gone]) :
    OkCall kit 56 [.fn (.yield y) [] [], .p 13 (.at 0)] [memB n f, arB 0 base pages taken sealed, spB 1 root, .ro [.rows 4 (.ex m) (rngF V PH G P)], .abs F, .cells 55 [.p 2 (.at 0)], .cells 36 [.i .i64 (.ex 0)], .cells 37 [.p 0 (.at 0)], .abs (MP E1), .cells 91 [.map 8], .abs (MP E2), .cells 92 [.map 10], wanB [], .cells 31 [.slc 3 0 4 (.lit 0) (.ex m) (.ex cap)], .obj (.deferred (some [])), .av [.p 5 (.at 0), .p 6 (.at 0), .p 7 (.at 0), .p 9 (.at 0), .p 11 (.at 0), .p 12 (.at 0)] (R .ready none)] K := by
  conv => cbv
  refine into I79ok 6 ?_
  conv => cbv
  refine byInv I79ok 6 ⟨[2006007, 3006006, 3006009, 4006016], 0⟩ (fun a : Int × PS × List (Value × Value) × List (Value × Value) => ⟨[(8, .i .i64 (.ex a.1)), (7, .i .i64 (.ex (ofN m))), (6, .slc 3 0 4 (.lit 0) (.ex m) (.ex cap)), (0, .fn (.yield y) [] [])],
    [memB n f, arB 0 base pages taken sealed, spB 1 root, .ro [.rows 4 (.ex m) (rngF V PH G P)], .abs F, .cells 55 [.p 2 (.at 0)], .cells 36 [.i .i64 (.ex 0)], .cells 37 [.p 0 (.at 0)], .abs (MP a.2.2.1), .cells 91 [.map 8], .abs (MP a.2.2.2), .cells 92 [.map 10], wanB a.2.1.wanted, .cells 31 [.slc 3 0 4 (.lit 0) (.ex m) (.ex cap)],
      .obj (.deferred (some [])), .av [.p 5 (.at 0), .p 6 (.at 0), .p 7 (.at 0), .p 9 (.at 0), .p 11 (.at 0), .p 12 (.at 0)] (R .ready none)]⟩)
    (fun a => (m - a.1).toNat) (fun a => 0 ≤ a.1 ∧ a.1 ≤ m ∧ (allPgs ⟨V, PH, G, P⟩ a.1.toNat).foldlM (mStep n f root) ⟨[], [], []⟩ = some a.2.1 ∧ a.2.2.1 = entA pairV (seenL a.2.1.seen) ∧ a.2.2.2 = entA (Value.int .u32) a.2.1.tabs) false (0, ⟨[], [], []⟩, E1, E2) (by kernel_rfl) ⟨by omega, by omega, by rfl, hE1, hE2⟩
    (LeSt.mk' [0, 1, 2, 3, 4, 5, 6, 7, 8, 9, 10, 11, 12, 13, 14, 15] (by decide) (by rfl) (by decide) (by cbv) ?_) ?_
  · conv => cbv
    exact ⟨⟨fun j _ => rngF_le _ _, trivial⟩, trivial⟩
  rintro ⟨z, ps, D1, D2⟩ ⟨hz0, hz1, hps, hD1, hD2⟩
  simp only at hz0 hz1 hps hD1 hD2
  obtain ⟨k, hk⟩ : ∃ x : Nat, z.toNat = x := ⟨_, rfl⟩
  obtain ⟨z1, hz1e⟩ : ∃ x, x = z + 1 := ⟨_, rfl⟩
  obtain ⟨vz, hvz⟩ : ∃ x, x = V.getD k 0 := ⟨_, rfl⟩
  obtain ⟨phz, hphz⟩ : ∃ x, x = PH.getD k 0 := ⟨_, rfl⟩
  obtain ⟨gz, hgz⟩ : ∃ x, x = G.getD k 0 := ⟨_, rfl⟩
  obtain ⟨pz, hpz⟩ : ∃ x, x = P.getD k 0 := ⟨_, rfl⟩
  have hvu : 0 ≤ vz ∧ vz < 4294967296 := by rw [hvz]; exact hL.v k
  have hphu : 0 ≤ phz ∧ phz < 4294967296 := by rw [hphz]; exact hL.ph k
  have hpu : 0 ≤ pz ∧ pz < 256 := by rw [hpz]; exact hL.p k
  conv => cbv
  refine Br.mk (fun hc => ?_) (fun hc => ?_)
  · have hc : z < (m : Int) := by have h : z < ofN m := ltI_t.1 hc; rw [ofN_eq] at h; exact h
    have hgood : mayB vz phz gz pz = true := by
      have := hgood0 k (by omega)
      rw [← hvz, ← hphz, ← hgz, ← hpz] at this
      exact this
    have hgd := of_decide_eq_true hgood
    have hok2 : ∀ ps2 (j : Int), 0 ≤ j → j ≤ gz → (allPgs ⟨V, PH, G, P⟩ k ++ pgsOf ⟨V, PH, G, P⟩ k j.toNat).foldlM (mStep n f root) ⟨[], [], []⟩ = some ps2 → PsOk ps2 := fun ps2 j h0 h1 h2 =>
      PsOk.fold hmo _ _ _ PsOk.zero (fun x hx => by
        rcases List.mem_append.1 hx with hx | hx
        · exact allPgs_bd hL hgood0 (by omega) x hx
        · exact pgs_bd hL hgood0 (i := k) (by omega) (by show ((j.toNat : Nat) : Int) ≤ G.getD k 0; rw [← hgz]; omega) x hx) h2
    conv => cbv
    refine ⟨inR.mk hz0 hc, nLt.mk (by simp only [leafs]; omega), ?_⟩
    refine byInv I79ok 6 ⟨[2006007, 3006006, 3006009, 4006016], 0⟩ (fun a : Int × PS × List (Value × Value) × List (Value × Value) => ⟨[(15, .i .u32 (.ex a.1)), (14, .i .u32 (.ex gz)), (4, .p 16 (.at 0)), (8, .i .i64 (.ex z)), (7, .i .i64 (.ex (ofN m))), (6, .slc 3 0 4 (.lit 0) (.ex m) (.ex cap)), (0, .fn (.yield y) [] [])],
      [memB n f, arB 0 base pages taken sealed, spB 1 root, .ro [.rows 4 (.ex m) (rngF V PH G P)], .abs F, .cells 55 [.p 2 (.at 0)], .cells 36 [.i .i64 (.ex 0)], .cells 37 [.p 0 (.at 0)], .abs (MP a.2.2.1), .cells 91 [.map 8], .abs (MP a.2.2.2), .cells 92 [.map 10], wanB a.2.1.wanted, .cells 31 [.slc 3 0 4 (.lit 0) (.ex m) (.ex cap)],
        .obj (.deferred (some [])), .av [.p 5 (.at 0), .p 6 (.at 0), .p 7 (.at 0), .p 9 (.at 0), .p 11 (.at 0), .p 12 (.at 0)] (R .ready none), .cells 30 [.i .u32 (.ex vz), .i .u32 (.ex phz), .i .i64 (.ex gz), .i .u8 (.ex pz)]]⟩)
      (fun a => (gz - a.1).toNat) (fun a => 0 ≤ a.1 ∧ a.1 ≤ gz ∧ (allPgs ⟨V, PH, G, P⟩ k ++ pgsOf ⟨V, PH, G, P⟩ k a.1.toNat).foldlM (mStep n f root) ⟨[], [], []⟩ = some a.2.1 ∧ a.2.2.1 = entA pairV (seenL a.2.1.seen) ∧ a.2.2.2 = entA (Value.int .u32) a.2.1.tabs) false (0, ps, D1, D2) (by kernel_rfl) ⟨by omega, by omega, by rw [← hk]; simpa [pgsOf] using hps, hD1, hD2⟩
      (LeSt.mk' [0, 1, 2, 3, 4, 5, 6, 7, 8, 9, 10, 11, 12, 13, 14, 15, 16] (by decide) (by rfl) (by decide) ?_ ?_) ?_
    · conv => cbv
      refine ⟨?_, trivial⟩
      show gz = convI .u32 (gi G (toN z))
      rw [convI_eq, wrap_u32, gi_eq, toN_eq, hk, ← hgz]; omega
    · conv => cbv
      refine ⟨⟨fun j _ => rngF_le _ _, trivial⟩, ⟨?_, ?_, ?_, ?_, trivial⟩, trivial⟩
      · show vz = gi V (toN z); rw [gi_eq, toN_eq, hk, hvz]
      · show phz = gi PH (toN z); rw [gi_eq, toN_eq, hk, hphz]
      · show gz = gi G (toN z); rw [gi_eq, toN_eq, hk, hgz]
      · show pz = gi P (toN z); rw [gi_eq, toN_eq, hk, hpz]
    rintro ⟨j, ps2, D3, D4⟩ ⟨hj0, hj1, hps2, hD3, hD4⟩
    simp only at hj0 hj1 hps2 hD3 hD4
    obtain ⟨pg, hpg⟩ : ∃ x, x = vz / 4096 + j := ⟨_, rfl⟩
    obtain ⟨first, hfst⟩ : ∃ x, x = pg / 1024 := ⟨_, rfl⟩
    obtain ⟨second, hsec⟩ : ∃ x, x = pg % 1024 := ⟨_, rfl⟩
    obtain ⟨fr, hfr⟩ : ∃ x, x = phz / 4096 + j := ⟨_, rfl⟩
    obtain ⟨j1, hj1e⟩ : ∃ x, x = j + 1 := ⟨_, rfl⟩
    conv => cbv
    refine Br.mk (fun hd => ?_) (fun hd => ?_)
    · have hd : j < gz := ltI_t.1 hd
      have hsh : addI .u32 (shrI .u32 vz 12) j = pg := by
        have := shrI_u32 vz 12 (by decide)
        rw [show ((12 : Nat) : Int) = 12 from rfl] at this
        have hvv := hL.v k
        simp only [← hvz] at hvv
        rw [this, addI_eq, wrap_u32, hpg]
        show (vz / 4096 + j) % _ = _
        omega
      conv => cbv
      refine ECall.by_spec (place_spec pg (by omega) hfst hsec) [] (by decide) (by cbv) ?_ trivial ?_
      · conv => cbv
        exact ⟨hsh.symm, trivial⟩
      conv => cbv
      refine ECall.by_spec (pageOf_spec vz phz gz pz j hphu (by omega) hfr) [] (by decide) (by cbv) (by cbv) trivial ?_
      conv => cbv
      refine YCall.out2 ?_
      refine YCall.of hR 15 rfl rfl rfl (kcode (I := []) trivial 3 ⟨[], 0⟩ (by kernel_rfl) ?_)
      conv => cbv
      refine round1 n base pages taken root sealed f hn hmo hr V PH G P m cap F ps2 first second pz fr (by omega) (by omega) (hok2 ps2 j hj0 (by omega) hps2).len vz phz gz pz D3 D4 hD3 hD4 (fun ps' D1' D2' hst h1 h2 => ?_) (fun D1' D2' wl hst => ?_)
      · conv => cbv
        refine ⟨(j1, ps', D1', D2'), ⟨⟨by show 0 ≤ j1; omega, by show j1 ≤ gz; omega, ?_, h1, h2⟩, by show (gz - j1).toNat < (gz - j).toNat; omega⟩, _, (HImp.refl _).ext, LeSt.mk' (List.range 17) (by decide) (by rfl) (by decide) ?_ ?_⟩
        · show (allPgs ⟨V, PH, G, P⟩ k ++ pgsOf ⟨V, PH, G, P⟩ k j1.toNat).foldlM (mStep n f root) ⟨[], [], []⟩ = some ps'
          have ej : j1.toNat = j.toNat + 1 := by omega
          rw [ej, pgsOf, List.range_succ, List.map_append, ← List.append_assoc, List.foldlM_append]
          rw [pgsOf] at hps2
          rw [hps2]
          have ep : pgOf ⟨V, PH, G, P⟩ k j.toNat = (first, second) := by
            simp only [pgOf]
            rw [← hvz, hfst, hsec, hpg]
            have : ((j.toNat : Nat) : Int) = j := by omega
            rw [this]
          simp [ep, hst]
        · conv => cbv
          refine ⟨?_, trivial⟩
          show j1 = addI .u32 j 1
          rw [addI_eq, wrap_u32, hj1e]; omega
        · conv => cbv
          exact ⟨⟨fun j _ => rngF_le _ _, trivial⟩, trivial⟩
      · have herr : (allPgs ⟨V, PH, G, P⟩ m).foldlM (mStep n f root) ⟨[], [], []⟩ = none := by
          obtain ⟨l2, he⟩ := allPgs_split ⟨V, PH, G, P⟩ (i := k) (m := m) (j := j.toNat) (by omega) (by show ((j.toNat : Nat) : Int) < G.getD k 0; rw [← hgz]; omega)
          have ep : pgOf ⟨V, PH, G, P⟩ k j.toNat = (first, second) := by
            simp only [pgOf]
            rw [← hvz, hfst, hsec, hpg]
            have : ((j.toNat : Nat) : Int) = j := by omega
            rw [this]
          rw [he, List.foldlM_append, hps2]
          simp [ep, hst]
        exact herr' D1' D2' wl herr _
    · have hd : gz ≤ j := ltI_f.1 hd
      have hend : (allPgs ⟨V, PH, G, P⟩ z1.toNat).foldlM (mStep n f root) ⟨[], [], []⟩ = some ps2 := by
        have ez : z1.toNat = k + 1 := by omega
        have ej : j.toNat = (G.getD k 0).toNat := by rw [← hgz]; omega
        rw [ez, allPgs, List.range_succ, List.flatMap_append]
        rw [ej] at hps2
        rw [← hps2]
        simp [allPgs]
      conv => cbv
      refine ⟨(z1, ps2, D3, D4), ⟨⟨by show 0 ≤ z1; omega, by show z1 ≤ (m : Int); omega, hend, hD3, hD4⟩, by show ((m : Int) - z1).toNat < ((m : Int) - z).toNat; omega⟩, _, (HImp.refl _).ext, LeSt.mk' (List.range 16) (by decide) (by rfl) (by decide) ?_ ?_⟩
      · conv => cbv
        refine ⟨?_, trivial⟩
        show z1 = addI .i64 z 1
        rw [addI_eq, IntWalk.i64_in _ (by have := hL.m; omega), hz1e]
      · conv => cbv
        exact ⟨⟨fun j _ => rngF_le _ _, trivial⟩, trivial⟩
  · have hc : (m : Int) ≤ z := by have h : ofN m ≤ z := ltI_f.1 hc; rw [ofN_eq] at h; exact h
    have hzm : z.toNat = m := by omega
    rw [hzm] at hps
    have hpo : PsOk ps := PsOk.fold hmo _ _ _ PsOk.zero (fun x hx => allPgs_bd hL hgood0 (Nat.le_refl _) x hx) hps
    conv => cbv
    exact hok ps D1 D2 hps hpo hD1 hD2
theorem map_spec (n base pages taken root : Int) (sealed : Bool) (f : Int → Int) (V PH G P : List Int) (m cap : Nat) (hL : RgsOk ⟨V, PH, G, P⟩ m) (hn : 1 ≤ n ∧ n ≤ 4096) (hmo : MemOk f) (hr : 0 ≤ root ∧ root < 4294967296) (ha : ArOk n base pages taken)
    {e : Int} {f' : Int → Int} {tk' : Int} (hres : (e, f', tk') = mapP n base pages taken root sealed f ⟨V, PH, G, P⟩ m) :
    Spec1 kit 15 [.p 2 (.at 0), .slc 3 0 4 (.lit 0) (.ex m) (.ex cap)] [memB n f, arB 0 base pages taken sealed, spB 1 root, .ro [.rows 4 (.ex m) (rngF V PH G P)]] false (.i .i64 (.ex e)) [memB n f', arB 0 base pages tk' sealed, spB 1 root, .ro [.rows 4 (.ex m) (rngF V PH G P)]] [] := by
  refine Spec1.mk2 rfl fun F => ?_
  obtain ⟨bad, hbad⟩ : ∃ x, x = (List.range m).any (badR ⟨V, PH, G, P⟩) := ⟨_, rfl⟩
  obtain ⟨E1, hE1⟩ : ∃ x, x = entA pairV (seenL []) := ⟨_, rfl⟩
  obtain ⟨E2, hE2⟩ : ∃ x, x = entA (Value.int .u32) [] := ⟨_, rfl⟩
  have hfin : ∀ {e2 : Int}, (e, f', tk') = (e2, f, taken) → e2 = e ∧ f' = f ∧ tk' = taken := fun h => by
    simp only [Prod.mk.injEq] at h; exact ⟨h.1.symm, h.2.1, h.2.2⟩
  refine into I17ok 6 ?_
  conv => cbv
  refine OkCall.by_spec (bad_spec V PH G P m cap hL hbad) [3] (by decide) (by cbv) ?_ ?_
  · conv => cbv
    exact ⟨⟨fun j _ => rngF_le _ _, trivial⟩, trivial⟩
  conv => cbv
  refine Br.mk (fun hcb => ?_) (fun hcb => ?_)
  · have hcb : bad = true := hcb
    rw [mapP, ← hbad, if_pos hcb] at hres
    obtain ⟨rfl, rfl, rfl⟩ := hfin hres
    conv => cbv
    refine (LeOut.mk' (List.range 5) (by decide) rfl (by decide) (by cbv) ?_).two
    conv => cbv
    exact ⟨⟨fun j _ => rngF_le _ _, trivial⟩, trivial⟩
  · have hcb : bad = false := hcb
    have hgood0 : ∀ j, j < m → mayB (V.getD j 0) (PH.getD j 0) (G.getD j 0) (P.getD j 0) = true := fun j hj => by
      have := List.any_eq_false.1 (hbad.symm.trans hcb) j (List.mem_range.2 hj)
      simp only [badR] at this
      simpa using this
    rw [mapP, ← hbad, if_neg (by rw [hcb]; decide)] at hres
    conv => cbv
    refine XOpN.x (XOpN.makeB (.abs (MP E1)) (fun ρ b w h => by rw [hE1]; exact makeMP ρ b w h) ?_)
    conv => cbv
    refine XOpN.x (XOpN.makeB (.abs (MP E2)) (fun ρ b w h => by rw [hE2]; exact makeMP ρ b w h) ?_)
    conv => cbv
    refine Ok.imp (HImp.fold (S := wanSh []) 13 [] [.cells 93 [.nilslc]] (by decide) (by cbv) (.inl ⟨rfl, rfl⟩)) ?_
    refine Ok.weak (q' := false) (st' := ⟨[(34, .fn (.func 56) [] [.p 13 (.at 0)]), (1, .slc 3 0 4 (.lit 0) (.ex m) (.ex cap)), (2, .p 5 (.at 0)), (4, .p 6 (.at 0)), (5, .p 7 (.at 0)), (6, .p 9 (.at 0)), (7, .p 11 (.at 0)), (8, .p 12 (.at 0))],
      [memB n f, arB 0 base pages taken sealed, spB 1 root, .ro [.rows 4 (.ex m) (rngF V PH G P)], .abs F, .cells 55 [.p 2 (.at 0)], .cells 36 [.i .i64 (.ex 0)], .cells 37 [.p 0 (.at 0)], .abs (MP E1), .cells 91 [.map 8], .abs (MP E2), .cells 92 [.map 10], wanB [], .cells 31 [.slc 3 0 4 (.lit 0) (.ex m) (.ex cap)]]⟩)
      (LeSt.mk' [0, 1, 2, 3, 4, 5, 6, 8, 9, 10, 11, 12, 13, 14] (by decide) (by rfl) (by decide) (by cbv) ?_) ?_
    · conv => cbv
      exact ⟨⟨fun j _ => rngF_le _ _, trivial⟩, trivial⟩
    refine Ok.rangeFunc [2, 4, 5, 6, 7, 8] rfl rfl rfl fun y R hR => ?_
    refine map_pass1 hR n base pages taken root sealed f V PH G P m cap hL hn hmo hr F hgood0 E1 E2 hE1 hE2 (fun ps D1 D2 hps hpo hD1 hD2 => ?_) (fun D1 D2 wl hps rg => ?_)
    · rw [hps] at hres
      have htl := map_tail n base pages taken root sealed f hn hr ha V PH G P m cap hL hgood0 F ps D1 D2 hD2 hpo.tb ps.wanted rfl ps.wanted.length rfl hpo.len hres
      refine ⟨.normal, ?_⟩
      conv => cbv
      refine Ok.weak (LeSt.mk' (List.range 16) (by decide) rfl (by decide) (by cbv) ?_) htl
      conv => cbv
      exact ⟨⟨fun j _ => rngF_le _ _, trivial⟩, trivial⟩
    · rw [hps] at hres
      obtain ⟨rfl, rfl, rfl⟩ := hfin hres
      refine ⟨.ret, ?_⟩
      conv => cbv
      refine (LeOut.mk' (List.range 5) (by decide) rfl (by decide) (by cbv) ?_).two
      conv => cbv
      exact ⟨⟨fun j _ => rngF_le _ _, trivial⟩, trivial⟩
end Go.Proofs.YtafhmkedblpdlaaDoor
end

/-
  tables.Walk for all walks at once; memories stay well formed.
-/
section
namespace Go.Proofs.YtafhmkedblpdlaaDoor
open Go Go.Vex
set_option maxRecDepth 20000
set_option maxHeartbeats 4000000
theorem walk_uni (n : Int) (f : Int → Int) (root v a : Int) (hn : 1 ≤ n ∧ n ≤ 4096) (hm : MemOk f) (hr : 0 ≤ root ∧ root < 4294967296) (hv : 0 ≤ v ∧ v < 4294967296) {R : Bool → SV → List Blk → List Blk → Prop}
    (hR : ∀ addr steps fault cap, walkP n f root v a = (addr, steps, fault) → steps.length ≤ cap → R false (.tup [.i .u32 (.ex addr), .slc 2 0 2 (.lit 0) (.ex steps.length) (.ex cap), .i .i64 (.ex fault)]) [memB n f] [.cells 161 [.rows 2 (.ex steps.length) (stepF steps), .junk 2 (.ex (cap - steps.length))]]) :
    SpecM kit 63 [.p 0 (.at 0), .i .u32 (.ex root), .i .u32 (.ex v), .i .i64 (.ex a)] [memB n f] R := by
  refine ⟨fun F => OkCall.nilRes ?_⟩
  refine ((walk_gen n f root v a hn hm hr hv (R := fun q u hp1 new => (∃ hp1' new', hp1'.length = 1 ∧ hp1 = hp1' ∧ new = new' ∧ R q u hp1' new') ∨ ∃ addr fault, walkP n f root v a = (addr, [], fault) ∧ q = false ∧ u = .tup [.i .u32 (.ex addr), .nilslc, .i .i64 (.ex fault)] ∧ hp1 = [memB n f] ∧ new = [])
    (fun addr steps fault cap hw hc => ?_)).out F).cons ?_
  · cases steps with
    | nil => exact .inr ⟨addr, fault, hw, rfl, rfl, rfl, rfl⟩
    | cons s r => exact .inl ⟨_, _, rfl, rfl, rfl, hR addr (s :: r) fault cap hw hc⟩
  · rintro q u hp' ⟨hp1, new, hlen, rfl, ⟨hp1', new', hl, rfl, rfl, hR'⟩ | ⟨addr, fault, hw, rfl, rfl, rfl, rfl⟩⟩
    · exact .inl ⟨_, _, hlen, rfl, hR'⟩
    · refine .inr ⟨_, 1, 0, 2, .cells 161 [.rows 2 (.ex 0) (stepF []), .junk 2 (.ex 0)], rfl, rfl, nil_rows 161 2 _, .tup [.i .u32 (.ex addr), .slc 2 0 2 (.lit 0) (.ex 0) (.ex 0), .i .i64 (.ex fault)], ?_, _, _, rfl, rfl, hR addr [] fault 0 hw (Nat.le_refl _)⟩
      exact ⟨⟨rfl, rfl⟩, ⟨rfl, rfl, rfl, rfl, rfl, rfl⟩, ⟨rfl, rfl⟩, trivial⟩
/-- Where it is known what is found. -/
theorem walk_is (n : Int) (f : Int → Int) (root v a : Int) (hn : 1 ≤ n ∧ n ≤ 4096) (hm : MemOk f) (hr : 0 ≤ root ∧ root < 4294967296) (hv : 0 ≤ v ∧ v < 4294967296) {addr fault : Int} {A B : List Int} {m : Nat}
    (hw : ∃ steps, walkP n f root v a = (addr, steps, fault) ∧ A = steps.map (·.1) ∧ B = steps.map (·.2) ∧ m = steps.length) :
    SpecM kit 63 [.p 0 (.at 0), .i .u32 (.ex root), .i .u32 (.ex v), .i .i64 (.ex a)] [memB n f] fun q u hp1 new => q = false ∧ hp1 = [memB n f] ∧ ∃ cap j, m ≤ cap ∧ u = .tup [.i .u32 (.ex addr), .slc 2 0 2 (.lit 0) (.ex m) (.ex cap), .i .i64 (.ex fault)] ∧ new = [.cells 161 [.rows 2 (.ex m) (stepG A B), .junk 2 (.ex j)]] := by
  obtain ⟨steps, hw, rfl, rfl, rfl⟩ := hw
  refine walk_uni n f root v a hn hm hr hv fun addr' steps' fault' cap hw' hc => ?_
  rw [hw] at hw'
  simp only [Prod.mk.injEq] at hw'
  obtain ⟨rfl, rfl, rfl⟩ := hw'
  exact ⟨rfl, rfl, cap, _, hc, rfl, rfl⟩
/-! ### Are two lists of steps the same? -/
theorem stepG_le (A B : List Int) (τ : Nat → Nat) (j : Nat) : leL (stepG A B j) (renL τ (stepG A B j)) := ⟨⟨rfl, rfl⟩, ⟨rfl, rfl⟩, trivial⟩
theorem spliceF_ok {f : Int → Int} (h : MemOk f) (at_ : Int) {src : List Int} (hs : ∀ z ∈ src, 0 ≤ z ∧ z < 256) : MemOk (spliceF f at_ src) := fun a => by
  unfold spliceF
  split
  · rename_i hc
    refine hs _ ?_
    rw [List.getD_eq_getElem?_getD, List.getElem?_eq_getElem (by omega)]; simp
  · exact h a
theorem b4_ok (v : Int) : ∀ z ∈ b4 v, 0 ≤ z ∧ z < 256 := fun z hz => by
  simp only [b4, List.mem_cons, List.not_mem_nil, or_false] at hz
  omega
theorem storeF_ok {f : Int → Int} (h : MemOk f) (n at_ v : Int) : MemOk (storeF f n at_ v) := by
  unfold storeF; split
  · exact spliceF_ok h _ (b4_ok v)
  · exact h
theorem zeroF_ok {f : Int → Int} (h : MemOk f) (at_ : Int) : MemOk (zeroF f at_) := fun a => by
  unfold zeroF; split
  · decide
  · exact h a
theorem layF_ok {f : Int → Int} (h : MemOk f) (n tb ix k p fr : Int) : MemOk (layF n f tb ix k p fr) := storeF_ok h _ _ _
theorem tkF_ok {n base root : Int} : ∀ (l : List Int) (s : MS), MemOk s.f → MemOk (l.foldl (tkStep n base root) s).f
  | [], s, h => h
  | x :: r, s, h => tkF_ok r _ (layF_ok (zeroF_ok h _) _ _ _ _ _ _)
theorem lyF_ok {n : Int} {tabs : List (Int × Value)} : ∀ (l : List PgE) (f : Int → Int), MemOk f → MemOk (l.foldl (lyStep n tabs) f)
  | [], f, h => h
  | x :: r, f, h => lyF_ok r _ (layF_ok h _ _ _ _ _ _)
theorem mapP_ok {n base pages taken root : Int} {sealed : Bool} {f : Int → Int} {L : Rgs} {m : Nat} (h : MemOk f) : MemOk (mapP n base pages taken root sealed f L m).2.1 := by
  unfold mapP
  split
  · exact h
  · split
    · exact h
    · split
      · exact h
      · split
        · exact h
        · exact lyF_ok _ _ (tkF_ok _ _ h)
end Go.Proofs.YtafhmkedblpdlaaDoor
end

/-
  mmu: new ones, roots, what the TLB says.
-/
section
theorem Go.Vex.OkLoop.gen2 {C : Go.Vex.Kit} {nt n0 : Nat} {c : Go.Code} {q : Bool} {st : Go.Vex.St} {Q : Bool → Go.Vex.Ex → Go.Vex.St → Prop} (h : ∀ Q', Q' = Q → Go.Vex.OkLoop C nt n0 c q st Q') : Go.Vex.OkLoop C nt n0 c q st Q := h Q rfl
namespace Go.Proofs.YtafhmkedblpdlaaDoor
open Go Go.Vex
set_option maxRecDepth 20000
set_option maxHeartbeats 4000000
/-- Roots: of each cell. -/
abbrev RE := List (Int × Int)
def rtE (R : RE) : List (Value × Value) := entA (Value.int .i64) (vm (Value.int .u32) R)
theorem mt68 : MapT kit 68 3 22 (.int .i64) (.int .u32 0) := ⟨by rw [kit_P]; kernel_rfl, by rw [kit_P]; kernel_rfl, by rw [kit_P]; kernel_rfl⟩
theorem ki3 : KeyT kit 3 (Value.int .i64) := KeyT.int (k' := .i64) (by rw [kit_P]; kernel_rfl)
noncomputable abbrev muB (a b c d : Nat) : Blk := .cells 70 [.p a (.at 0), .p b (.at 0), .p c (.at 0), .map d]
noncomputable def Im25 : FnT := [(25, fi Tryd.f25 ⟨[], 0⟩)]
theorem Im25ok : FnsOk kit Im25 := ⟨fo25 _, trivial⟩
theorem tlnew_spec (sl : Int) (h : 1 ≤ sl ∧ sl ≤ 64) : Spec1 kit 25 [.i .i64 (.ex sl)] [] false (.tup [.p 2 (.at 0), .i .i64 (.lit 0)]) [] [.abs (MP []), tlB 1 sl 0] := by
  refine Spec1.mk2 rfl fun F => ?_
  refine into Im25ok 6 ?_
  conv => cbv
  refine Br.no (ltI_f.2 h.1) ?_
  conv => cbv
  refine Br.no (ltI_f.2 h.2) ?_
  conv => cbv
  refine XOpN.x (XOpN.makeB (.abs (MP [])) (fun ρ b w h => makeMP ρ b w h) ?_)
  conv => cbv
  exact (LeOut.mk' [0, 1, 2] (by decide) (by rfl) (by decide) (by cbv) (by cbv)).two
noncomputable def Im26 : FnT := [(26, fi Tryd.f26 ⟨[], 0⟩)]
theorem Im26ok : FnsOk kit Im26 := ⟨fo26 _, trivial⟩
theorem munew_spec (n S W L sl now : Int) (f : Int → Int) (C : Ca) (XE : List (Value × Value)) : Spec1 kit 26 [.p 0 (.at 0), .p 1 (.at 0), .p 2 (.at 0)] [memB n f, caC S W L C, tlB 3 sl now, .abs (MP XE)] false (.tup [.p 6 (.at 0), .i .i64 (.lit 0)]) [memB n f, caC S W L C, tlB 3 sl now, .abs (MP XE)] [.abs (MP []), muB 0 1 2 5] := by
  refine Spec1.mk2 rfl fun F => ?_
  refine into Im26ok 6 ?_
  conv => cbv
  refine XOpN.x (XOpN.makeB (.abs (MP [])) (fun ρ b w h => makeMP ρ b w h) ?_)
  conv => cbv
  refine (LeOut.mk' (List.range 7) (by decide) (by rfl) (by decide) (by cbv) ?_).two
  conv => cbv
  exact ⟨⟨fun j _ => rowS_le _ _ _ _ _, trivial⟩, trivial⟩
noncomputable def Im16 : FnT := [(16, fi Tryd.f16 ⟨[], 0⟩), (42, fi Tryd.f42 ⟨[], 0⟩)]
theorem Im16ok : FnsOk kit Im16 := ⟨fo16 _, fo42 _, trivial⟩
theorem root_spec (n S W L sl now c t : Int) (f : Int → Int) (C : Ca) (R : RE) (hc : 1 ≤ c ∧ c ≤ 8) (ht : 0 ≤ t ∧ t % 4096 = 0) {X X' : List (Value × Value)} (hX : X = rtE R) (hX' : X' = rtE (putP c t R)) :
    Spec1 kit 16 [.p 0 (.at 0), .i .i64 (.ex c), .i .u32 (.ex t)] [muB 1 2 3 4, memB n f, caC S W L C, tlB 5 sl now, .abs (MP X), .abs (MP [])] false (.i .i64 (.lit 0)) [muB 1 2 3 4, memB n f, caC S W L C, tlB 5 sl now, .abs (MP X'), .abs (MP [])] [] := by
  refine Spec1.mk2 rfl fun F => ?_
  refine into Im16ok 6 ?_
  conv => cbv
  refine Br.no (ltI_f.2 hc.1) ?_
  conv => cbv
  refine Br.no (ltI_f.2 hc.2) ?_
  conv => cbv
  refine Br.no (neI_f.2 (by show remI t 4096 = 0; rw [remI_eq, Int.tmod_eq_emod_of_nonneg ht.1]; exact ht.2)) ?_
  conv => cbv
  refine XOpN.x (updateE (E' := X') (hX.trans rfl) mt68 ki3 rfl rfl rfl rfl c (fun ρ c h => den_i h) (.int .u32 t) (fun ρ c h => den_i h) (by rw [hX', rtE, putA_vm]) ?_)
  conv => cbv
  refine XOpN.x (XOpN.lenMP mt135t.u rfl rfl (.lit 0) rfl ?_)
  conv => cbv
  refine XOp.rangeMP mt135t rfl rfl fun es clock hes hst => ?_
  conv => cbv
  have hes0 : es = #[] := by
    have : es.toList = [] := by simpa using congrArg List.length hes
    exact Array.toList_eq_nil_iff.1 this
  refine OkLoop.gen2 fun Q1 hQ1 => ?_
  refine byInv Im16ok 6 ⟨[], 0⟩ (fun _ : Unit => ⟨[(16, .p 8 (.at 0)), (5, .i .i64 (.lit 0)), (0, .p 3 (.at 0)), (1, .slc 7 0 1 (.lit 0) (.lit 1) (.lit 1))], [muB 1 2 3 4, memB n f, caC S W L C, tlB 5 sl now, .abs (MP X'), .obj (.map es clock), .abs F, .cells 3 [.i .i64 (.ex c)], .av [.map 5] (IT clock #[] clock)]⟩)
    (fun _ => 0) (fun _ => True) false () (by kernel_rfl) trivial (LeSt.mk' (List.range 9) (by decide) (by rfl) (by decide) (by cbv) (by (conv => cbv); exact ⟨⟨fun j _ => rowS_le _ _ _ _ _, trivial⟩, trivial⟩)) ?_
  rintro ⟨⟩ _
  conv => cbv
  refine XOp.nextMP rfl rfl rfl hst.2 (Nat.le_refl _) (fun h0 => ?_) (fun e he => ?_)
  · subst hQ1
    conv => cbv
    refine XOpN.x (XOpN.pre (HImp.at 5 rfl (BImp.toMP hes hst)) (XOpN.lenMP mt135t.u rfl rfl (.lit 0) rfl ?_))
    conv => cbv
    exact (LeOut.mk' (List.range 7) (by decide) (by rfl) (by decide) (by cbv) (by (conv => cbv); exact ⟨⟨fun j _ => rowS_le _ _ _ _ _, trivial⟩, trivial⟩)).two
  · obtain ⟨hem, _⟩ := mem_left he
    rw [hes0] at hem
    simp at hem
end Go.Proofs.YtafhmkedblpdlaaDoor
end

/-
  VEX, part B: regions whose orders are all walked; code in which a region behind a cut is not looked at.
-/
section
namespace Go.Vex
noncomputable section
/-- As drawsChkO, but for what lies behind a cut. -/
def drawsChkC (ob : List Nat) : Code → Bool
  | .region id ops d => match d with
    | true => drawChk (ovr ob id) ops
    | false => true
  | .seq a b => cutAt ob a || (drawsChkC ob a && drawsChkC ob b)
  | .cond _ a b => drawsChkC ob a && drawsChkC ob b
  | .block _ b => drawsChkC ob b
  | .scope b => drawsChkC ob b
  | .loop b => drawsChkC ob b
  | .rangeFunc _ _ a b => drawsChkC ob a && drawsChkC ob b
  | _ => true
theorem codeS_soundC {C : Kit} {H : Handler} (hH : HOk C H) {O : Opt} {E : Env} : ∀ (c : Code) (q : Bool) (st : St) (Q : Bool → Ex → St → Prop) (a : Act) (w : World), drawsChkC O.ob c = true → SSat E q st a w → codeS C H O C.T C.M E.nt E.ρ0.length c q st Q → c.wpIn (FR E.rd) 0 C.P (Lift E Q) a w := by
  intro c
  induction c with
  | skip => intro q st Q a w hch hs h; exact wpIn_skip ⟨q, st, hs, h⟩
  | region id ops draw =>
    intro q st Q a w hch hs h
    cases draw with
    | true =>
      refine wpIn_draw C.hO (drawS_sound hH (ob := O.ob) (D := ovr O.ob id) ovr_off hch _ 0 (q && !(ovr O.ob id).ov) st a _ rfl (Nat.zero_le _) (fun hv => by rw [hv]; simp) ((hs.drewN 1).weakq (fun h => by simp at h; exact h.1)) ?_)
      exact h
    | false => exact wpIn_region_list (listS_sound hH ops.toList q st a w hs h)
  | seq x y ihx ihy =>
    intro q st Q a w hch hs h
    unfold codeS at h
    split at h
    · exact h.out E a w rfl rfl hs
    rename_i hcut
    simp only [drawsChkC, Bool.or_eq_true, Bool.and_eq_true, hcut, Bool.false_eq_true, false_or] at hch
    refine wpIn_seq (wpIn_mono (ihx q st _ a w hch.1 hs h) ?_)
    intro e a' w' he
    cases e with
    | normal => obtain ⟨q', st', h1, h2⟩ := he; exact ihy q' st' Q a' w' hch.2 h1 h2
    | exit id => exact he
    | ret => exact he
    | goto l => exact he.elim
    | panic ch => exact he.elim
    | outgrown => exact he.elim
  | cond c x y ihx ihy =>
    intro q st Q a w hch hs h
    simp only [drawsChkC, Bool.and_eq_true] at hch
    unfold codeS at h
    have hs' := hs
    obtain ⟨ρ, h1, h2, h3, h4, h5⟩ := hs'
    obtain ⟨v, g1, g2⟩ := ev1_sound h3 h2 h
    split at g2
    · rename_i t
      cases g1 with
      | b hb =>
        refine wpIn_cond hb ?_
        cases t
        · exact ihy q st Q a w hch.2 hs (by simpa using g2)
        · exact ihx q st Q a w hch.1 hs (by simpa using g2)
    · rename_i t
      cases g1 with
      | b hb =>
        rw [Br_eq] at g2
        simp only [S.val_ex] at hb
        refine wpIn_cond hb ?_
        cases t
        · exact ihy q st Q a w hch.2 hs (g2.2 rfl)
        · exact ihx q st Q a w hch.1 hs (g2.1 rfl)
    · exact g2.elim
  | block id b ih =>
    intro q st Q a w hch hs h
    refine wpIn_block (wpIn_mono (ih q st _ a w hch hs h) ?_)
    intro e a' w' he
    cases e with
    | normal => exact he
    | exit id' =>
      obtain ⟨q', st', h1, h2⟩ := he
      simp only at h2
      simp only [Exit.inBlock]
      split at h2
      · rename_i e; rw [if_pos e]; exact ⟨q', st', h1, h2⟩
      · rename_i e; rw [if_neg e]; exact ⟨q', st', h1, h2⟩
    | ret => exact he
    | goto l => exact he.elim
    | panic ch => exact he.elim
    | outgrown => exact he.elim
  | scope b ih =>
    intro q st Q a w hch hs h
    refine wpIn_scope (wpIn_mono (ih q st Q a w hch hs h) ?_)
    intro e a' w' he
    cases e <;> first | exact he | exact he.elim
  | exit id => intro q st Q a w hch hs h; exact wpIn_exit ⟨q, st, hs, h⟩
  | ret => intro q st Q a w hch hs h; exact wpIn_ret ⟨q, st, hs, h⟩
  | loop b ih =>
    intro q st Q a w hch hs h
    have key : ∀ (n : Nat) (q : Bool) (st : St) (a : Act) (w : World), SSat E q st a w →
        iterS (fun q st Q => codeS C H O C.T C.M E.nt E.ρ0.length b q st Q) (fun q st => OkLoop C E.nt E.ρ0.length b q st Q) Q n q st → LoopW E.rd C.P b (Lift E Q) a w := by
      intro n
      induction n with
      | zero => intro q st a w hs h; exact h.out E a w rfl rfl hs
      | succ n ihn =>
        intro q st a w hs h
        refine LoopW.round (wpIn_mono (ih q st _ a w hch hs h) ?_)
        intro e a' w' he
        cases e with
        | normal => obtain ⟨q', st', h1, h2⟩ := he; exact ihn q' st' a' w' h1 h2
        | exit id => exact he
        | ret => exact he
        | goto l => exact he.elim
        | panic ch => exact he.elim
        | outgrown => exact he.elim
    exact (key O.lf q st a w hs h).wp
  | rangeFunc f ps aa b ih1 ih2 => intro q st Q a w hch hs h; exact h.out E a w rfl rfl hs
  | label l => intro q st Q a w hch hs h; exact h.out E a w rfl rfl hs
  | goto l => intro q st Q a w hch hs h; exact h.out E a w rfl rfl hs
  | refuse s => intro q st Q a w hch hs h; exact h.out E a w rfl rfl hs

theorem Ok.of_codeC {C : Kit} {H : Handler} (hH : HOk C H) (O : Opt) {nt n0 : Nat} {c : Code} {q : Bool} {st : St} {Q : Bool → Ex → St → Prop}
    (hch : drawsChkC O.ob c = true) (h : codeS C H O C.T C.M nt n0 c q st Q) : Ok C nt n0 c q st Q := ⟨fun E a w h1 h2 hs => codeS_soundC hH c q st Q a w hch hs (by subst h1; subst h2; exact h)⟩

/-! ### All orders -/
abbrev Ent := Nat × Oper × List Nat
def depsE : List Edge → List Nat
  | [] => []
  | e :: r => match Region.binds .any e with
    | true => e.on :: depsE r
    | false => depsE r
theorem mem_depsE {d : Nat} : ∀ {l : List Edge}, d ∈ depsE l ↔ ∃ e ∈ l, Region.binds .any e = true ∧ e.on = d
  | [] => by simp [depsE]
  | e :: r => by
    unfold depsE
    cases hb : Region.binds .any e with
    | true =>
      rw [List.mem_cons, mem_depsE]
      constructor
      · rintro (h | ⟨x, h1, h2, h3⟩)
        · exact ⟨e, by simp, hb, h.symm⟩
        · exact ⟨x, by simp [h1], h2, h3⟩
      · rintro ⟨x, h1, h2, h3⟩
        rcases List.mem_cons.1 h1 with h1 | h1
        · subst h1; exact .inl h3.symm
        · exact .inr ⟨x, h1, h2, h3⟩
    | false =>
      rw [mem_depsE]
      constructor
      · rintro ⟨x, h1, h2, h3⟩
        exact ⟨x, by simp [h1], h2, h3⟩
      · rintro ⟨x, h1, h2, h3⟩
        rcases List.mem_cons.1 h1 with h1 | h1
        · subst h1; rw [hb] at h2; cases h2
        · exact ⟨x, h1, h2, h3⟩
def remOf : List Oper → Nat → List Ent
  | [], _ => []
  | o :: r, k => (k, o, depsE o.after.toList) :: remOf r (k + 1)
def rmN (i : Nat) : List Nat → List Nat
  | [] => []
  | d :: r => if d = i then rmN i r else d :: rmN i r
theorem mem_rmN {i d : Nat} : ∀ {l : List Nat}, d ∈ rmN i l ↔ d ∈ l ∧ d ≠ i
  | [] => by simp [rmN]
  | x :: r => by
    unfold rmN
    by_cases h : x = i
    · rw [if_pos h, mem_rmN]; constructor
      · rintro ⟨h1, h2⟩; exact ⟨by simp [h1], h2⟩
      · rintro ⟨h1, h2⟩; rcases List.mem_cons.1 h1 with h1 | h1
        · exact absurd (h1.trans h) h2
        · exact ⟨h1, h2⟩
    · rw [if_neg h, List.mem_cons, mem_rmN, List.mem_cons]; constructor
      · rintro (h1 | h1)
        · exact ⟨.inl h1, by rw [h1]; exact h⟩
        · exact ⟨.inr h1.1, h1.2⟩
      · rintro ⟨h1 | h1, h2⟩
        · exact .inl h1
        · exact .inr ⟨h1, h2⟩
def rmE (i : Nat) : List Ent → List Ent
  | [] => []
  | (j, o, ds) :: r => if j = i then rmE i r else (j, o, rmN i ds) :: rmE i r
theorem mem_rmE {i : Nat} {x : Ent} : ∀ {l : List Ent}, x ∈ rmE i l ↔ ∃ ds, (x.1, x.2.1, ds) ∈ l ∧ x.1 ≠ i ∧ x.2.2 = rmN i ds
  | [] => by simp [rmE]
  | (j, o, ds) :: r => by
    obtain ⟨a, b, c⟩ := x
    unfold rmE
    by_cases h : j = i
    · rw [if_pos h, mem_rmE]; constructor
      · rintro ⟨d, h1, h2, h3⟩; exact ⟨d, by simp [h1], h2, h3⟩
      · rintro ⟨d, h1, h2, h3⟩
        rcases List.mem_cons.1 h1 with h1 | h1
        · simp only [Prod.mk.injEq] at h1; exact absurd (h1.1.trans h) h2
        · exact ⟨d, h1, h2, h3⟩
    · rw [if_neg h, List.mem_cons, mem_rmE]; constructor
      · rintro (h1 | ⟨d, h1, h2, h3⟩)
        · simp only [Prod.mk.injEq] at h1
          obtain ⟨rfl, rfl, rfl⟩ := h1
          exact ⟨ds, by simp, h, rfl⟩
        · exact ⟨d, by simp [h1], h2, h3⟩
      · rintro ⟨d, h1, h2, h3⟩
        rcases List.mem_cons.1 h1 with h1 | h1
        · simp only [Prod.mk.injEq] at h1
          obtain ⟨rfl, rfl, rfl⟩ := h1
          exact .inl (by rw [show c = rmN i d from h3])
        · exact .inr ⟨d, h1, h2, h3⟩
theorem rmE_len {i : Nat} : ∀ {l : List Ent}, (rmE i l).length ≤ l.length
  | [] => Nat.le_refl _
  | (j, o, ds) :: r => by
    unfold rmE
    have := rmE_len (i := i) (l := r)
    split
    · simp; omega
    · simp; omega
theorem rmE_lt {i : Nat} : ∀ {l : List Ent}, (∃ x ∈ l, x.1 = i) → (rmE i l).length < l.length
  | [], h => by simp at h
  | (j, o, ds) :: r, h => by
    unfold rmE
    have := rmE_len (i := i) (l := r)
    split
    · simp; omega
    · rename_i hj
      obtain ⟨x, h1, h2⟩ := h
      rcases List.mem_cons.1 h1 with h1 | h1
      · subst h1; exact absurd h2 hj
      · have := rmE_lt (i := i) (l := r) ⟨x, h1, h2⟩
        simp; omega
def allR (F : Nat → Oper → Prop) : List Ent → Prop
  | [] => True
  | (i, o, ds) :: r => match ds with
    | [] => F i o ∧ allR F r
    | _ :: _ => allR F r
theorem allR_mem {F : Nat → Oper → Prop} {i : Nat} {o : Oper} : ∀ {l : List Ent}, allR F l → (i, o, []) ∈ l → F i o
  | (j, o', ds) :: r, h, hm => by
    rcases List.mem_cons.1 hm with hm' | hm'
    · simp only [Prod.mk.injEq] at hm'
      obtain ⟨rfl, rfl, rfl⟩ := hm'
      exact h.1
    · unfold allR at h
      split at h
      · exact allR_mem h.2 hm'
      · exact allR_mem h hm'
/-- All orders, each walked. -/
def anyS (C : Kit) (H : Handler) (ob : List Nat) (T : Tree) (M : MT) (nt : Nat) (all : List Oper) : Nat → List Ent → Bool → St → (Bool → Ex → St → Prop) → Prop
  | F, rem, q, st, Q => match rem with
    | [] => Q q .normal st
    | x :: r => match F with
      | 0 => False
      | F + 1 => allR (fun i o => if dstOk nt o.dst = true then
          wantS all o.guard st.fr fun want fr =>
            if want = true then stepS C H T M o.op fr st.hp q fun q v hp => obsV ob o.dst v fun v => anyS C H ob T M nt all F (rmE i (x :: r)) q ⟨putS o.dst v fr, hp⟩ Q
            else anyS C H ob T M nt all F (rmE i (x :: r)) q ⟨putS o.dst (.raw undef) fr, st.hp⟩ Q
        else False) (x :: r)
structure RemOk (all : Array Oper) (listed : Array Bool) (rem : List Ent) : Prop where
  ent : ∀ x ∈ rem, all[x.1]? = some x.2.1 ∧ listed.getD x.1 true = false ∧ ∀ d ∈ x.2.2, (∃ e ∈ x.2.1.after, Region.binds .any e = true ∧ e.on = d) ∧ listed.getD d false = false
  cov : ∀ i, listed.getD i true = false → ∃ o ds, (i, o, ds) ∈ rem
  size : listed.size = all.size
theorem RemOk.rm {all : Array Oper} {listed : Array Bool} {rem : List Ent} (h : RemOk all listed rem) (i : Nat) : RemOk all (listed.setIfInBounds i true) (rmE i rem) := by
  refine ⟨fun x hx => ?_, fun j hj => ?_, by rw [Array.size_setIfInBounds]; exact h.size⟩
  · obtain ⟨ds, h1, h2, h3⟩ := mem_rmE.1 hx
    obtain ⟨g1, g2, g3⟩ := h.ent _ h1
    refine ⟨g1, by rw [getD_set_ne _ (Ne.symm h2)]; exact g2, fun d hd => ?_⟩
    rw [h3] at hd
    obtain ⟨d1, d2⟩ := mem_rmN.1 hd
    obtain ⟨e1, e2⟩ := g3 d d1
    exact ⟨e1, by rw [getD_set_ne _ (Ne.symm d2)]; exact e2⟩
  · by_cases hij : i = j
    · subst hij
      exfalso
      by_cases hlt : i < listed.size
      · simp [hlt] at hj
      · simp [hlt] at hj
    · rw [getD_set_ne _ hij] at hj
      obtain ⟨o, ds, hm⟩ := h.cov j hj
      exact ⟨o, rmN i ds, mem_rmE.2 ⟨ds, hm, Ne.symm hij, rfl⟩⟩
theorem RemOk.start (all : Array Oper) : RemOk all (listedTo all.size 0) (remOf all.toList 0) := by
  have key : ∀ (l : List Oper) (k : Nat), (∀ j, l[j]? = all.toList[k + j]?) → (∀ x ∈ remOf l k, k ≤ x.1 ∧ all.toList[x.1]? = some x.2.1 ∧ x.2.2 = depsE x.2.1.after.toList) ∧ ∀ i, k ≤ i → i < k + l.length → ∃ o ds, (i, o, ds) ∈ remOf l k := by
    intro l
    induction l with
    | nil => intro k _; exact ⟨by simp [remOf], fun i h1 h2 => by simp at h2; omega⟩
    | cons o r ih =>
      intro k hl
      obtain ⟨i1, i2⟩ := ih (k + 1) (fun j => by have := hl (j + 1); rw [List.getElem?_cons_succ] at this; rw [this, show k + (j + 1) = k + 1 + j by omega])
      refine ⟨fun x hx => ?_, fun i h1 h2 => ?_⟩
      · rcases List.mem_cons.1 hx with hx | hx
        · subst hx
          exact ⟨Nat.le_refl _, by have := hl 0; simpa using this.symm, rfl⟩
        · obtain ⟨g1, g2, g3⟩ := i1 x hx
          exact ⟨by omega, g2, g3⟩
      · by_cases hik : i = k
        · subst hik; exact ⟨o, _, List.mem_cons_self ..⟩
        · obtain ⟨o', ds, hm⟩ := i2 i (by omega) (by simp at h2; omega)
          exact ⟨o', ds, List.mem_cons_of_mem _ hm⟩
  obtain ⟨k1, k2⟩ := key all.toList 0 (fun j => by rw [Nat.zero_add])
  refine ⟨fun x hx => ?_, fun i hi => ?_, listedTo_size _ _⟩
  · obtain ⟨_, g2, g3⟩ := k1 x hx
    have g2' : all[x.1]? = some x.2.1 := by simpa using g2
    have hlt := (Array.getElem?_eq_some_iff.1 g2').1
    refine ⟨g2', by simp [listedTo, hlt], fun d hd => ?_⟩
    rw [g3] at hd
    obtain ⟨e, he, hb, hd⟩ := mem_depsE.1 hd
    refine ⟨⟨e, by simpa using he, hb, hd⟩, ?_⟩
    by_cases hdl : d < all.size
    · simp [listedTo, hdl]
    · simp [listedTo, hdl]
  · have hlt : i < all.size := by
      by_cases hlt : i < all.size
      · exact hlt
      · simp [listedTo, hlt] at hi
    exact k2 i (Nat.zero_le _) (by simpa using hlt)
theorem RemOk.some_ready {all : Array Oper} {listed : Array Bool} {rem : List Ent} (hlow : ∀ (k : Nat) o, all[k]? = some o → ∀ e ∈ o.after, Region.binds .any e = true → e.on < k) (h : RemOk all listed rem) (hne : rem ≠ []) : ∃ i, i ∈ Region.ready .any all listed := by
  have key : ∀ (n i : Nat), i < n → listed.getD i true = false → ∃ i, i ∈ Region.ready .any all listed := by
    intro n
    induction n with
    | zero => intro i hi; omega
    | succ n ih =>
      intro i hi hli
      obtain ⟨o, ds, hm⟩ := h.cov i hli
      obtain ⟨g1, g2, g3⟩ := h.ent _ hm
      by_cases hall : ∀ e ∈ o.after, Region.binds .any e = true → listed.getD e.on false = true
      · exact ⟨i, mem_ready.2 ⟨hli, o, g1, hall⟩⟩
      · have : ∃ e, e ∈ o.after ∧ Region.binds .any e = true ∧ listed.getD e.on false = false := by
          apply Classical.byContradiction
          intro hn
          refine hall fun e he hb => ?_
          cases hl : listed.getD e.on false with
          | true => rfl
          | false => exact absurd ⟨e, he, hb, hl⟩ hn
        obtain ⟨e, he, hb, hl⟩ := this
        have hek := hlow i o g1 e he hb
        have hil := (Array.getElem?_eq_some_iff.1 g1).1
        refine ih e.on (by omega) ?_
        have hel : e.on < listed.size := by rw [h.size]; omega
        simp [hel] at hl ⊢
        exact hl
  cases rem with
  | nil => exact absurd rfl hne
  | cons x r =>
    obtain ⟨g1, g2, g3⟩ := h.ent x (by simp)
    exact key (x.1 + 1) x.1 (by omega) g2
theorem anyS_sound {C : Kit} {H : Handler} (hH : HOk C H) {ob : List Nat} {E : Env} {all : Array Oper} {Q : Bool → Ex → St → Prop} (hlow : ∀ (k : Nat) o, all[k]? = some o → ∀ e ∈ o.after, Region.binds .any e = true → e.on < k) :
    ∀ (fuel : Nat) (F : Nat) (rem : List Ent) (listed : Array Bool) (q : Bool) (st : St) (a : Act) (w : World), RemOk all listed rem → rem.length ≤ fuel → SSat E q st a w →
    anyS C H ob C.T C.M E.nt all.toList F rem q st Q → wpAnyIn (FR E.rd) 0 C.P .any all (Lift E Q) fuel listed a w := by
  have none : ∀ {listed : Array Bool}, RemOk all listed [] → ∀ i, i ∉ Region.ready .any all listed := by
    intro listed hr i hi
    obtain ⟨h0, _⟩ := mem_ready.1 hi
    obtain ⟨o, ds, hm⟩ := hr.cov i h0
    simp at hm
  intro fuel
  induction fuel with
  | zero =>
    intro F rem listed q st a w hr hlen hs h
    have : rem = [] := List.length_eq_zero_iff.1 (by omega)
    subst this
    unfold anyS at h
    exact ⟨List.eq_nil_iff_forall_not_mem.2 (none hr), q, st, hs, h⟩
  | succ fuel ih =>
    intro F rem listed q st a w hr hlen hs h
    cases rem with
    | nil =>
      unfold anyS at h
      exact ⟨fun _ => ⟨q, st, hs, h⟩, fun i hi => absurd hi (none hr i)⟩
    | cons x r =>
      cases F with
      | zero => unfold anyS at h; exact h.elim
      | succ F =>
        unfold anyS at h
        refine ⟨fun he => ?_, fun i hi => ?_⟩
        · obtain ⟨i, hi⟩ := hr.some_ready hlow (by simp)
          rw [he] at hi; simp at hi
        · obtain ⟨h0, o, hko, hall⟩ := mem_ready.1 hi
          obtain ⟨o', ds, hm⟩ := hr.cov i h0
          obtain ⟨g1, g2, g3⟩ := hr.ent _ hm
          have : o' = o := by simp only at g1; rw [hko] at g1; exact (Option.some.inj g1).symm
          subst this
          have hds : ds = [] := by
            cases ds with
            | nil => rfl
            | cons d ds =>
              obtain ⟨⟨e, he, hb, hd⟩, hl⟩ := g3 d (by simp)
              have := hall e he hb
              rw [hd, hl] at this; cases this
          subst hds
          have h := allR_mem h hm
          split at h
          · rename_i hd
            obtain ⟨fr, hs', h'⟩ := wantS_sound hs h
            have hlt : (rmE i (x :: r)).length ≤ fuel := by
              have := rmE_lt (i := i) (l := x :: r) ⟨_, hm, rfl⟩
              omega
            unfold wpOpIn
            simp only [hko]
            split at h'
            · rename_i hw
              rw [if_pos hw]
              exact (stepS_sound hH hs' hd h' fun q' v hp' a' w' hs2 hk2 => by
                obtain ⟨v', e1, e2⟩ := obsV_sound hk2
                exact ih F _ _ q' ⟨putS o'.dst v' fr, hp'⟩ a' w' (hr.rm i) hlt (hs2.other hd e1) e2)
            · rename_i hw
              rw [if_neg hw]
              obtain ⟨ρ, h1, h2, h3, h4, h5⟩ := hs'
              exact ⟨fun _ _ => trivial, ih F _ _ q ⟨putS o'.dst (.raw undef) fr, st.hp⟩ _ w (hr.rm i) hlt ⟨ρ, h1, h2.putO hd (.raw rfl), h3, h4, h5⟩ h'⟩
          · exact h.elim
theorem Ok.regionAny {C : Kit} {H : Handler} (hH : HOk C H) (ob : List Nat) {nt n0 id : Nat} {ops : Array Oper} {rest : Code} {q : Bool} {st : St} {Q : Bool → Ex → St → Prop} (hch : lowB ops.toList = true)
    (h : anyS C H ob C.T C.M nt ops.toList ops.size (remOf ops.toList 0) q st fun q e st => match e with
      | .normal => Ok C nt n0 rest q st Q
      | .exit id => Q q (.exit id) st
      | .ret => Q q .ret st) : Ok C nt n0 (.seq (.region id ops true) rest) q st Q := by
  refine ⟨fun E a w h1 h2 hs => ?_⟩
  subst h1; subst h2
  have hlen : (remOf ops.toList 0).length ≤ ops.size - 0 := by
    have : ∀ (l : List Oper) (k : Nat), (remOf l k).length = l.length := fun l => by
      induction l with
      | nil => intro k; rfl
      | cons o r ih => intro k; simp [remOf, ih]
    rw [this]; simp
  refine wpIn_seq (wpIn_mono (wpIn_draw C.hO (anyS_sound hH (lowB_sound hch) _ _ _ _ q st a _ (RemOk.start ops) hlen (hs.drewN 1) h)) ?_)
  intro e a' w' he
  cases e with
  | normal => obtain ⟨q', st', h1, h2⟩ := he; exact h2.out E a' w' rfl rfl h1
  | exit id => exact he
  | ret => exact he
  | goto l => exact he.elim
  | panic c => exact he.elim
  | outgrown => exact he.elim
theorem Ok.seq {C : Kit} {nt n0 : Nat} {a b : Code} {q : Bool} {st : St} {Q : Bool → Ex → St → Prop}
    (h : Ok C nt n0 a q st fun q e st => match e with
      | .normal => Ok C nt n0 b q st Q
      | .exit id => Q q (.exit id) st
      | .ret => Q q .ret st) : Ok C nt n0 (.seq a b) q st Q := by
  refine ⟨fun E x w h1 h2 hs => ?_⟩
  refine wpIn_seq (wpIn_mono (h.out E x w h1 h2 hs) ?_)
  intro e a' w' he
  cases e with
  | normal => obtain ⟨q', st', g1, g2⟩ := he; exact g2.out E a' w' h1 h2 g1
  | exit id => exact he
  | ret => exact he
  | goto l => exact he.elim
  | panic c => exact he.elim
  | outgrown => exact he.elim
end
end Go.Vex
end

/-
  mmu: what the TLB knows; does an access fit; translation.
-/
section
namespace Go.Proofs.YtafhmkedblpdlaaDoor
open Go Go.Vex
set_option maxRecDepth 20000
set_option maxHeartbeats 4000000
noncomputable def Im27 : FnT := [(27, fi Tryd.f27 ⟨[], 0⟩)]
theorem Im27ok : FnsOk kit Im27 := ⟨fo27 _, trivial⟩
theorem pages_spec (n : Int) (f : Int → Int) : Spec1 kit 27 [.p 0 (.at 0)] [memB n f] false (.i .i64 (.ex n)) [memB n f] [] := by
  refine Spec1.mk2 rfl fun F => OkCall.unfold 0 rfl (CallOk.of (fo27 ⟨[], 0⟩)) ?_
  rintro l ⟨kvs, hpg, hff, rfl⟩
  refine into Im27ok 6 ?_
  conv => cbv
  refine LeOut2.imp (HImp.fold (S := memSh n f) 0 [2] [.cells 116 [.i .i64 (.ex n), .map 1], .abs (PM 118 kvs)] (by decide) (by cbv) ⟨kvs, hpg, hff, rfl⟩) ?_
  exact (LeOut.mk' [0, 1] (by decide) rfl (by decide) (by cbv) (by cbv)).two
noncomputable def Im48 : FnT := [(48, fi Tryd.f48 ⟨[], 0⟩)]
theorem Im48ok : FnsOk kit Im48 := ⟨fo48 _, trivial⟩
def fitsB (a s : Int) : Bool := decide ((s = 1 ∨ s = 2 ∨ s = 4) ∧ a % s = 0)
theorem fits_spec (a s : Int) (ha : 0 ≤ a ∧ a < 4294967296) (hs : s = 1 ∨ s = 2 ∨ s = 4) {b : Bool} (hb : b = fitsB a s) : Spec1 kit 48 [.i .u32 (.ex a), .i .i64 (.ex s)] [] false (.b (.ex b)) [] [] := by
  refine Spec1.mk2 rfl fun F => ?_
  have hs4 : 1 ≤ s ∧ s ≤ 4 := by omega
  have hcs : convI .u32 s = s := by rw [convI_eq, wrap_u32]; omega
  have hfin : b = eqI (remI a (convI .u32 s)) 0 := by
    rw [hb, fitsB, eqI_eq, hcs, remI_eq, Int.tmod_eq_emod_of_nonneg ha.1]
    simp only [hs, true_and, Bool.beq_eq_decide_eq]
  have hnz : neZ (convI .u32 s) := neZ.mk (by rw [hcs]; omega)
  refine into Im48ok 6 ?_
  conv => cbv
  by_cases h1 : s = 1
  · refine Br.yes (eqI_t.2 h1) ?_
    conv => cbv
    exact ⟨hnz, (LeOut.mk' [0] (by decide) (by rfl) (by decide) (by (conv => cbv); exact hfin) (by cbv)).two⟩
  refine Br.no (eqI_f.2 h1) ?_
  conv => cbv
  by_cases h2 : s = 2
  · refine Br.yes (eqI_t.2 h2) ?_
    conv => cbv
    exact ⟨hnz, (LeOut.mk' [0] (by decide) (by rfl) (by decide) (by (conv => cbv); exact hfin) (by cbv)).two⟩
  refine Br.no (eqI_f.2 h2) ?_
  conv => cbv
  have h4 : s = 4 := by omega
  refine Br.yes (eqI_t.2 h4) ?_
  conv => cbv
  exact ⟨hnz, (LeOut.mk' [0] (by decide) (by rfl) (by decide) (by (conv => cbv); exact hfin) (by cbv)).two⟩
noncomputable def Im62 : FnT := [(62, fi Tryd.f62 ⟨[], 0⟩)]
theorem Im62ok : FnsOk kit Im62 := ⟨fo62 _, trivial⟩
def knownP (n fr pm va a : Int) : Int × Int := if allowB pm a = false then (0, 5) else if n ≤ fr then (0, 2) else (fr * 4096 + va % 4096, 0)
theorem known_spec (n S W L sl now : Int) (f : Int → Int) (C : Ca) (X XE : List (Value × Value)) (fr pm va a : Int) (hn : 1 ≤ n ∧ n ≤ 4096) (hfr : 0 ≤ fr ∧ fr < 4294967296) (hpm : 0 ≤ pm ∧ pm < 256) (hva : 0 ≤ va ∧ va < 4294967296) {ad fl : Int} (hk : knownP n fr pm va a = (ad, fl)) :
    Spec1 kit 62 [.p 0 (.at 0), .agg [.i .u32 (.ex fr), .i .u8 (.ex pm)], .i .u32 (.ex va), .i .i64 (.ex a)] [muB 1 2 3 4, memB n f, caC S W L C, tlB 5 sl now, .abs (MP X), .abs (MP XE)] false (.tup [.i .u32 (.ex ad), .i .i64 (.lit 0), .i .i64 (.ex fl)]) [muB 1 2 3 4, memB n f, caC S W L C, tlB 5 sl now, .abs (MP X), .abs (MP XE)] [] := by
  obtain ⟨b, hb⟩ : ∃ b, b = allowB pm a := ⟨_, rfl⟩
  refine Spec1.mk2 rfl fun F => ?_
  refine into Im62ok 6 ?_
  conv => cbv
  refine OkCall.by_spec (allow_spec pm a hpm hb) [] (by decide) (by cbv) trivial ?_
  conv => cbv
  unfold knownP at hk
  rw [← hb] at hk
  refine Br.mk (fun hc => ?_) (fun hc => ?_)
  · have hc : b = false := by
      have hc : notB b = true := hc
      rw [notB_eq] at hc; simpa using hc
    rw [if_pos hc] at hk
    simp only [Prod.mk.injEq] at hk
    conv => cbv
    refine (LeOut.mk' [0, 1, 2, 3, 4, 5, 6] (by decide) (by rfl) (by decide) ?_ (by (conv => cbv); exact ⟨⟨fun j _ => rowS_le _ _ _ _ _, trivial⟩, trivial⟩)).two
    conv => cbv
    exact ⟨hk.1.symm, hk.2.symm, trivial⟩
  · have hc : b = true := by
      have hc : notB b = false := hc
      rw [notB_eq] at hc; simpa using hc
    rw [if_neg (by rw [hc]; decide)] at hk
    conv => cbv
    refine QCall.of_call (.i .i64 (.ex n)) rfl ?_ ?_
    · refine OkCall.unfold 1 rfl (CallOk.of (fo27 ⟨[], 0⟩)) ?_
      rintro l ⟨kvs, hpg, hff, rfl⟩
      refine into Im27ok 6 ?_
      conv => cbv
      trivial
    conv => cbv
    have e64 : ∀ z : Int, 0 ≤ z → z < 4294967296 → convI .u64 z = z := fun z h1 h2 => by rw [convI_eq, wrap_u64]; omega
    refine Br.mk (fun hc => ?_) (fun hc => ?_)
    · have hc : leI (convI .u64 n) (convI .u64 fr) = true := hc
      have hc : n ≤ fr := by
        have h := leI_t.1 hc
        rwa [e64 n (by omega) (by omega), e64 fr hfr.1 hfr.2] at h
      rw [if_pos hc] at hk
      simp only [Prod.mk.injEq] at hk
      conv => cbv
      refine (LeOut.mk' [0, 1, 2, 3, 4, 5, 6] (by decide) (by rfl) (by decide) ?_ (by (conv => cbv); exact ⟨⟨fun j _ => rowS_le _ _ _ _ _, trivial⟩, trivial⟩)).two
      conv => cbv
      exact ⟨hk.1.symm, hk.2.symm, trivial⟩
    · have hc : leI (convI .u64 n) (convI .u64 fr) = false := hc
      have hc : ¬ n ≤ fr := by
        have h := leI_f.1 hc
        rw [e64 n (by omega) (by omega), e64 fr hfr.1 hfr.2] at h
        omega
      rw [if_neg hc] at hk
      simp only [Prod.mk.injEq] at hk
      have hmv : remI va 4096 = va % 4096 := by rw [remI_eq, Int.tmod_eq_emod_of_nonneg hva.1]
      have hres : addI .u32 (mulI .u32 fr 4096) (remI va 4096) = ad := by
        rw [hmv, ← hk.1, mulI_eq, addI_eq, wrap_u32, wrap_u32]; omega
      conv => cbv
      refine (LeOut.mk' [0, 1, 2, 3, 4, 5, 6] (by decide) (by rfl) (by decide) ?_ (by (conv => cbv); exact ⟨⟨fun j _ => rowS_le _ _ _ _ _, trivial⟩, trivial⟩)).two
      conv => cbv
      exact ⟨hres.symm, hk.2.symm, trivial⟩
/-! ### Translate -/
theorem intoC {I : FnT} (hI : FnsOk kit I) (d : Nat) (O : Opt) {f : Nat} {fn : Func} {args : List SV} {hp : List Blk} {K : Bool → SV → List Blk → Prop} (h0 : Tryd.prog.funcs[f]? = some fn) (hb : fn.body.isSome = true) (hn : (fn.name == "runtime.NumGoroutine") = false)
    (hlen : (Nat.ble args.length fn.ntmps && Nat.ble fn.ntmps 1000003) = true) (hch : drawsChkC O.ob (fn.body.getD .skip) = true)
    (h : codeS kit (callH kit tab mtab I d) O tab mtab fn.ntmps hp.length (fn.body.getD .skip) true ⟨argFr args 0, hp⟩ (endS tab fn.results.toList K)) : OkCall kit f args hp K := by
  obtain ⟨b, hb'⟩ := Option.isSome_iff_exists.1 hb
  rw [hb'] at hch h
  refine OkCall.of_code (by rw [kit_P]; exact h0) hb' hn hlen (Ok.of_codeC (callH_ok hI d) O hch ?_)
  rw [kit_T, kit_M]; exact h
theorem kany {I : FnT} (hI : FnsOk kit I) (d : Nat) (ob : List Nat) {nt n0 id : Nat} {ops : Array Oper} {rest : Code} {q : Bool} {st : St} {Q : Bool → Ex → St → Prop} (st1 : St) (hch : lowB ops.toList = true) (h1 : Ok kit nt n0 rest false st1 Q)
    (h : ∀ K : Bool → Ex → St → Prop, (∀ q st, LeSt n0 q st false st1 → K q .normal st) → anyS kit (callH kit tab mtab I d) ob tab mtab nt ops.toList ops.size (remOf ops.toList 0) q st K) : Ok kit nt n0 (.seq (.region id ops true) rest) q st Q :=
  Ok.regionAny (callH_ok hI d) ob hch (by rw [kit_T, kit_M]; exact h _ (fun q st hl => Ok.weak hl h1))
noncomputable def O49 : Opt := ⟨[1000005, 1000008, 36, 3014007], 3⟩
noncomputable def Im49 : FnT := []
theorem Im49ok : FnsOk kit Im49 := trivial
abbrev Mu := RE × TE × Ca
theorem trans_spec (ea eb : Nat) (n S W L sl now c p root va a fr pm us now' ad co fl now2 : Int) (f : Int → Int) (C C2 : Ca) (R : RE) (E E' E2 : TE) (is : Bool) {j : Nat} (hn : 1 ≤ n ∧ n ≤ 4096) (hm : MemOk f) (hroot : 0 ≤ root ∧ root < 4294967296)
    (ha : ea ≤ 8) (hb : eb ≤ 8) (hS : S = 2 ^ ea) (hL : L = 2 ^ eb) (hW : 1 ≤ W ∧ W ≤ 8) (hC : ∀ k, ((C k).length : Int) ≤ W) (hva : 0 ≤ va ∧ va < 4294967296) (hnow : 0 ≤ now ∧ now < 18446744073709551615) (hp : p = va / 4096) (hR : fP c R 0 = some (j, root))
    (hlk : (match fP (c, p) E 0 with | some (_, x) => (true, x, now + 1, putP (c, p) (x.1, x.2.1, now + 1) E) | none => (false, (0, 0, 0), now, E)) = (is, (fr, pm, us), now', E'))
    (h1 : is = true → (0 ≤ fr ∧ fr < 4294967296) ∧ (0 ≤ pm ∧ pm < 256) ∧ knownP n fr pm va a = (ad, fl) ∧ co = 0 ∧ now2 = now' ∧ E2 = E' ∧ C2 = C)
    (h2 : is = false → ∃ (s1 s2 : Int × Int) (hit1 hit2 back1 back2 : Bool) (co1 co2 : Int) (C1 : Ca), walkP n f root va a = (ad, [s1, s2], 0) ∧ fl = 0 ∧ (0 ≤ s1.1 ∧ s1.1 < 4294967296) ∧ (0 ≤ s2.1 ∧ s2.1 < 4294967296) ∧ (0 ≤ s2.2 ∧ s2.2 < 4294967296) ∧ (0 ≤ s1.2 ∧ s1.2 < 4294967296) ∧
      ((hit1, back1, co1), C1) = accC S W L C s1.1 false ∧ (∀ k, ((C1 k).length : Int) ≤ W) ∧ ((hit2, back2, co2), C2) = accC S W L C1 s2.1 false ∧ co = co1 + co2 ∧ (0 ≤ co1 ∧ co1 ≤ 100) ∧ (0 ≤ co2 ∧ co2 ≤ 100) ∧ now < 18446744073709551614 ∧
      (fP (c, p) E' 0 ≠ none ∨ (E'.length : Int) ≠ sl) ∧ now2 = now' + 1 ∧ E2 = putP (c, p) (decF s2.2, decP s2.2, now2) E')
    {X XE XE' XE2 : List (Value × Value)} (hX : X = rtE R) (hXE : XE = tlE E) (hXE' : XE' = tlE E') (hXE2 : XE2 = tlE E2) :
    Spec1 kit 49 [.p 0 (.at 0), .i .i64 (.ex c), .i .u32 (.ex va), .i .i64 (.ex a)] [muB 1 2 3 4, memB n f, caC S W L C, tlB 5 sl now, .abs (MP X), .abs (MP XE), tzB] false (.tup [.i .u32 (.ex ad), .i .i64 (.ex co), .i .i64 (.ex fl)])
      [muB 1 2 3 4, memB n f, caC S W L C2, tlB 5 sl now2, .abs (MP X), .abs (MP XE2), tzB] [] := by
  refine Spec1.mk2 rfl fun F => ?_
  refine intoC Im49ok 6 O49 (fn := Tryd.f49) (by kernel_rfl) (by kernel_rfl) (by decide +kernel) (by kernel_rfl) (by kernel_rfl) ?_
  conv => cbv
  refine XOpN.x (lookupE (L := vm (Value.int .u32) R) (hX.trans rfl) mt68 ki3 rfl rfl rfl c (fun ρ c h => den_i h) (.tup [.i .u32 (.ex root), .b (.lit true)]) (fun ρ => by rw [fA_vm, hR]; exact .tup _ rfl (.cons _ _ rfl (.i rfl) (.cons _ _ rfl (.b rfl) (.nil rfl)))) ?_)
  conv => cbv
  refine Obs.int (.ex p) (by show p = quoI .u32 va 4096; rw [hp, quoI_eq, wrap_u32, Int.tdiv_eq_ediv_of_nonneg hva.1]; omega) ?_
  conv => cbv
  refine Ok.weak (st' := ⟨[(13, .p 8 (.at 0)), (11, .i .u32 (.ex root)), (10, .i .i64 (.lit 0)), (9, .i .i64 (.lit 0)), (8, .i .u32 (.lit 0)), (0, .p 0 (.at 0)), (1, .i .i64 (.ex c)), (2, .i .u32 (.ex va)), (3, .i .i64 (.ex a))],
    [muB 1 2 3 4, memB n f, caC S W L C, tlB 5 sl now, .abs (MP X), .abs (MP XE), tzB, .abs F, .cells 148 [.i .i64 (.ex c), .i .u32 (.ex p)]]⟩) (q' := false) (LeSt.mk' (List.range 9) (by decide) (by rfl) (by decide) (by cbv) (by (conv => cbv); exact ⟨⟨fun j _ => rowS_le _ _ _ _ _, trivial⟩, trivial⟩)) ?_
  refine Ok.seq ?_
  refine kany Im49ok 6 [] ⟨[(14, .p 9 (.at 0)), (15, .b (.ex is)), (13, .p 8 (.at 0)), (11, .i .u32 (.ex root)), (10, .i .i64 (.lit 0)), (9, .i .i64 (.lit 0)), (8, .i .u32 (.lit 0)), (0, .p 0 (.at 0)), (1, .i .i64 (.ex c)), (2, .i .u32 (.ex va)), (3, .i .i64 (.ex a))],
    [muB 1 2 3 4, memB n f, caC S W L C, tlB 5 sl now', .abs (MP X), .abs (MP XE'), tzB, .abs F, .cells 148 [.i .i64 (.ex c), .i .u32 (.ex p)], .cells 153 [.i .u32 (.ex fr), .i .u8 (.ex pm)]]⟩ (by kernel_rfl) ?_ ?_
  · refine kcode Im49ok 6 O49 (by kernel_rfl) ?_
    conv => cbv
    refine Br.mk (fun hc => ?_) (fun hc => ?_)
    · have hc : is = true := hc
      obtain ⟨hfr, hpm, hk, rfl, rfl, rfl, rfl⟩ := h1 hc
      conv => cbv
      refine OkCall.by_spec (known_spec n S W L sl now2 f C2 X XE' fr pm va a hn hfr hpm hva hk) [0, 1, 2, 3, 4, 5] (by decide) (by cbv) ?_ ?_
      · conv => cbv
        exact ⟨⟨fun j _ => rowS_le _ _ _ _ _, trivial⟩, trivial⟩
      conv => cbv
      have hXX : XE' = XE2 := hXE'.trans hXE2.symm
      subst hXX
      refine (LeOut.mk' [0, 1, 2, 3, 4, 5, 6, 7] (by decide) (by rfl) (by decide) (by cbv) ?_).two
      conv => cbv
      exact ⟨⟨fun j _ => rowS_le (tgs C2) (dts C2) (mns C2) _ j, trivial⟩, trivial⟩
    · have hc : is = false := hc
      obtain ⟨s1, s2, hit1, hit2, back1, back2, co1, co2, C1, hw, rfl, g1, g2, g3, g4, g5, g6, g7, hco, g8, g9, g10, hroom, hnow2, hE2⟩ := h2 hc
      have hw2 : ∃ steps, walkP n f root va a = (ad, steps, 0) ∧ [s1.1, s2.1] = steps.map (·.1) ∧ [s1.2, s2.2] = steps.map (·.2) ∧ 2 = steps.length := ⟨_, hw, rfl, rfl, rfl⟩
      obtain ⟨mm, hmm⟩ : ∃ m : Nat, m = 2 := ⟨_, rfl⟩
      conv => cbv
      refine kcode Im49ok 6 ⟨[70, 3014007], 3⟩ (by kernel_rfl) ?_
      conv => cbv
      refine OkCall.by_specM (walk_is n f root va a hn hm hroot hva hw2) [1] (by decide) (by cbv) (by cbv) ?_
      rintro q v hp1 new ⟨rfl, rfl, cap, jk, hcap, rfl, rfl⟩
      conv => cbv
      obtain ⟨z0, hz0⟩ : ∃ z : Int, z = 0 := ⟨_, rfl⟩
      obtain ⟨z1, hz1⟩ : ∃ z : Int, z = 1 := ⟨_, rfl⟩
      obtain ⟨z2, hz2⟩ : ∃ z : Int, z = 2 := ⟨_, rfl⟩
      refine Obs.int (.ex z0) hz0 ?_
      conv => cbv
      have e0 : toN z0 = 0 := by rw [toN_eq, hz0]; rfl
      have e1 : toN z1 = 1 := by rw [toN_eq, hz1]; rfl
      have n0 : toN z0 < 2 := by rw [e0]; decide
      have n1 : toN z1 < 2 := by rw [e1]; decide
      have q0 : gi [s1.1, s2.1] (toN z0) = s1.1 := by rw [e0, gi_eq]; rfl
      have q1 : gi [s1.1, s2.1] (toN z1) = s2.1 := by rw [e1, gi_eq]; rfl
      have r0 : gi [s1.2, s2.2] (toN z0) = s1.2 := by rw [e0, gi_eq]; rfl
      have r1 : gi [s1.2, s2.2] (toN z1) = s2.2 := by rw [e1, gi_eq]; rfl
      obtain ⟨k1, hk1⟩ : ∃ x, x = decK s1.2 := ⟨_, rfl⟩
      obtain ⟨p1, hp1⟩ : ∃ x, x = decP s1.2 := ⟨_, rfl⟩
      obtain ⟨f1, hf1⟩ : ∃ x, x = decF s1.2 := ⟨_, rfl⟩
      obtain ⟨d1, hd1⟩ : ∃ x, x = decE s1.2 := ⟨_, rfl⟩
      obtain ⟨k2, hk2⟩ : ∃ x, x = decK s2.2 := ⟨_, rfl⟩
      obtain ⟨p2, hp2⟩ : ∃ x, x = decP s2.2 := ⟨_, rfl⟩
      obtain ⟨f2, hf2⟩ : ∃ x, x = decF s2.2 := ⟨_, rfl⟩
      obtain ⟨d2, hd2⟩ : ∃ x, x = decE s2.2 := ⟨_, rfl⟩
      rw [← hp2, ← hf2] at hE2
      have hnow' : 0 ≤ now' ∧ now' < 18446744073709551615 := by
        split at hlk
        · simp only [Prod.mk.injEq] at hlk; omega
        · simp only [Prod.mk.injEq] at hlk; omega
      refine Br.yes (ltI_t.2 (by show z0 < ofN 2; rw [ofN_eq, hz0]; decide)) ?_
      conv => cbv
      refine ⟨inR.mk (by omega) (by omega), nLt.mk n0, ?_⟩
      refine ECall.by_spec (access_spec ea eb S W L s1.1 false C ha hb hS hL hW g1 hC g5) [2, 6] (by decide) (by cbv) ?_ ?_ ?_
      · conv => cbv
        exact ⟨q0.symm, trivial⟩
      · conv => cbv
        exact ⟨⟨fun j _ => rowS_le _ _ _ _ _, trivial⟩, trivial⟩
      conv => cbv
      refine OkCall.by_spec (dec_spec s1.2 g4 hk1 hp1 hf1 hd1) [] (by decide) ?_ trivial ?_
      · conv => cbv
        exact ⟨r0.symm, trivial⟩
      conv => cbv
      refine Obs.int (.ex z1) (by show z1 = addI .i64 z0 1; rw [addI_eq, hz0, hz1]; rfl) ?_
      conv => cbv
      refine Br.yes (ltI_t.2 (by show z1 < ofN 2; rw [ofN_eq, hz1]; decide)) ?_
      conv => cbv
      refine ⟨inR.mk (by omega) (by omega), nLt.mk n1, ?_⟩
      refine ECall.by_spec (access_spec ea eb S W L s2.1 false C1 ha hb hS hL hW g2 g6 g7) [2, 6] (by decide) (by cbv) ?_ ?_ ?_
      · conv => cbv
        exact ⟨q1.symm, trivial⟩
      · conv => cbv
        exact ⟨⟨fun j _ => rowS_le (tgs C1) (dts C1) (mns C1) _ j, trivial⟩, trivial⟩
      conv => cbv
      refine OkCall.by_spec (dec_spec s2.2 g3 hk2 hp2 hf2 hd2) [] (by decide) ?_ trivial ?_
      · conv => cbv
        exact ⟨r1.symm, trivial⟩
      conv => cbv
      refine Obs.int (.ex z2) (by show z2 = addI .i64 z1 1; rw [addI_eq, hz1, hz2]; rfl) ?_
      conv => cbv
      refine Br.no (ltI_f.2 (by show ofN 2 ≤ z2; rw [ofN_eq, hz2]; decide)) ?_
      conv => cbv
      refine Br.no (neI_f.2 rfl) ?_
      conv => cbv
      have hcost : addI .i64 (addI .i64 0 co1) co2 = co := by rw [addI_eq, addI_eq, IntWalk.i64_in (0 + co1) (by omega), IntWalk.i64_in _ (by omega), hco]; omega
      refine OkCall.by_spec (tput_room sl now' c p f2 p2 E' hnow' hroom hnow2 hXE' (X' := XE2) (by rw [hXE2, hE2])) [3, 5] (by decide) (by cbv) (by cbv) ?_
      conv => cbv
      refine (LeOut.mk' [0, 1, 2, 3, 4, 5, 6, 7] (by decide) (by rfl) (by decide) ?_ ?_).two
      · conv => cbv
        exact ⟨hcost.symm, trivial⟩
      · conv => cbv
        exact ⟨⟨fun j _ => rowS_le (tgs C2) (dts C2) (mns C2) _ j, trivial⟩, trivial⟩
  · intro K hK
    conv => cbv
    repeat' apply And.intro
    all_goals try exact True.intro
    all_goals
      refine OkCall.by_spec (look_spec sl now c p E hnow hlk hXE hXE') [3, 5] (by decide) ?_ ?_ ?_
      · (conv => cbv); try trivial
      · (conv => cbv); try trivial
      conv => cbv
      repeat' apply And.intro
      all_goals try exact True.intro
      all_goals first
        | exact hK _ _ (LeSt.mk' [0, 1, 2, 3, 4, 5, 6, 7, 8, 9] (by decide) (by rfl) (by decide) (by cbv) (by (conv => cbv); exact ⟨⟨fun j _ => rowS_le _ _ _ _ _, trivial⟩, trivial⟩))
        | exact hK _ _ (LeSt.mk' [0, 1, 2, 3, 4, 5, 6, 7, 8, 10] (by decide) (by rfl) (by decide) (by cbv) (by (conv => cbv); exact ⟨⟨fun j _ => rowS_le _ _ _ _ _, trivial⟩, trivial⟩))
end Go.Proofs.YtafhmkedblpdlaaDoor
end

/-
  mmu: Load and Store of a word.
-/
section
namespace Go.Proofs.YtafhmkedblpdlaaDoor
open Go Go.Vex
set_option maxRecDepth 20000
set_option maxHeartbeats 4000000
noncomputable def Im10 : FnT := [(10, fi Tryd.f10 ⟨[], 0⟩), (20, fi Tryd.f20 ⟨[], 0⟩), (21, fi Tryd.f21 ⟨[], 0⟩), (46, fi Tryd.f46 ⟨[], 0⟩), (11, fi Tryd.f11 ⟨[], 0⟩), (22, fi Tryd.f22 ⟨[], 0⟩)]
theorem Im10ok : FnsOk kit Im10 := ⟨fo10 _, fo20 _, fo21 _, fo46 _, fo11 _, fo22 _, trivial⟩
/-- The blocks of an MMU. -/
noncomputable abbrev mmB (n S W L sl now : Int) (f : Int → Int) (C : Ca) (X XE : List (Value × Value)) : List Blk := [muB 1 2 3 4, memB n f, caC S W L C, tlB 5 sl now, .abs (MP X), .abs (MP XE), tzB]
noncomputable abbrev TrS (n S W L sl : Int) (f : Int → Int) (X : List (Value × Value)) (c va a now : Int) (C : Ca) (XE : List (Value × Value)) (ad co fl now2 : Int) (C2 : Ca) (XE2 : List (Value × Value)) : Prop :=
  Spec1 kit 49 [.p 0 (.at 0), .i .i64 (.ex c), .i .u32 (.ex va), .i .i64 (.ex a)] (mmB n S W L sl now f C X XE) false (.tup [.i .u32 (.ex ad), .i .i64 (.ex co), .i .i64 (.ex fl)]) (mmB n S W L sl now2 f C2 X XE2) []
theorem load_ok (ea eb : Nat) (n S W L sl c va now ad co now2 co2 v ct : Int) (f : Int → Int) (C C2 C3 : Ca) {X XE XE2 : List (Value × Value)} {hit back : Bool} (hn : 1 ≤ n ∧ n ≤ 4096)
    (ha : ea ≤ 8) (hb : eb ≤ 8) (hS : S = 2 ^ ea) (hL : L = 2 ^ eb) (hW : 1 ≤ W ∧ W ≤ 8) (hC2 : ∀ k, ((C2 k).length : Int) ≤ W) (hva : (0 ≤ va ∧ va < 4294967296) ∧ va % 4 = 0)
    (ht : TrS n S W L sl f X c va 1 now C XE ad co 0 now2 C2 XE2) (had : 0 ≤ ad ∧ ad < 4294967296) (hco : 0 ≤ co ∧ co ≤ 1000) (hco2 : 0 ≤ co2 ∧ co2 ≤ 1000) (hct : ct = co + co2) (hacc : ((hit, back, co2), C3) = accC S W L C2 ad false) (he : wordErr n ad = 0) (hv : v = w32f f ad) :
    Spec1 kit 10 [.p 0 (.at 0), .i .i64 (.ex c), .i .u32 (.ex va), .i .i64 (.lit 4)] (mmB n S W L sl now f C X XE) false (.tup [.i .u32 (.ex v), .i .i64 (.ex ct), .i .i64 (.lit 0)]) (mmB n S W L sl now2 f C3 X XE2) [] := by
  have hfit : true = fitsB va 4 := by rw [fitsB]; simp [hva.2]
  refine Spec1.mk2 rfl fun F => ?_
  refine into Im10ok 6 ?_
  conv => cbv
  refine OkCall.by_spec (fits_spec va 4 hva.1 (.inr (.inr rfl)) hfit) [] (by decide) (by cbv) trivial ?_
  conv => cbv
  refine Br.no (by show notB true = false; rw [notB_eq]; rfl) ?_
  conv => cbv
  refine OkCall.by_spec ht [0, 1, 2, 3, 4, 5, 6] (by decide) ?_ ?_ ?_
  · conv => cbv
    trivial
  · conv => cbv
    exact ⟨⟨fun j _ => rowS_le _ _ _ _ _, trivial⟩, trivial⟩
  conv => cbv
  have hsum : addI .i64 co co2 = ct := by rw [addI_eq, IntWalk.i64_in _ (by omega), hct]
  refine Br.no (neI_f.2 rfl) ?_
  conv => cbv
  refine OkCall.by_spec (access_spec ea eb S W L ad false C2 ha hb hS hL hW had hC2 hacc) [2, 6] (by decide) ?_ ?_ ?_
  · conv => cbv
    try trivial
  · conv => cbv
    exact ⟨⟨fun j _ => rowS_le (tgs C2) (dts C2) (mns C2) _ j, trivial⟩, trivial⟩
  conv => cbv
  refine OkCall.by_spec (load4_spec n ad f hn had (e := 0) (v := v) he.symm (by rw [if_pos rfl]; exact hv)) [1] (by decide) (by cbv) (by cbv) ?_
  conv => cbv
  refine (LeOut.mk' [0, 1, 2, 3, 4, 5, 6, 7] (by decide) (by rfl) (by decide) ?_ ?_).two
  · conv => cbv
    exact ⟨hsum.symm, trivial⟩
  · conv => cbv
    exact ⟨⟨fun j _ => rowS_le (tgs C3) (dts C3) (mns C3) _ j, trivial⟩, trivial⟩
theorem load_no (n S W L sl c va now ad co now2 fl : Int) (f : Int → Int) (C C2 : Ca) {X XE XE2 : List (Value × Value)} (hva : (0 ≤ va ∧ va < 4294967296) ∧ va % 4 = 0)
    (ht : TrS n S W L sl f X c va 1 now C XE ad co fl now2 C2 XE2) (hfl : fl ≠ 0) :
    Spec1 kit 10 [.p 0 (.at 0), .i .i64 (.ex c), .i .u32 (.ex va), .i .i64 (.lit 4)] (mmB n S W L sl now f C X XE) false (.tup [.i .u32 (.lit 0), .i .i64 (.ex co), .i .i64 (.ex fl)]) (mmB n S W L sl now2 f C2 X XE2) [] := by
  have hfit : true = fitsB va 4 := by rw [fitsB]; simp [hva.2]
  refine Spec1.mk2 rfl fun F => ?_
  refine into Im10ok 6 ?_
  conv => cbv
  refine OkCall.by_spec (fits_spec va 4 hva.1 (.inr (.inr rfl)) hfit) [] (by decide) (by cbv) trivial ?_
  conv => cbv
  refine Br.no (by show notB true = false; rw [notB_eq]; rfl) ?_
  conv => cbv
  refine OkCall.by_spec ht [0, 1, 2, 3, 4, 5, 6] (by decide) ?_ ?_ ?_
  · conv => cbv
    trivial
  · conv => cbv
    exact ⟨⟨fun j _ => rowS_le _ _ _ _ _, trivial⟩, trivial⟩
  conv => cbv
  refine Br.yes (neI_t.2 hfl) ?_
  conv => cbv
  refine (LeOut.mk' [0, 1, 2, 3, 4, 5, 6, 7] (by decide) (by rfl) (by decide) ?_ ?_).two
  · conv => cbv
    try trivial
  · conv => cbv
    exact ⟨⟨fun j _ => rowS_le (tgs C2) (dts C2) (mns C2) _ j, trivial⟩, trivial⟩
theorem store_ok (ea eb : Nat) (n S W L sl c va now ad co now2 co2 v ct : Int) (f g : Int → Int) (C C2 C3 : Ca) {X XE XE2 : List (Value × Value)} {hit back : Bool} (hn : 1 ≤ n ∧ n ≤ 4096)
    (ha : ea ≤ 8) (hb : eb ≤ 8) (hS : S = 2 ^ ea) (hL : L = 2 ^ eb) (hW : 1 ≤ W ∧ W ≤ 8) (hC2 : ∀ k, ((C2 k).length : Int) ≤ W) (hva : (0 ≤ va ∧ va < 4294967296) ∧ va % 4 = 0)
    (ht : TrS n S W L sl f X c va 2 now C XE ad co 0 now2 C2 XE2) (had : 0 ≤ ad ∧ ad < 4294967296) (hco : 0 ≤ co ∧ co ≤ 1000) (hco2 : 0 ≤ co2 ∧ co2 ≤ 1000) (hct : ct = co + co2) (hacc : ((hit, back, co2), C3) = accC S W L C2 ad true) (he : wordErr n ad = 0) (hv : 0 ≤ v ∧ v < 4294967296) (hg : g = storeF f n ad v) :
    Spec1 kit 11 [.p 0 (.at 0), .i .i64 (.ex c), .i .u32 (.ex va), .i .i64 (.lit 4), .i .u32 (.ex v)] (mmB n S W L sl now f C X XE) false (.tup [.i .i64 (.ex ct), .i .i64 (.lit 0)]) (mmB n S W L sl now2 g C3 X XE2) [] := by
  have hfit : true = fitsB va 4 := by rw [fitsB]; simp [hva.2]
  refine Spec1.mk2 rfl fun F => ?_
  refine into Im10ok 6 ?_
  conv => cbv
  refine OkCall.by_spec (fits_spec va 4 hva.1 (.inr (.inr rfl)) hfit) [] (by decide) (by cbv) trivial ?_
  conv => cbv
  refine Br.no (by show notB true = false; rw [notB_eq]; rfl) ?_
  conv => cbv
  refine OkCall.by_spec ht [0, 1, 2, 3, 4, 5, 6] (by decide) ?_ ?_ ?_
  · conv => cbv
    trivial
  · conv => cbv
    exact ⟨⟨fun j _ => rowS_le _ _ _ _ _, trivial⟩, trivial⟩
  conv => cbv
  have hsum : addI .i64 co co2 = ct := by rw [addI_eq, IntWalk.i64_in _ (by omega), hct]
  refine Br.no (neI_f.2 rfl) ?_
  conv => cbv
  refine OkCall.by_spec (access_spec ea eb S W L ad true C2 ha hb hS hL hW had hC2 hacc) [2, 6] (by decide) ?_ ?_ ?_
  · conv => cbv
    try trivial
  · conv => cbv
    exact ⟨⟨fun j _ => rowS_le (tgs C2) (dts C2) (mns C2) _ j, trivial⟩, trivial⟩
  conv => cbv
  refine OkCall.by_spec (store4_spec n ad v f hn had hv (e := 0) he.symm hg) [1] (by decide) (by cbv) (by cbv) ?_
  conv => cbv
  refine (LeOut.mk' [0, 1, 2, 3, 4, 5, 6, 7] (by decide) (by rfl) (by decide) ?_ ?_).two
  · conv => cbv
    exact ⟨hsum.symm, trivial⟩
  · conv => cbv
    exact ⟨⟨fun j _ => rowS_le (tgs C3) (dts C3) (mns C3) _ j, trivial⟩, trivial⟩
theorem store_no (n S W L sl c va now ad co now2 fl v : Int) (f : Int → Int) (C C2 : Ca) {X XE XE2 : List (Value × Value)} (hva : (0 ≤ va ∧ va < 4294967296) ∧ va % 4 = 0)
    (ht : TrS n S W L sl f X c va 2 now C XE ad co fl now2 C2 XE2) (hfl : fl ≠ 0) :
    Spec1 kit 11 [.p 0 (.at 0), .i .i64 (.ex c), .i .u32 (.ex va), .i .i64 (.lit 4), .i .u32 (.ex v)] (mmB n S W L sl now f C X XE) false (.tup [.i .i64 (.ex co), .i .i64 (.ex fl)]) (mmB n S W L sl now2 f C2 X XE2) [] := by
  have hfit : true = fitsB va 4 := by rw [fitsB]; simp [hva.2]
  refine Spec1.mk2 rfl fun F => ?_
  refine into Im10ok 6 ?_
  conv => cbv
  refine OkCall.by_spec (fits_spec va 4 hva.1 (.inr (.inr rfl)) hfit) [] (by decide) (by cbv) trivial ?_
  conv => cbv
  refine Br.no (by show notB true = false; rw [notB_eq]; rfl) ?_
  conv => cbv
  refine OkCall.by_spec ht [0, 1, 2, 3, 4, 5, 6] (by decide) ?_ ?_ ?_
  · conv => cbv
    trivial
  · conv => cbv
    exact ⟨⟨fun j _ => rowS_le _ _ _ _ _, trivial⟩, trivial⟩
  conv => cbv
  refine Br.yes (neI_t.2 hfl) ?_
  conv => cbv
  refine (LeOut.mk' [0, 1, 2, 3, 4, 5, 6, 7] (by decide) (by rfl) (by decide) ?_ ?_).two
  · conv => cbv
    try trivial
  · conv => cbv
    exact ⟨⟨fun j _ => rowS_le (tgs C2) (dts C2) (mns C2) _ j, trivial⟩, trivial⟩
end Go.Proofs.YtafhmkedblpdlaaDoor
end
