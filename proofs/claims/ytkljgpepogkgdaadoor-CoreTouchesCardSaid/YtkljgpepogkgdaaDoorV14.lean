/-
  VEX, part 14: calls by contract: the callee's resources, renamed; all else is a frame.
-/
import Derived.Test.YtkljgpepogkgdaaDoorV12
set_option linter.unusedSimpArgs false
namespace Go.Vex
set_option linter.unusedVariables false
noncomputable section

mutual
def ren (τ : Nat → Nat) : SV → SV
  | .p x o => .p (τ x) o
  | .slc x l w o len cap => .slc (τ x) l w o len cap
  | .agg l => .agg (renL τ l)
  | .tup l => .tup (renL τ l)
  | .fn f a b => .fn f (renL τ a) (renL τ b)
  | .ifc t v => .ifc t (ren τ v)
  | .map x => .map (τ x)
  | .rows w m f => .rows w m (fun j => renL τ (f j))
  | .i k n => .i k n
  | .b x => .b x
  | .str s => .str s
  | .nilp => .nilp
  | .nilslc => .nilslc
  | .nilfn => .nilfn
  | .nilifc => .nilifc
  | .nilmap => .nilmap
  | .raw v => .raw v
  | .ints k m zs => .ints k m zs
  | .junk w m => .junk w m
def renL (τ : Nat → Nat) : List SV → List SV
  | [] => []
  | v :: r => ren τ v :: renL τ r
end
def renB (τ : Nat → Nat) : Blk → Blk
  | .cells T l => .cells T (renL τ l)
  | .ro l => .ro (renL τ l)
  | .glob g l => .glob g (renL τ l)
  | .gone => .gone
  | .obj o => .obj o
  | .abs A => .abs A

/-- ρ', read by τ, is ρ. -/
def Via (τ : Nat → Nat) (ρ ρ' : Rho) : Prop := ∀ (x : Nat) (r : Option (Nat × Nat)), ρ[x]? = some r → ρ'[τ x]? = some r

mutual
theorem Den.ren {τ : Nat → Nat} {ρ ρ' : Rho} (e : Via τ ρ ρ') {x : SV} {v : Value} (h : Den ρ x v) : Den ρ' (Vex.ren τ x) v :=
  match h with
  | .i h => by rw [Vex.ren]; exact .i h
  | .b h => by rw [Vex.ren]; exact .b h
  | .str h => by rw [Vex.ren]; exact .str h
  | .p b o0 hx h => by rw [Vex.ren]; exact .p b o0 (e _ _ hx) h
  | .nilp h => by rw [Vex.ren]; exact .nilp h
  | .slc r hx hn h => by rw [Vex.ren]; exact .slc r (e _ _ hx) hn h
  | .nilslc h => by rw [Vex.ren]; exact .nilslc h
  | .agg vs h hl => by rw [Vex.ren]; exact .agg vs h (DenL.ren e hl)
  | .tup vs h hl => by rw [Vex.ren]; exact .tup vs h (DenT.ren e hl)
  | .fn vs us h h1 h2 => by rw [Vex.ren]; exact .fn vs us h (DenT.ren e h1) (DenT.ren e h2)
  | .nilfn h => by rw [Vex.ren]; exact .nilfn h
  | .ifc u h hx => by rw [Vex.ren]; exact .ifc u h (Den.ren e hx)
  | .nilifc h => by rw [Vex.ren]; exact .nilifc h
  | .map b hx h => by rw [Vex.ren]; exact .map b (e _ _ hx) h
  | .nilmap h => by rw [Vex.ren]; exact .nilmap h
  | .raw h => by rw [Vex.ren]; exact .raw h
theorem DenC.ren {τ : Nat → Nat} {ρ ρ' : Rho} (e : Via τ ρ ρ') {x : SV} {cs : List Value} (h : DenC ρ x cs) : DenC ρ' (Vex.ren τ x) cs :=
  match h with
  | .one c h h1 hx => .one c h h1 (Den.ren e hx)
  | .ints hm h => by rw [Vex.ren]; exact .ints hm h
  | .rows hm h => by rw [Vex.ren]; exact .rows hm fun j hj => DenL.ren e (h j hj)
  | .junk hm h => by rw [Vex.ren]; exact .junk hm h
theorem DenL.ren {τ : Nat → Nat} {ρ ρ' : Rho} (e : Via τ ρ ρ') {x : List SV} {cs : List Value} (h : DenL ρ x cs) : DenL ρ' (Vex.renL τ x) cs :=
  match h with
  | .nil h => by rw [Vex.renL]; exact .nil h
  | .cons c1 c2 h h1 h2 => by rw [Vex.renL]; exact .cons c1 c2 h (DenC.ren e h1) (DenL.ren e h2)
theorem DenT.ren {τ : Nat → Nat} {ρ ρ' : Rho} (e : Via τ ρ ρ') {x : List SV} {cs : List Value} (h : DenT ρ x cs) : DenT ρ' (Vex.renL τ x) cs :=
  match h with
  | .nil h => by rw [Vex.renL]; exact .nil h
  | .cons c c2 h h1 h2 => by rw [Vex.renL]; exact .cons c c2 h (Den.ren e h1) (DenT.ren e h2)
end
theorem BSat.ren {τ : Nat → Nat} {ρ ρ' : Rho} (e : Via τ ρ ρ') {addr : Option (Nat × Nat)} {o : Own} {w : World} {k : Blk} (h : BSat ρ addr o w k) : BSat ρ' addr o w (renB τ k) := by
  cases k with
  | gone => exact h
  | cells T l => obtain ⟨cs, h1, h2⟩ := h; exact ⟨cs, h1.ren e, h2⟩
  | ro l => obtain ⟨cs, h1, h2⟩ := h; exact ⟨cs, h1.ren e, h2⟩
  | glob g l => obtain ⟨cs, arr, T, fz, h1, h2⟩ := h; exact ⟨cs, arr, T, fz, h1.ren e, h2⟩
  | obj x => exact h
  | abs A => exact h

/-! ### What may be said of what -/
mutual
/-- What the first says of a value, the second one says too. -/
def leV : SV → SV → Prop
  | .i k n, v => match v with
    | .i k' m => k = k' ∧ m.val = n.val
    | _ => False
  | .b x, v => match v with
    | .b y => y.val = x.val
    | _ => False
  | .p x o, v => match v with
    | .p y o' => x = y ∧ o'.val = o.val
    | _ => False
  | .slc x l w o len cap, v => match v with
    | .slc x' l' w' o' len' cap' => x = x' ∧ l = l' ∧ w = w' ∧ o'.val = o.val ∧ len'.val = len.val ∧ cap'.val = cap.val
    | _ => False
  | .agg l, v => match v with
    | .agg l' => leL l l'
    | _ => False
  | .tup l, v => match v with
    | .tup l' => leL l l'
    | _ => False
  | .ifc t x, v => match v with
    | .ifc t' y => t = t' ∧ leV x y
    | _ => False
  | .ints k m zs, v => match v with
    | .ints k' m' zs' => k = k' ∧ m'.val = m.val ∧ zs' = zs
    | _ => False
  | .rows w m f, v => match v with
    | .rows w' m' f' => w = w' ∧ m'.val = m.val ∧ ∀ j, j < m.val → leL (f j) (f' j)
    | _ => False
  | .junk w m, v => match v with
    | .junk w' m' => w = w' ∧ m'.val = m.val
    | _ => False
  | u, v => u = v
def leL : List SV → List SV → Prop
  | [], l => match l with
    | [] => True
    | _ :: _ => False
  | u :: r, l => match l with
    | [] => False
    | v :: s => leV u v ∧ leL r s
end

mutual
theorem leV.den' {ρ : Rho} {u : SV} {c : Value} (h : Den ρ u c) : ∀ v : SV, leV u v → Den ρ v c :=
  match h with
  | .i h => fun v hl => by cases v <;> simp only [leV] at hl; obtain ⟨rfl, e⟩ := hl; exact .i (by rw [h, e])
  | .b h => fun v hl => by cases v <;> simp only [leV] at hl; exact .b (by rw [h, hl])
  | .p b o0 hx h => fun v hl => by cases v <;> simp only [leV] at hl; obtain ⟨rfl, e⟩ := hl; exact .p b o0 hx (by rw [h, e])
  | .slc r hx hn h => fun v hl => by cases v <;> simp only [leV] at hl; obtain ⟨rfl, rfl, rfl, e1, e2, e3⟩ := hl; exact .slc r hx (by rw [e2, e3]; exact hn) (by rw [e1, e2, e3]; exact h)
  | .agg vs h h1 => have ih := leL.den' h1; fun v hl => by cases v <;> simp only [leV] at hl; exact .agg vs h (ih _ hl)
  | .tup vs h h1 => have ih := leL.denT' h1; fun v hl => by cases v <;> simp only [leV] at hl; exact .tup vs h (ih _ hl)
  | .ifc u h h1 => have ih := leV.den' h1; fun v hl => by cases v <;> simp only [leV] at hl; obtain ⟨rfl, hl⟩ := hl; exact .ifc u h (ih _ hl)
  | .str h => fun v hl => by simp only [leV] at hl; subst hl; exact .str h
  | .nilp h => fun v hl => by simp only [leV] at hl; subst hl; exact .nilp h
  | .nilslc h => fun v hl => by simp only [leV] at hl; subst hl; exact .nilslc h
  | .fn vs us h h1 h2 => fun v hl => by simp only [leV] at hl; subst hl; exact .fn vs us h h1 h2
  | .nilfn h => fun v hl => by simp only [leV] at hl; subst hl; exact .nilfn h
  | .nilifc h => fun v hl => by simp only [leV] at hl; subst hl; exact .nilifc h
  | .map b hx h => fun v hl => by simp only [leV] at hl; subst hl; exact .map b hx h
  | .nilmap h => fun v hl => by simp only [leV] at hl; subst hl; exact .nilmap h
  | .raw h => fun v hl => by simp only [leV] at hl; subst hl; exact .raw h
theorem leV.denC' {ρ : Rho} {u : SV} {cs : List Value} (h : DenC ρ u cs) : ∀ v : SV, leV u v → DenC ρ v cs :=
  match h with
  | .one c h h1 hx => have ih := leV.den' hx; fun v hl => .one c h h1 (ih v hl)
  | .ints hm h => fun v hl => by cases v <;> simp only [leV] at hl; obtain ⟨rfl, e, rfl⟩ := hl; exact .ints (by rw [e]; exact hm) h
  | .rows hm h => have ih := fun j hj => leL.den' (h j hj); fun v hl => by cases v <;> simp only [leV] at hl; obtain ⟨rfl, e, hf⟩ := hl; exact .rows (by rw [e]; exact hm) (fun j hj => ih j (by rw [← e]; exact hj) _ (hf j (by rw [← e]; exact hj)))
  | .junk hm h => fun v hl => by cases v <;> simp only [leV] at hl; obtain ⟨rfl, e⟩ := hl; exact .junk (by rw [e]; exact hm) h
theorem leL.den' {ρ : Rho} {l : List SV} {cs : List Value} (h : DenL ρ l cs) : ∀ m : List SV, leL l m → DenL ρ m cs :=
  match h with
  | .nil h => fun m hl => by cases m <;> simp only [leL] at hl; exact .nil h
  | .cons c1 c2 h h1 h2 => have ih1 := leV.denC' h1; have ih2 := leL.den' h2; fun m hl => by cases m <;> simp only [leL] at hl; exact .cons c1 c2 h (ih1 _ hl.1) (ih2 _ hl.2)
theorem leL.denT' {ρ : Rho} {l : List SV} {cs : List Value} (h : DenT ρ l cs) : ∀ m : List SV, leL l m → DenT ρ m cs :=
  match h with
  | .nil h => fun m hl => by cases m <;> simp only [leL] at hl; exact .nil h
  | .cons c c2 h h1 h2 => have ih1 := leV.den' h1; have ih2 := leL.denT' h2; fun m hl => by cases m <;> simp only [leL] at hl; exact .cons c c2 h (ih1 _ hl.1) (ih2 _ hl.2)
end
theorem leV.den {ρ : Rho} {u v : SV} {c : Value} (h : Den ρ u c) (hl : leV u v) : Den ρ v c := leV.den' h v hl
theorem leV.denC {ρ : Rho} {u v : SV} {cs : List Value} (h : DenC ρ u cs) (hl : leV u v) : DenC ρ v cs := leV.denC' h v hl
theorem leL.den {ρ : Rho} {l m : List SV} {cs : List Value} (h : DenL ρ l cs) (hl : leL l m) : DenL ρ m cs := leL.den' h m hl
theorem leL.denT {ρ : Rho} {l m : List SV} {cs : List Value} (h : DenT ρ l cs) (hl : leL l m) : DenT ρ m cs := leL.denT' h m hl

def leB : Blk → Blk → Prop
  | .cells T l, k => match k with
    | .cells T' l' => T = T' ∧ leL l l'
    | _ => False
  | .ro l, k => match k with
    | .ro l' => leL l l'
    | _ => False
  | .glob g l, k => match k with
    | .glob g' l' => g = g' ∧ leL l l'
    | _ => False
  | a, k => a = k
theorem leB.sat {ρ : Rho} {addr : Option (Nat × Nat)} {o : Own} {w : World} {k k' : Blk} (h : BSat ρ addr o w k) (hl : leB k k') : BSat ρ addr o w k' := by
  cases k with
  | cells T l => cases k' <;> simp only [leB] at hl; obtain ⟨rfl, hl⟩ := hl; obtain ⟨cs, h1, h2⟩ := h; exact ⟨cs, leL.den h1 hl, h2⟩
  | ro l => cases k' <;> simp only [leB] at hl; obtain ⟨cs, h1, h2⟩ := h; exact ⟨cs, leL.den h1 hl, h2⟩
  | glob g l => cases k' <;> simp only [leB] at hl; obtain ⟨rfl, hl⟩ := hl; obtain ⟨cs, arr, T, fz, h1, h2⟩ := h; exact ⟨cs, arr, T, fz, leL.den h1 hl, h2⟩
  | gone => simp only [leB] at hl; subst hl; exact h
  | obj x => simp only [leB] at hl; subst hl; exact h
  | abs A => simp only [leB] at hl; subst hl; exact h

/-- What is said by new names holds by the old ones. -/
def Back (τ : Nat → Nat) (ρ ρ' : Rho) : Prop := ∀ (x : Nat) (r : Option (Nat × Nat)), ρ[τ x]? = some r → ρ'[x]? = some r
mutual
theorem Den.back' {τ : Nat → Nat} {ρ ρ' : Rho} (e : Back τ ρ ρ') {y : SV} {v : Value} (h : Den ρ y v) : ∀ x : SV, y = Vex.ren τ x → Den ρ' x v :=
  match h with
  | .i h => fun x hx => by cases x <;> simp only [Vex.ren, reduceCtorEq, SV.i.injEq] at hx; obtain ⟨rfl, rfl⟩ := hx; exact .i h
  | .b h => fun x hx => by cases x <;> simp only [Vex.ren, reduceCtorEq, SV.b.injEq] at hx; subst hx; exact .b h
  | .str h => fun x hx => by cases x <;> simp only [Vex.ren, reduceCtorEq, SV.str.injEq] at hx; subst hx; exact .str h
  | .p b o0 h1 h => fun x hx => by cases x <;> simp only [Vex.ren, reduceCtorEq, SV.p.injEq] at hx; obtain ⟨rfl, rfl⟩ := hx; exact .p b o0 (e _ _ h1) h
  | .nilp h => fun x hx => by cases x <;> simp only [Vex.ren, reduceCtorEq] at hx; exact .nilp h
  | .slc r h1 hn h => fun x hx => by cases x <;> simp only [Vex.ren, reduceCtorEq, SV.slc.injEq] at hx; obtain ⟨rfl, rfl, rfl, rfl, rfl, rfl⟩ := hx; exact .slc r (e _ _ h1) hn h
  | .nilslc h => fun x hx => by cases x <;> simp only [Vex.ren, reduceCtorEq] at hx; exact .nilslc h
  | .agg vs h h1 => have ih1 := DenL.back' e h1; fun x hx => by cases x <;> simp only [Vex.ren, reduceCtorEq, SV.agg.injEq] at hx; exact .agg vs h (ih1 _ hx)
  | .tup vs h h1 => have ih1 := DenT.back' e h1; fun x hx => by cases x <;> simp only [Vex.ren, reduceCtorEq, SV.tup.injEq] at hx; exact .tup vs h (ih1 _ hx)
  | .fn vs us h h1 h2 => have ih1 := DenT.back' e h1; have ih2 := DenT.back' e h2; fun x hx => by cases x <;> simp only [Vex.ren, reduceCtorEq, SV.fn.injEq] at hx; obtain ⟨rfl, hx, hy⟩ := hx; exact .fn vs us h (ih1 _ hx) (ih2 _ hy)
  | .nilfn h => fun x hx => by cases x <;> simp only [Vex.ren, reduceCtorEq] at hx; exact .nilfn h
  | .ifc u h h1 => have ih1 := Den.back' e h1; fun x hx => by cases x <;> simp only [Vex.ren, reduceCtorEq, SV.ifc.injEq] at hx; obtain ⟨rfl, hx⟩ := hx; exact .ifc u h (ih1 _ hx)
  | .nilifc h => fun x hx => by cases x <;> simp only [Vex.ren, reduceCtorEq] at hx; exact .nilifc h
  | .map b h1 h => fun x hx => by cases x <;> simp only [Vex.ren, reduceCtorEq, SV.map.injEq] at hx; subst hx; exact .map b (e _ _ h1) h
  | .nilmap h => fun x hx => by cases x <;> simp only [Vex.ren, reduceCtorEq] at hx; exact .nilmap h
  | .raw h => fun x hx => by cases x <;> simp only [Vex.ren, reduceCtorEq, SV.raw.injEq] at hx; subst hx; exact .raw h
theorem DenC.back' {τ : Nat → Nat} {ρ ρ' : Rho} (e : Back τ ρ ρ') {y : SV} {cs : List Value} (h : DenC ρ y cs) : ∀ x : SV, y = Vex.ren τ x → DenC ρ' x cs :=
  match h with
  | .one c h h1 h2 => have ih1 := Den.back' e h2; fun x hx => by exact .one c h h1 (ih1 x hx)
  | .ints hm h => fun x hx => by cases x <;> simp only [Vex.ren, reduceCtorEq, SV.ints.injEq] at hx; obtain ⟨rfl, rfl, rfl⟩ := hx; exact .ints hm h
  | .rows hm h => have ih1 := fun j hj => DenL.back' e (h j hj); fun x hx => by cases x <;> simp only [Vex.ren, reduceCtorEq, SV.rows.injEq] at hx; obtain ⟨rfl, rfl, rfl⟩ := hx; exact .rows hm fun j hj => ih1 j hj _ rfl
  | .junk hm h => fun x hx => by cases x <;> simp only [Vex.ren, reduceCtorEq, SV.junk.injEq] at hx; obtain ⟨rfl, rfl⟩ := hx; exact .junk hm h
theorem DenL.back' {τ : Nat → Nat} {ρ ρ' : Rho} (e : Back τ ρ ρ') {y : List SV} {cs : List Value} (h : DenL ρ y cs) : ∀ x : List SV, y = Vex.renL τ x → DenL ρ' x cs :=
  match h with
  | .nil h => fun x hx => by cases x <;> simp only [Vex.renL, reduceCtorEq] at hx; exact .nil h
  | .cons c1 c2 h h1 h2 => have ih1 := DenC.back' e h1; have ih2 := DenL.back' e h2; fun x hx => by cases x <;> simp only [Vex.renL, reduceCtorEq, List.cons.injEq] at hx; exact .cons c1 c2 h (ih1 _ hx.1) (ih2 _ hx.2)
theorem DenT.back' {τ : Nat → Nat} {ρ ρ' : Rho} (e : Back τ ρ ρ') {y : List SV} {cs : List Value} (h : DenT ρ y cs) : ∀ x : List SV, y = Vex.renL τ x → DenT ρ' x cs :=
  match h with
  | .nil h => fun x hx => by cases x <;> simp only [Vex.renL, reduceCtorEq] at hx; exact .nil h
  | .cons c c2 h h1 h2 => have ih1 := Den.back' e h1; have ih2 := DenT.back' e h2; fun x hx => by cases x <;> simp only [Vex.renL, reduceCtorEq, List.cons.injEq] at hx; exact .cons c c2 h (ih1 _ hx.1) (ih2 _ hx.2)
end
theorem DenL.back {τ : Nat → Nat} {ρ ρ' : Rho} (e : Back τ ρ ρ') {x : List SV} {cs : List Value} (h : DenL ρ (Vex.renL τ x) cs) : DenL ρ' x cs := DenL.back' e h x rfl
theorem DenT.back {τ : Nat → Nat} {ρ ρ' : Rho} (e : Back τ ρ ρ') {x : List SV} {cs : List Value} (h : DenT ρ (Vex.renL τ x) cs) : DenT ρ' x cs := DenT.back' e h x rfl
theorem BSat.back {τ : Nat → Nat} {ρ ρ' : Rho} (e : Back τ ρ ρ') {addr : Option (Nat × Nat)} {o : Own} {w : World} {k : Blk} (h : BSat ρ addr o w (renB τ k)) : BSat ρ' addr o w k := by
  cases k with
  | gone => exact h
  | cells T l => obtain ⟨cs, h1, h2⟩ := h; exact ⟨cs, h1.back e, h2⟩
  | ro l => obtain ⟨cs, h1, h2⟩ := h; exact ⟨cs, h1.back e, h2⟩
  | glob g l => obtain ⟨cs, arr, T, fz, h1, h2⟩ := h; exact ⟨cs, arr, T, fz, h1.back e, h2⟩
  | obj x => exact h
  | abs A => exact h
end
end Go.Vex
