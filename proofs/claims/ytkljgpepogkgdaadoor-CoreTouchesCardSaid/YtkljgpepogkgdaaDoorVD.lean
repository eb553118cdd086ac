/-
  VEX, draws: a region that draws its order, whose operations commute where nothing orders them: one walk in the text's order serves all.
-/
import Derived.Test.YtkljgpepogkgdaaDoorV1
set_option linter.unusedSimpArgs false
namespace Go.Vex
set_option linter.unusedVariables false

/-- What an operation does to worlds in which it may be carried out: what it may come to. -/
structure Beh where
  ok : World → Prop
  rel : World → Value → World → Prop

/-- It comes to something; it does not look at how much has been drawn. -/
structure Beh.Inv (B : Beh) : Prop where
  tot : ∀ x, B.ok x → ∃ v x', B.rel x v x'
  ok : ∀ x n, B.ok x → B.ok (x.drewN n)
  rel : ∀ x n v x'', B.rel (x.drewN n) v x'' → ∃ x', B.rel x v x' ∧ x'' = x'.drewN n

/-- With one outcome. -/
def Beh.det (ok : World → Prop) (g : World → World) (val : World → Value) : Beh := ⟨ok, fun x v x' => v = val x ∧ x' = g x⟩
theorem Beh.det_inv {ok : World → Prop} {g : World → World} {val : World → Value} (h1 : ∀ x n, ok x → ok (x.drewN n)) (h2 : ∀ x n, g (x.drewN n) = (g x).drewN n) (h3 : ∀ x n, val (x.drewN n) = val x) : (Beh.det ok g val).Inv :=
  ⟨fun x _ => ⟨_, _, rfl, rfl⟩, h1, fun x n v x'' ⟨e1, e2⟩ => ⟨g x, ⟨by rw [e1, h3], rfl⟩, by rw [e2, h2]⟩⟩

def Beh.pure (c : Value) : Beh := Beh.det (fun _ => True) id fun _ => c
theorem Beh.pure_inv (c : Value) : (Beh.pure c).Inv := Beh.det_inv (fun _ _ _ => trivial) (fun _ _ => rfl) (fun _ _ => rfl)

/-- 0: it touches nothing; 1: it reads; 2: it calls; 3: anything else. -/
def clsOp : Op → Nat
  | .load .. => 1
  | .call c => match c.callee with
    | .builtin b => match b with
      | .len => 0
      | .cap => 0
      | _ => 3
    | _ => 2
  | .move _ | .assign _ | .pick .. | .build .. | .nilCheck _ | .binOp .. | .unOp .. | .convert .. | .makeInterface .. | .makeFunc .. | .slice .. | .fieldAddr .. | .field .. | .indexAddr .. | .index .. | .extract .. => 0
  | _ => 3

/-- What a behaviour of a class is like. -/
structure Cls (c : Nat) (B : Beh) : Prop where
  inv : B.Inv
  p0 : c = 0 → ∃ v, B = Beh.pure v
  p2 : c ≤ 2 → ∃ ok v, B = Beh.det ok id fun _ => v
def PairOk (c d : Nat) : Prop := c = 0 ∨ d = 0 ∨ (c ≤ 2 ∧ d ≤ 2)
theorem Cls.pure (c : Nat) (v : Value) : Cls c (Beh.pure v) := ⟨Beh.pure_inv v, fun _ => ⟨v, rfl⟩, fun _ => ⟨_, v, rfl⟩⟩

section
variable {P : Program} {ops : Array Oper}

def BehRun (P : Program) (o : Oper) (a : Act) (B : Beh) : Prop :=
  ∀ x, B.ok x → (∃ v x', B.rel x v x' ∧ (execOp a.eval o).run P x = .ok (.value v) x') ∨ (∃ x', B.rel x undef x' ∧ (execOp a.eval o).run P x = .ok .skip x') ∨
    (clsOp o.op = 2 ∧ ∃ f args, (execOp a.eval o).run P x = .ok (.enter f args) x ∧ Calls P f args x (fun e w' => ∃ v x' n, e = .returned v ∧ B.rel x v x' ∧ w' = x'.drewN n))

def OpRun (P : Program) (ops : Array Oper) (o : Oper) (a : Act) (B : Beh) : Prop :=
  (Region.wanted o (yielded ops a.tmps) = true ∧ BehRun P o a B) ∨ (Region.wanted o (yielded ops a.tmps) = false ∧ B = Beh.pure undef)

theorem OpRun.put {o o' : Oper} {a : Act} {B : Beh} {v : Value} (h : OpRun P ops o a B) (hs : ∀ cs b, o.op ≠ .select cs b) (hap : ∀ d, o'.dst = some d → d ∉ o.looksAt ops) : OpRun P ops o (a.put o'.dst v) B := by
  unfold OpRun BehRun at *
  rw [execOp_put o hs a o'.dst v hap, wanted_put o a o'.dst v hap]
  exact h
theorem OpRun.unput {o o' : Oper} {a : Act} {B : Beh} {v : Value} (h : OpRun P ops o (a.put o'.dst v) B) (hs : ∀ cs b, o.op ≠ .select cs b) (hap : ∀ d, o'.dst = some d → d ∉ o.looksAt ops) : OpRun P ops o a B := by
  unfold OpRun BehRun at *
  rw [execOp_put o hs a o'.dst v hap, wanted_put o a o'.dst v hap] at h
  exact h

theorem Beh.pure_inj (w : World) {c d : Value} (h : Beh.pure c = Beh.pure d) : c = d := by
  have e : (Beh.pure c).rel = (Beh.pure d).rel := by rw [h]
  have : (Beh.pure d).rel w c w := by rw [← e]; exact ⟨rfl, rfl⟩
  exact this.1
theorem OpRun.det {o : Oper} {a : Act} {c d : Value} (w : World) (h0 : clsOp o.op = 0) (h : OpRun P ops o a (Beh.pure c)) (h' : OpRun P ops o a (Beh.pure d)) : c = d := by
  have key : ∀ e, BehRun P o a (Beh.pure e) → (execOp a.eval o).run P w = .ok (.value e) w ∨ (e = undef ∧ (execOp a.eval o).run P w = .ok .skip w) := by
    intro e h
    rcases h w trivial with ⟨v, x', ⟨e1, e2⟩, e⟩ | ⟨x', ⟨e1, e2⟩, e⟩ | ⟨e, _⟩
    · rw [e1, e2] at e; exact .inl e
    · rw [e2] at e; exact .inr ⟨e1.symm, e⟩
    · omega
  rcases h with ⟨hw, h⟩ | ⟨hw, h⟩
  · rcases h' with ⟨_, h'⟩ | ⟨hw', _⟩
    · rcases key _ h with e | ⟨e1, e⟩
      · rcases key _ h' with e' | ⟨e2, e'⟩
        · rw [e] at e'; cases e'; rfl
        · rw [e] at e'; cases e'
      · rcases key _ h' with e' | ⟨e2, e'⟩
        · rw [e] at e'; cases e'
        · rw [e1, e2]
    · rw [hw] at hw'; cases hw'
  · rcases h' with ⟨hw', _⟩ | ⟨_, h'⟩
    · rw [hw] at hw'; cases hw'
    · rw [Beh.pure_inj w h, Beh.pure_inj w h']

/-- The operations of a list, one behind the other. -/
def LexOk (P : Program) (ops : Array Oper) (Q : Act → World → Prop) : List Nat → Act → World → Prop
  | [], a, w => Q a w
  | k :: r, a, w => ∃ o B, ops[k]? = some o ∧ Cls (clsOp o.op) B ∧ B.ok w ∧ OpRun P ops o a B ∧ ∀ v w', B.rel w v w' → LexOk P ops Q r (a.put o.dst v) w'

theorem LexOk.swap {Q : Act → World → Prop} (hs : Region.noSelect ops = true) {k i : Nat} {ok oi : Oper} (hk : ops[k]? = some ok) (hi : ops[i]? = some oi)
    (hap : ok.apart ops oi = true) (hc : PairOk (clsOp ok.op) (clsOp oi.op)) {r : List Nat} {a : Act} {w : World} (h : LexOk P ops Q (k :: i :: r) a w) : LexOk P ops Q (i :: k :: r) a w := by
  obtain ⟨o1, Bk, e1, ck, g1, g2, g3⟩ := h
  rw [hk] at e1; cases e1
  obtain ⟨h1, h2, h3⟩ := Oper.apart_spec hap
  have sk := Region.noSelect_spec hs k ok
  have si := Region.noSelect_spec hs i oi
  by_cases hck : clsOp ok.op ≤ 2
  · obtain ⟨okk, vk, rfl⟩ := ck.p2 hck
    obtain ⟨o2, Bi, e2, ci, g5, g4, g6⟩ := g3 vk w ⟨rfl, rfl⟩
    rw [hi] at e2; cases e2
    refine ⟨oi, Bi, hi, ci, g5, g4.unput (fun cs b => si cs b hi) h1, fun vb w1 hr => ⟨ok, _, hk, ck, ?_, g2.put (fun cs b => sk cs b hk) h3, ?_⟩⟩
    · by_cases h0 : clsOp ok.op = 0
      · obtain ⟨v, hv⟩ := ck.p0 h0; rw [hv]; trivial
      · have hd : clsOp oi.op ≤ 2 := by unfold PairOk at hc; omega
        obtain ⟨oki, vi, rfl⟩ := ci.p2 hd
        obtain ⟨_, rfl⟩ := hr
        exact g1
    · rintro va w2 ⟨rfl, rfl⟩
      have := g6 vb _ hr
      rw [Act.put_comm a _ _ (fun d hd e => h2 d e hd)]
      exact this
  · have hd : clsOp oi.op = 0 := by unfold PairOk at hc; omega
    obtain ⟨va, w1, hr⟩ := ck.inv.tot w g1
    obtain ⟨o2, Bi, e2, ci, g5, g4, g6⟩ := g3 va w1 hr
    rw [hi] at e2; cases e2
    obtain ⟨c0, rfl⟩ := ci.p0 hd
    have hrun := g4.unput (fun cs b => si cs b hi) h1
    refine ⟨oi, _, hi, ci, trivial, hrun, ?_⟩
    rintro vb w1' ⟨rfl, rfl⟩
    refine ⟨ok, Bk, hk, ck, g1, g2.put (fun cs b => sk cs b hk) h3, fun va' w2 hr2 => ?_⟩
    obtain ⟨o2, Bi', e2, ci', g5', g4', g6'⟩ := g3 va' w2 hr2
    rw [hi] at e2; cases e2
    obtain ⟨c', rfl⟩ := ci'.p0 hd
    have hrun' := g4'.unput (fun cs b => si cs b hi) h1
    have := OpRun.det w1 hd hrun hrun'
    subst this
    have := g6' _ _ ⟨rfl, rfl⟩
    rw [Act.put_comm a _ _ (fun d hd e => h2 d e hd)]
    exact this

theorem LexOk.front {Q : Act → World → Prop} (hs : Region.noSelect ops = true) {i : Nat} {oi : Oper} (hi : ops[i]? = some oi) : ∀ (pre post : List Nat) (a : Act) (w : World),
    (∀ k ∈ pre, ∃ ok, ops[k]? = some ok ∧ ok.apart ops oi = true ∧ PairOk (clsOp ok.op) (clsOp oi.op)) → LexOk P ops Q (pre ++ i :: post) a w → LexOk P ops Q (i :: (pre ++ post)) a w
  | [], post, a, w, _, h => h
  | k :: pre, post, a, w, hp, h => by
    obtain ⟨ok, hk, hap, hc⟩ := hp k (by simp)
    obtain ⟨o1, B, e1, c1, g1, g2, g3⟩ := h
    rw [hk] at e1; cases e1
    exact LexOk.swap hs hk hi hap hc ⟨ok, B, hk, c1, g1, g2, fun v w' hr => LexOk.front hs hi pre post _ _ (fun j hj => hp j (by simp [hj])) (g3 v w' hr)⟩

theorem LexOk.drewN {Q : Act → World → Prop} (hQ : ∀ a w n, Q a w → Q a (w.drewN n)) : ∀ (l : List Nat) (a : Act) (w : World) (n : Nat), LexOk P ops Q l a w → LexOk P ops Q l a (w.drewN n)
  | [], a, w, n, h => hQ a w n h
  | k :: r, a, w, n, h => by
    obtain ⟨o, B, h1, hc, h2, h3, h4⟩ := h
    refine ⟨o, B, h1, hc, hc.inv.ok w n h2, h3, fun v w' hr => ?_⟩
    obtain ⟨x', hr', rfl⟩ := hc.inv.rel w n v w' hr
    exact LexOk.drewN hQ r _ _ n (h4 v x' hr')

/-- i stands before k in every order that the edges allow. -/
def ordB (ops : Array Oper) : Nat → Nat → Nat → Bool
  | 0, _, _ => false
  | fuel + 1, i, k => match ops[k]? with
    | none => false
    | some o => o.after.any fun e => Region.binds .any e && (e.on == i || ordB ops fuel i e.on)

def Down (ops : Array Oper) (listed : Array Bool) : Prop := ∀ j o, ops[j]? = some o → listed.getD j false = true → ∀ e ∈ o.after, Region.binds .any e = true → listed.getD e.on false = true

theorem ordB_sound {listed : Array Bool} (hd : Down ops listed) : ∀ (fuel i k : Nat) (o : Oper), ops[k]? = some o → ordB ops fuel i k = true → (∀ e ∈ o.after, Region.binds .any e = true → listed.getD e.on false = true) →
    listed.getD i false = true := by
  intro fuel
  induction fuel with
  | zero => intro i k o _ h; simp [ordB] at h
  | succ fuel ih =>
    intro i k o ho h hall
    unfold ordB at h
    rw [ho] at h
    simp only at h
    obtain ⟨e, he, hb⟩ := Array.any_eq_true'.1 h
    simp only [Bool.and_eq_true, Bool.or_eq_true, beq_iff_eq] at hb
    obtain ⟨h1, h2⟩ := hb
    have hl := hall e he h1
    rcases h2 with h2 | h2
    · subst h2; exact hl
    · cases hoe : ops[e.on]? with
      | none =>
        cases fuel with
        | zero => simp [ordB] at h2
        | succ f => simp [ordB, hoe] at h2
      | some oe => exact ih i e.on oe hoe h2 (hd e.on oe hoe hl)

def Before (ops : Array Oper) (i k : Nat) : Prop := ∃ F, ordB ops F i k = true
theorem before_sound {listed : Array Bool} (hd : Down ops listed) (i k : Nat) (o : Oper) (h1 : ops[k]? = some o) (h : Before ops i k) (h2 : ∀ e ∈ o.after, Region.binds .any e = true → listed.getD e.on false = true) :
    listed.getD i false = true := let ⟨F, h⟩ := h; ordB_sound hd F i k o h1 h h2

theorem wpOp_of_run {B : Beh} {i : Nat} {o : Oper} {a : Act} {w : World} {K : Act → World → Prop} {Q : Exit → Act → World → Prop} (hi : ops[i]? = some o) (hok : B.ok w) (h : OpRun P ops o a B)
    (hK : ∀ v w' n, B.rel w v w' → K (a.put o.dst v) (w'.drewN n)) : wpOp P ops Q i K a w := by
  unfold wpOp
  simp only [hi]
  rcases h with ⟨hw, h⟩ | ⟨hw, rfl⟩
  · rw [if_pos hw]
    refine .inl ?_
    unfold Oper.wp
    rcases h w hok with ⟨v, x', hr, h⟩ | ⟨x', hr, h⟩ | ⟨_, f, args, h, hc⟩
    · rw [h]; exact hK v x' 0 hr
    · rw [h]; exact hK undef x' 0 hr
    · rw [h]
      refine hc.mono fun e w' he => ?_
      obtain ⟨v, x', n, rfl, hr, rfl⟩ := he
      exact hK v x' n hr
  · rw [if_neg (by simp [hw])]
    exact hK undef w 0 ⟨rfl, rfl⟩

/-- All that stand ahead of s are listed, and no others. -/
def listedTo (n s : Nat) : Array Bool := (Array.range n).map fun j => decide (j < s)
theorem listedTo_getD {n s j : Nat} (hj : j < n) : (listedTo n s).getD j false = decide (j < s) := by simp [listedTo, hj]
theorem listedTo_size (n s : Nat) : (listedTo n s).size = n := by simp [listedTo]
theorem listedTo_ext {listed : Array Bool} {n s : Nat} (h1 : listed.size = n) (h2 : ∀ j, j < n → listed.getD j false = decide (j < s)) : listed = listedTo n s := by
  apply Array.ext (by rw [h1, listedTo_size])
  intro j hj1 hj2
  have := h2 j (by omega)
  rw [← listedTo_getD (s := s) (by omega : j < n)] at this
  simpa [hj1, hj2] using this

theorem any_seg {Q : Exit → Act → World → Prop} {Q' : Act → World → Prop} (hQ : ∀ a w n, Q' a w → Q' a (w.drewN n)) (hs : Region.noSelect ops = true) (stop : Nat)
    (hlow : ∀ (k : Nat) o, ops[k]? = some o → ∀ e ∈ o.after, Region.binds .any e = true → e.on < k) (hst : stop ≤ ops.size) (start : Nat)
    (hp : ∀ k i ok oi, start ≤ k → k < i → i < stop → ops[k]? = some ok → ops[i]? = some oi → Before ops k i ∨ (ok.apart ops oi = true ∧ PairOk (clsOp ok.op) (clsOp oi.op)))
    (hbar : ∀ k i oi, start ≤ k → k < stop → stop ≤ i → ops[i]? = some oi → Before ops k i)
    (H : ∀ a w, Q' a w → wpAny P .any ops Q (ops.size - stop) (listedTo ops.size stop) a w) :
    ∀ (rem : List Nat) (listed : Array Bool) (a : Act) (w : World), Down ops listed → rem.Pairwise (· < ·) → (∀ j, j ∈ rem ↔ (j < ops.size ∧ listed.getD j false = false ∧ j < stop)) → (∀ j, j ∈ rem → start ≤ j) →
      (∀ j, stop ≤ j → listed.getD j false = false) → listed.size = ops.size → LexOk P ops Q' rem a w → wpAny P .any ops Q (ops.size - stop + rem.length) listed a w := by
  intro rem
  generalize hlen : rem.length = len
  induction len generalizing rem with
  | zero =>
    intro listed a w hd hsorted hrem hstart habove hsz h
    have : rem = [] := List.length_eq_zero_iff.1 hlen
    subst this
    have e : listed = listedTo ops.size stop := listedTo_ext hsz fun j hj => by
      by_cases hjs : j < stop
      · simp only [hjs, decide_true]
        cases hl : listed.getD j false with
        | true => rfl
        | false => have := (hrem j).2 ⟨hj, hl, hjs⟩; simp at this
      · rw [habove j (by omega)]; simp [hjs]
    rw [e]
    exact H a w h
  | succ len ih =>
    intro listed a w hd hsorted hrem hstart habove hsz h
    show wpAny P .any ops Q (ops.size - stop + len + 1) listed a w
    refine ⟨fun hr => ?_, fun i hi => ?_⟩
    · cases rem with
      | nil => simp at hlen
      | cons k r =>
        exfalso
        have hk := (hrem k).1 (by simp)
        have hmem : k ∈ Region.ready .any ops listed := by
          rw [mem_ready]
          refine ⟨by have := hk.2.1; simp [hsz, hk.1] at this ⊢; exact this, ops[k]'hk.1, by simp [hk.1], ?_⟩
          intro e he hb
          have hek := hlow k _ (by simp [hk.1]) e he hb
          cases hl : listed.getD e.on false with
          | true => rfl
          | false =>
            have hm := (hrem e.on).2 ⟨by omega, hl, by omega⟩
            rcases List.mem_cons.1 hm with hm | hm
            · omega
            · have := (List.pairwise_cons.1 hsorted).1 e.on hm; omega
        rw [hr] at hmem; simp at hmem
    · obtain ⟨h0, oi, hoi, hall⟩ := mem_ready.1 hi
      have hlt := (Array.getElem?_eq_some_iff.1 hoi).1
      have histop : i < stop := by
        rcases Nat.lt_or_ge i stop with hi' | hi'
        · exact hi'
        · exfalso
          cases rem with
          | nil => simp at hlen
          | cons k r =>
            have hk := (hrem k).1 (by simp)
            have := before_sound hd k i oi hoi (hbar k i oi (hstart k (by simp)) hk.2.2 hi' hoi) hall
            rw [hk.2.1] at this; cases this
      have hmem : i ∈ rem := (hrem i).2 ⟨hlt, by simp [hsz, hlt] at h0 ⊢; exact h0, histop⟩
      obtain ⟨pre, post, rfl⟩ := List.append_of_mem hmem
      rw [List.pairwise_append] at hsorted
      obtain ⟨s1, s2, s3⟩ := hsorted
      have hfront := LexOk.front hs hoi pre post a w (fun k hk => by
        have hklt : k < i := s3 k hk i (by simp)
        have hk' := (hrem k).1 (by simp [hk])
        have hok : ops[k]? = some (ops[k]'hk'.1) := by simp [hk'.1]
        refine ⟨_, hok, ?_⟩
        rcases hp k i _ oi (hstart k (by simp [hk])) hklt histop hok hoi with h1 | h1
        · have := before_sound hd k i oi hoi h1 hall
          rw [hk'.2.1] at this; cases this
        · exact h1) h
      obtain ⟨o, B, e1, c1, g1, g2, g3⟩ := hfront
      rw [hoi] at e1; cases e1
      refine wpOp_of_run hoi g1 g2 fun v w' n hr => ?_
      have hnot : i ∉ pre ++ post := by
        intro hm
        rcases List.mem_append.1 hm with hm | hm
        · have := s3 i hm i (by simp); omega
        · rw [List.pairwise_cons] at s2
          have := s2.1 i hm; omega
      refine ih (pre ++ post) (by simp at hlen ⊢; omega) (listed.setIfInBounds i true) _ _ ?_ ?_ ?_ (fun j hj => hstart j (by simp at hj ⊢; rcases hj with hj | hj <;> simp [hj])) ?_ (by simp [hsz]) (LexOk.drewN (fun a w n => hQ a w n) _ _ _ n (g3 v w' hr))
      · intro j o' ho' hj e he hb
        by_cases hij : i = j
        · subst hij
          rw [hoi] at ho'; cases ho'
          exact getD_set_true (hall e he hb)
        · rw [getD_set_ne false hij] at hj
          exact getD_set_true (hd j o' ho' hj e he hb)
      · rw [List.pairwise_append]
        rw [List.pairwise_cons] at s2
        exact ⟨s1, s2.2, fun x hx y hy => s3 x hx y (by simp [hy])⟩
      · intro j
        by_cases hij : i = j
        · subst hij
          constructor
          · intro hm; exact absurd hm hnot
          · rintro ⟨_, hm, _⟩
            simp [hsz, hlt] at hm
        · rw [getD_set_ne false hij, ← hrem j]
          simp only [List.mem_append, List.mem_cons]
          constructor
          · rintro (h | h)
            · exact .inl h
            · exact .inr (.inr h)
          · rintro (h | h | h)
            · exact .inl h
            · exact absurd h.symm hij
            · exact .inr h
      · intro j hj
        rw [getD_set_ne false (by omega)]; exact habove j hj

theorem down_listedTo (hlow : ∀ (k : Nat) o, ops[k]? = some o → ∀ e ∈ o.after, Region.binds .any e = true → e.on < k) (s : Nat) : Down ops (listedTo ops.size s) := by
  intro j o ho hj e he hb
  have hlt := (Array.getElem?_eq_some_iff.1 ho).1
  have := hlow j o ho e he hb
  rw [listedTo_getD hlt] at hj
  rw [listedTo_getD (by omega)]
  simp only [decide_eq_true_eq] at hj ⊢
  omega

/-- From one number to another: those operations, in whatever order. -/
theorem wpAny_seg {Q : Exit → Act → World → Prop} {Q' : Act → World → Prop} (hQ : ∀ a w n, Q' a w → Q' a (w.drewN n)) (hs : Region.noSelect ops = true) (stop : Nat)
    (hlow : ∀ (k : Nat) o, ops[k]? = some o → ∀ e ∈ o.after, Region.binds .any e = true → e.on < k) (hst : stop ≤ ops.size) (start : Nat) (hss : start ≤ stop)
    (hp : ∀ k i ok oi, start ≤ k → k < i → i < stop → ops[k]? = some ok → ops[i]? = some oi → Before ops k i ∨ (ok.apart ops oi = true ∧ PairOk (clsOp ok.op) (clsOp oi.op)))
    (hbar : ∀ k i oi, start ≤ k → k < stop → stop ≤ i → ops[i]? = some oi → Before ops k i)
    (H : ∀ a w, Q' a w → wpAny P .any ops Q (ops.size - stop) (listedTo ops.size stop) a w) {a : Act} {w : World}
    (h : LexOk P ops Q' (List.range' start (stop - start)) a w) : wpAny P .any ops Q (ops.size - start) (listedTo ops.size start) a w := by
  have := any_seg hQ hs stop hlow hst start hp hbar H (List.range' start (stop - start)) (listedTo ops.size start) a w (down_listedTo hlow start) (List.pairwise_lt_range' (s := start) (n := stop - start) (step := 1) (by omega))
    (fun j => by
      rw [List.mem_range'_1]
      constructor
      · intro hj
        refine ⟨by omega, ?_, by omega⟩
        rw [listedTo_getD (by omega)]; simp; omega
      · rintro ⟨h1, h2, h3⟩
        rw [listedTo_getD h1] at h2
        simp at h2; omega)
    (fun j hj => by rw [List.mem_range'_1] at hj; omega)
    (fun j hj => by
      by_cases hjs : j < ops.size
      · rw [listedTo_getD hjs]; simp; omega
      · simp [listedTo, hjs])
    (listedTo_size _ _) h
  rw [List.length_range', show ops.size - stop + (stop - start) = ops.size - start by omega] at this
  exact this

/-- One operation that nothing else may pass. -/
theorem wpAny_bar {Q : Exit → Act → World → Prop} (k : Nat) (hlow : ∀ (k : Nat) o, ops[k]? = some o → ∀ e ∈ o.after, Region.binds .any e = true → e.on < k) {o : Oper} (hk : ops[k]? = some o)
    (hbar : ∀ i oi, k < i → ops[i]? = some oi → Before ops k i) {a : Act} {w : World}
    (h : wpOp P ops Q k (wpAny P .any ops Q (ops.size - (k + 1)) (listedTo ops.size (k + 1))) a w) : wpAny P .any ops Q (ops.size - k) (listedTo ops.size k) a w := by
  have hlt := (Array.getElem?_eq_some_iff.1 hk).1
  rw [show ops.size - k = ops.size - (k + 1) + 1 by omega]
  have hready : ∀ i, i ∈ Region.ready .any ops (listedTo ops.size k) → i = k := by
    intro i hi
    obtain ⟨h0, oi, hoi, hall⟩ := mem_ready.1 hi
    have hil := (Array.getElem?_eq_some_iff.1 hoi).1
    rcases Nat.lt_trichotomy i k with hik | hik | hik
    · simp [listedTo, hil] at h0; omega
    · exact hik
    · have := before_sound (down_listedTo hlow k) k i oi hoi (hbar i oi hik hoi) hall
      rw [listedTo_getD hlt] at this; simp at this
  have hkr : k ∈ Region.ready .any ops (listedTo ops.size k) := by
    rw [mem_ready]
    refine ⟨by simp [listedTo, hlt], o, hk, fun e he hb => ?_⟩
    have := hlow k o hk e he hb
    rw [listedTo_getD (by omega)]; simpa using this
  have hset : (listedTo ops.size k).setIfInBounds k true = listedTo ops.size (k + 1) := listedTo_ext (by simp [listedTo]) fun j hj => by
    by_cases hjk : k = j
    · subst hjk; simp [listedTo, hj]
    · rw [getD_set_ne false hjk, listedTo_getD hj]
      have : (j < k) ↔ (j < k + 1) := by omega
      simp [this]
  refine ⟨fun h0 => ?_, fun i hi => ?_⟩
  · rw [h0] at hkr; simp at hkr
  · rw [hready i hi, hset]; exact h

theorem wpAny_end {Q : Exit → Act → World → Prop} {a : Act} {w : World} (h : Q .normal a w) : wpAny P .any ops Q (ops.size - ops.size) (listedTo ops.size ops.size) a w := by
  rw [Nat.sub_self]
  refine ⟨?_, h⟩
  apply List.eq_nil_iff_forall_not_mem.2
  intro j hj
  obtain ⟨h0, o, ho, _⟩ := mem_ready.1 hj
  have hlt := (Array.getElem?_eq_some_iff.1 ho).1
  simp [listedTo, hlt] at h0

theorem wp_draw {id : Nat} (hm : P.follows .mixedOrders = true) {Q : Exit → Act → World → Prop} {a : Act} {w : World}
    (h : wpAny P .any ops Q (ops.size - 0) (listedTo ops.size 0) a (w.drewN 1)) : (Code.region id ops true).wp P Q a w := by
  refine wp_region_any hm ?_
  have e : listedTo ops.size 0 = Array.replicate ops.size false := by
    apply Array.ext (by simp [listedTo])
    intro j h1 h2
    simp [listedTo]
  rw [e] at h
  exact h

/-- The checks of a region by computation. -/
def lowB (ops : List Oper) : Bool := ops.zipIdx.all fun x => x.1.after.all fun e => !Region.binds .any e || decide (e.on < x.2)
theorem lowB_sound {ops : Array Oper} (h : lowB ops.toList = true) (k : Nat) (o : Oper) (ho : ops[k]? = some o) (e : Edge) (he : e ∈ o.after) (hb : Region.binds .any e = true) : e.on < k := by
  unfold lowB at h
  rw [List.all_eq_true] at h
  have hm : (o, k) ∈ ops.toList.zipIdx := by
    rw [List.mem_zipIdx_iff_getElem?]
    simpa using ho
  have h1 := Array.all_eq_true_iff_forall_mem.1 (h _ hm) e he
  simp only [hb, Bool.not_true, Bool.false_or, decide_eq_true_eq] at h1
  exact h1

end
end Go.Vex
