/-
  VEX, draws, 3: a region that draws its order, in which calls make blocks that nobody sees.
-/
import Derived.Test.YtkljgpepogkgdaaDoorV22
set_option linter.unusedSimpArgs false
set_option linter.unusedVariables false
namespace Go.Vex

/-- Nothing of the first world has changed; blocks may have come. -/
structure Grew (w x : World) : Prop where
  kept : Kept w x
  heap : ∀ b, b < w.heap.size → x.heap[b]? = w.heap[b]?
theorem Grew.refl (w : World) : Grew w w := ⟨.refl w, fun _ _ => rfl⟩
theorem Grew.trans {a b c : World} (h : Grew a b) (k : Grew b c) : Grew a c :=
  ⟨h.kept.trans k.kept, fun x hx => (k.heap x (Nat.lt_of_lt_of_le hx h.kept.size)).trans (h.heap x hx)⟩
theorem Grew.drewN {w x : World} (h : Grew w x) (n : Nat) : Grew w (x.drewN n) := ⟨h.kept.trans (.drewN x n), h.heap⟩
theorem HSat.grew {ρ : Rho} {hp : List Blk} {w x : World} (h : HSat ρ hp w) (g : Grew w x) : HSat ρ hp x := by
  obtain ⟨ω, h⟩ := h
  exact ⟨ω, h.lenω, h.lenh, fun y a o k h1 h2 h3 => (h.sat y a o k h1 h2 h3).agree fun b hb => g.heap b (h.bnd y o h2 b hb), h.dis, fun y ox h1 b hb => Nat.lt_of_lt_of_le (h.bnd y ox h1 b hb) g.kept.size⟩

noncomputable section
variable {P : Program} {ops : Array Oper}
/-- In every world grown from w0 the operation comes to v, and the world grows. -/
def RunG (P : Program) (ops : Array Oper) (w0 : World) (o : Oper) (a : Act) (v : Value) : Prop :=
  (Region.wanted o (yielded ops a.tmps) = true ∧ ∀ x, Grew w0 x → (execOp a.eval o).run P x = .ok (.value v) x ∨ (v = undef ∧ (execOp a.eval o).run P x = .ok .skip x) ∨
    (∃ f args, (execOp a.eval o).run P x = .ok (.enter f args) x ∧ Calls P f args x (fun e w' => e = .returned v ∧ Grew w0 w'))) ∨
  (Region.wanted o (yielded ops a.tmps) = false ∧ v = undef)
theorem RunG.unput {w0 : World} {o o' : Oper} {a : Act} {u v : Value} (h : RunG P ops w0 o (a.put o'.dst v) u) (hs : ∀ cs b, o.op ≠ .select cs b) (hap : ∀ d, o'.dst = some d → d ∉ o.looksAt ops) : RunG P ops w0 o a u := by
  unfold RunG at *
  rw [execOp_put o hs a o'.dst v hap, wanted_put o a o'.dst v hap] at h
  exact h
theorem RunG.put {w0 : World} {o o' : Oper} {a : Act} {u v : Value} (h : RunG P ops w0 o a u) (hs : ∀ cs b, o.op ≠ .select cs b) (hap : ∀ d, o'.dst = some d → d ∉ o.looksAt ops) : RunG P ops w0 o (a.put o'.dst v) u := by
  unfold RunG at *
  rw [execOp_put o hs a o'.dst v hap, wanted_put o a o'.dst v hap]
  exact h

def LexG (P : Program) (ops : Array Oper) (w0 : World) (Q : Act → Prop) : List Nat → Act → Prop
  | [], a => Q a
  | k :: r, a => ∃ o v, ops[k]? = some o ∧ RunG P ops w0 o a v ∧ LexG P ops w0 Q r (a.put o.dst v)

theorem LexG.swap {w0 : World} {Q : Act → Prop} (hs : Region.noSelect ops = true) {k i : Nat} {ok oi : Oper} (hk : ops[k]? = some ok) (hi : ops[i]? = some oi)
    (hap : ok.apart ops oi = true) {r : List Nat} {a : Act} (h : LexG P ops w0 Q (k :: i :: r) a) : LexG P ops w0 Q (i :: k :: r) a := by
  obtain ⟨o1, vk, e1, g2, o2, vi, e2, g4, g6⟩ := h
  rw [hk] at e1; cases e1
  rw [hi] at e2; cases e2
  obtain ⟨h1, h2, h3⟩ := Oper.apart_spec hap
  refine ⟨oi, vi, hi, g4.unput (fun cs b => Region.noSelect_spec hs i oi cs b hi) h1, ok, vk, hk, g2.put (fun cs b => Region.noSelect_spec hs k ok cs b hk) h3, ?_⟩
  rw [Act.put_comm a _ _ (fun d hd e => h2 d e hd)]
  exact g6
theorem LexG.front {w0 : World} {Q : Act → Prop} (hs : Region.noSelect ops = true) {i : Nat} {oi : Oper} (hi : ops[i]? = some oi) : ∀ (pre post : List Nat) (a : Act),
    (∀ k ∈ pre, ∃ ok, ops[k]? = some ok ∧ ok.apart ops oi = true) → LexG P ops w0 Q (pre ++ i :: post) a → LexG P ops w0 Q (i :: (pre ++ post)) a
  | [], post, a, _, h => h
  | k :: pre, post, a, hp, h => by
    obtain ⟨ok, hk, hap⟩ := hp k (by simp)
    obtain ⟨o1, v, e1, g2, g3⟩ := h
    rw [hk] at e1; cases e1
    exact LexG.swap hs hk hi hap ⟨ok, v, hk, g2, LexG.front hs hi pre post _ (fun j hj => hp j (by simp [hj])) g3⟩

theorem wpOp_of_runG {i : Nat} {o : Oper} {a : Act} {w0 x : World} {v : Value} {K : Act → World → Prop} {Q : Exit → Act → World → Prop} (hi : ops[i]? = some o) (hx : Grew w0 x) (h : RunG P ops w0 o a v)
    (hK : ∀ x', Grew w0 x' → K (a.put o.dst v) x') : wpOp P ops Q i K a x := by
  unfold wpOp
  simp only [hi]
  rcases h with ⟨hw, h⟩ | ⟨hw, rfl⟩
  · rw [if_pos hw]
    refine .inl ?_
    unfold Oper.wp
    rcases h x hx with h1 | ⟨hv, h1⟩ | ⟨f, args, h1, hc⟩
    · rw [h1]; exact hK x hx
    · rw [h1]; rw [hv] at hK; exact hK x hx
    · rw [h1]
      refine hc.mono fun e w' he => ?_
      obtain ⟨rfl, hg⟩ := he
      exact hK w' hg
  · rw [if_neg (by simp [hw])]
    exact hK x hx
theorem any_segG {w0 : World} {Q : Exit → Act → World → Prop} {Q' : Act → Prop} (hs : Region.noSelect ops = true) (stop : Nat)
    (hlow : ∀ (k : Nat) o, ops[k]? = some o → ∀ e ∈ o.after, Region.binds .any e = true → e.on < k) (hst : stop ≤ ops.size) (start : Nat)
    (hp : ∀ k i ok oi, start ≤ k → k < i → i < stop → ops[k]? = some ok → ops[i]? = some oi → Before ops k i ∨ ok.apart ops oi = true)
    (hbar : ∀ k i oi, start ≤ k → k < stop → stop ≤ i → ops[i]? = some oi → Before ops k i)
    (H : ∀ a w, Q' a → Grew w0 w → wpAny P .any ops Q (ops.size - stop) (listedTo ops.size stop) a w) :
    ∀ (rem : List Nat) (listed : Array Bool) (a : Act) (w : World), Down ops listed → rem.Pairwise (· < ·) → (∀ j, j ∈ rem ↔ (j < ops.size ∧ listed.getD j false = false ∧ j < stop)) → (∀ j, j ∈ rem → start ≤ j) →
      (∀ j, stop ≤ j → listed.getD j false = false) → listed.size = ops.size → Grew w0 w → LexG P ops w0 Q' rem a → wpAny P .any ops Q (ops.size - stop + rem.length) listed a w := by
  intro rem
  generalize hlen : rem.length = len
  induction len generalizing rem with
  | zero =>
    intro listed a w hd hsorted hrem hstart habove hsz hg h
    have : rem = [] := List.length_eq_zero_iff.1 hlen
    subst this
    have e : listed = listedTo ops.size stop := listedTo_ext hsz fun j hj => by
      by_cases hjs : j < stop
      · simp only [hjs, decide_true]
        cases hl : listed.getD j false with
        | true => rfl
        | false => have := (hrem j).2 ⟨hj, hl, hjs⟩; simp at this
      · rw [habove j (by omega)]; simp [hjs]
    rw [e]
    exact H a w h hg
  | succ len ih =>
    intro listed a w hd hsorted hrem hstart habove hsz hg h
    show wpAny P .any ops Q (ops.size - stop + len + 1) listed a w
    refine ⟨fun hr => ?_, fun i hi => ?_⟩
    · cases rem with
      | nil => simp at hlen
      | cons k r =>
        exfalso
        have hk := (hrem k).1 (by simp)
        have hmem : k ∈ Region.ready .any ops listed := by
          rw [mem_ready]
          refine ⟨by have := hk.2.1; simp [hsz, hk.1] at this ⊢; exact this, ops[k]'hk.1, by simp [hk.1], ?_⟩
          intro e he hb
          have hek := hlow k _ (by simp [hk.1]) e he hb
          cases hl : listed.getD e.on false with
          | true => rfl
          | false =>
            have hm := (hrem e.on).2 ⟨by omega, hl, by omega⟩
            rcases List.mem_cons.1 hm with hm | hm
            · omega
            · have := (List.pairwise_cons.1 hsorted).1 e.on hm; omega
        rw [hr] at hmem; simp at hmem
    · obtain ⟨h0, oi, hoi, hall⟩ := mem_ready.1 hi
      have hlt := (Array.getElem?_eq_some_iff.1 hoi).1
      have histop : i < stop := by
        rcases Nat.lt_or_ge i stop with hi' | hi'
        · exact hi'
        · exfalso
          cases rem with
          | nil => simp at hlen
          | cons k r =>
            have hk := (hrem k).1 (by simp)
            have := before_sound hd k i oi hoi (hbar k i oi (hstart k (by simp)) hk.2.2 hi' hoi) hall
            rw [hk.2.1] at this; cases this
      have hmem : i ∈ rem := (hrem i).2 ⟨hlt, by simp [hsz, hlt] at h0 ⊢; exact h0, histop⟩
      obtain ⟨pre, post, rfl⟩ := List.append_of_mem hmem
      rw [List.pairwise_append] at hsorted
      obtain ⟨s1, s2, s3⟩ := hsorted
      have hfront := LexG.front hs hoi pre post a (fun k hk => by
        have hklt : k < i := s3 k hk i (by simp)
        have hk' := (hrem k).1 (by simp [hk])
        have hok : ops[k]? = some (ops[k]'hk'.1) := by simp [hk'.1]
        refine ⟨_, hok, ?_⟩
        rcases hp k i _ oi (hstart k (by simp [hk])) hklt histop hok hoi with h1 | h1
        · have := before_sound hd k i oi hoi h1 hall
          rw [hk'.2.1] at this; cases this
        · exact h1) h
      obtain ⟨o, v, e1, g2, g3⟩ := hfront
      rw [hoi] at e1; cases e1
      refine wpOp_of_runG hoi hg g2 fun w' hg' => ?_
      have hnot : i ∉ pre ++ post := by
        intro hm
        rcases List.mem_append.1 hm with hm | hm
        · have := s3 i hm i (by simp); omega
        · rw [List.pairwise_cons] at s2
          have := s2.1 i hm; omega
      refine ih (pre ++ post) (by simp at hlen ⊢; omega) (listed.setIfInBounds i true) _ _ ?_ ?_ ?_ (fun j hj => hstart j (by simp at hj ⊢; rcases hj with hj | hj <;> simp [hj])) ?_ (by simp [hsz]) hg' g3
      · intro j o' ho' hj e he hb
        by_cases hij : i = j
        · subst hij
          rw [hoi] at ho'; cases ho'
          exact getD_set_true (hall e he hb)
        · rw [getD_set_ne false hij] at hj
          exact getD_set_true (hd j o' ho' hj e he hb)
      · rw [List.pairwise_append]
        rw [List.pairwise_cons] at s2
        exact ⟨s1, s2.2, fun x hx y hy => s3 x hx y (by simp [hy])⟩
      · intro j
        by_cases hij : i = j
        · subst hij
          constructor
          · intro hm; exact absurd hm hnot
          · rintro ⟨_, hm, _⟩
            simp [hsz, hlt] at hm
        · rw [getD_set_ne false hij, ← hrem j]
          simp only [List.mem_append, List.mem_cons]
          constructor
          · rintro (h | h)
            · exact .inl h
            · exact .inr (.inr h)
          · rintro (h | h | h)
            · exact .inl h
            · exact absurd h.symm hij
            · exact .inr h
      · intro j hj
        rw [getD_set_ne false (by omega)]; exact habove j hj

theorem wpAny_segG {w0 : World} {Q : Exit → Act → World → Prop} {Q' : Act → Prop} (hs : Region.noSelect ops = true) (stop : Nat)
    (hlow : ∀ (k : Nat) o, ops[k]? = some o → ∀ e ∈ o.after, Region.binds .any e = true → e.on < k) (hst : stop ≤ ops.size) (start : Nat) (hss : start ≤ stop)
    (hp : ∀ k i ok oi, start ≤ k → k < i → i < stop → ops[k]? = some ok → ops[i]? = some oi → Before ops k i ∨ ok.apart ops oi = true)
    (hbar : ∀ k i oi, start ≤ k → k < stop → stop ≤ i → ops[i]? = some oi → Before ops k i)
    (H : ∀ a w, Q' a → Grew w0 w → wpAny P .any ops Q (ops.size - stop) (listedTo ops.size stop) a w) {a : Act} {w : World}
    (hg : Grew w0 w) (h : LexG P ops w0 Q' (List.range' start (stop - start)) a) : wpAny P .any ops Q (ops.size - start) (listedTo ops.size start) a w := by
  have := any_segG hs stop hlow hst start hp hbar H (List.range' start (stop - start)) (listedTo ops.size start) a w (down_listedTo hlow start) (List.pairwise_lt_range' (s := start) (n := stop - start) (step := 1) (by omega))
    (fun j => by
      rw [List.mem_range'_1]
      constructor
      · intro hj
        refine ⟨by omega, ?_, by omega⟩
        rw [listedTo_getD (by omega)]; simp; omega
      · rintro ⟨h1, h2, h3⟩
        rw [listedTo_getD h1] at h2
        simp at h2; omega)
    (fun j hj => by rw [List.mem_range'_1] at hj; omega)
    (fun j hj => by
      by_cases hjs : j < ops.size
      · rw [listedTo_getD hjs]; simp; omega
      · simp [listedTo, hjs])
    (listedTo_size _ _) hg h
  rw [List.length_range', show ops.size - stop + (stop - start) = ops.size - start by omega] at this
  exact this


/-- A call that reads alone, but for blocks that nobody sees. -/
structure ACall (C : Kit) (f : Nat) (args : List SV) (hp : List Blk) (K : SV → Prop) : Prop where
  ok : CallOk C.P f
  out : ∀ ρ w vals, DenT ρ args vals → HSat ρ hp w → ∃ v c, Den ρ v c ∧ K v ∧ ∀ x, Grew w x → Calls C.P f vals.toArray x fun e w' => e = .returned c ∧ Grew w w'

/-- Up to the first call that nothing passes, every operation is walked in the first world. -/
def drawG (C : Kit) (H : Handler) (ob : List Nat) (T : Tree) (M : MT) (nt : Nat) (all : List Oper) (ps : List Nat) (n : Nat) : List Oper → Nat → St → (Bool → Ex → St → Prop) → Prop
  | [], k, st, Q => Q false .normal st
  | o :: r, k, st, Q => match isCall o.op && barB ps n k with
    | true => drawS C H ob T M nt all ps n (o :: r) k false st Q
    | false => if dstOk nt o.dst = true then
      wantS all o.guard st.fr fun want fr =>
        if want = true then (match isCall o.op with
          | false => match Nat.ble (clsOp o.op) 2 with
            | true => stepS H T M o.op fr st.hp false fun q v hp => drawG C H ob T M nt all ps n r (k + 1) ⟨putS o.dst v fr, hp⟩ Q
            | false => False
          | true => match o.op with
            | .call c => match evL fr st.hp c.args.toList with
              | some l => calleeS M c.callee fr st.hp l fun f args => ACall C f args st.hp fun v => drawG C H ob T M nt all ps n r (k + 1) ⟨putS o.dst v fr, st.hp⟩ Q
              | none => False
            | _ => False)
        else drawG C H ob T M nt all ps n r (k + 1) ⟨putS o.dst (.raw undef) fr, st.hp⟩ Q
      else False

theorem ok_grew {c : Nat} {ρ : Rho} {w0 : World} {e : SEff} {B : Beh} (h0 : B.ok w0) (h : BOk ρ w0.heap.size e B) (he : (∃ y o n, e = .rd y o n) ∨ e = .pure) : ∃ v, (∀ x u x', B.rel x u x' → u = v ∧ x' = x) ∧ (∀ x, ∃ x', B.rel x v x') ∧ ∀ x, Grew w0 x → B.ok x := by
  rcases he with ⟨y, o, n, rfl⟩ | rfl
  · obtain ⟨b, o0, cs, u, _, _, rfl⟩ := h
    refine ⟨u, fun x u' x' hr => hr, fun x => ⟨x, rfl, rfl⟩, fun x g => ?_⟩
    intro j c hj
    have := h0 j c hj
    have hb : b < w0.heap.size := by
      unfold World.cell? at this
      by_cases hb : b < w0.heap.size
      · exact hb
      · rw [Array.getElem?_eq_none (show w0.heap.size ≤ b by omega)] at this; simp at this
    unfold World.cell? at this ⊢
    rw [g.heap b hb]; exact this
  · obtain ⟨c, rfl⟩ := h
    exact ⟨c, fun x u' x' hr => hr, fun x => ⟨x, rfl, rfl⟩, fun x g => trivial⟩
theorem eff_le2 {T : Tree} {o : Op} {fr : Fr} {hp : List Blk} (hc : isCall o = false) (h : clsOp o ≤ 2) : (∃ y f n, effS T o fr hp = .rd y f n) ∨ effS T o fr hp = .pure := by
  cases o
  case call c =>
    obtain ⟨callee, args, argTypes⟩ := c
    cases callee with
    | builtin b =>
      cases b
      case len => exact .inr rfl
      case cap => exact .inr rfl
      all_goals exact absurd h (show ¬ (3 ≤ 2) by omega)
    | _ => cases hc
  case load t x =>
    unfold effS
    simp only
    split
    · exact .inl ⟨_, _, _, rfl⟩
    · exact .inr rfl
  all_goals first
    | exact .inr rfl
    | exact absurd h (show ¬ (3 ≤ 2) by omega)

def SegQ (C : Kit) (H : Handler) (ob : List Nat) (E : Env) (all : Array Oper) (Q : Bool → Ex → St → Prop) (stop : Nat) (w : World) (a : Act) : Prop :=
  ∃ q st, SSat E q st a w ∧ ((stop = all.size ∧ Q false .normal st) ∨ (stop < all.size ∧ drawS C H ob C.T C.M E.nt all.toList (preds all.toList) all.size (all.toList.drop stop) stop false st Q))

theorem drawG_seg {C : Kit} {H : Handler} {ob : List Nat} {E : Env} {all : Array Oper} {Q : Bool → Ex → St → Prop} {stop : Nat} {w : World} : ∀ (l : List Oper) (k : Nat) (q : Bool) (st : St) (a : Act), l = all.toList.drop k → k ≤ all.size → stopOf all l k = stop →
    SSat E q st a w → drawG C H ob C.T C.M E.nt all.toList (preds all.toList) all.size l k st Q → LexG C.P all w (SegQ C H ob E all Q stop w) (List.range' k (stop - k)) a
  | [], k, q, st, a, hl, hk, hst, hs, h => by
    have : all.size ≤ k := by have := congrArg List.length hl; simp at this; omega
    subst hst
    unfold stopOf
    rw [Nat.sub_self]
    exact ⟨q, st, hs, .inl ⟨by omega, h⟩⟩
  | o :: r, k, q, st, a, hl, hk, hst, hs, h => by
    have hko : all[k]? = some o := by
      have := congrArg (fun l => l[0]?) hl
      simpa using this.symm
    have hlt := (Array.getElem?_eq_some_iff.1 hko).1
    have hr : r = all.toList.drop (k + 1) := by
      have := congrArg List.tail hl
      simpa using this
    unfold stopOf at hst
    unfold drawG at h
    split at hst
    · rename_i hb
      subst hst
      rw [hb] at h
      rw [Nat.sub_self]
      exact ⟨q, st, hs, .inr ⟨hlt, by rw [← hl]; exact h⟩⟩
    · rename_i hb
      have hb' : (isCall o.op && barB (preds all.toList) all.size k) = false := by simpa using hb
      rw [hb'] at h
      simp only at h
      have hks := (stopOf_spec r (k + 1) hr hlt).1
      rw [hst] at hks
      rw [show stop - k = (stop - (k + 1)) + 1 by omega, List.range'_succ]
      have go : ∀ q' st' a', SSat E q' st' a' w → drawG C H ob C.T C.M E.nt all.toList (preds all.toList) all.size r (k + 1) st' Q →
          LexG C.P all w (SegQ C H ob E all Q stop w) (List.range' (k + 1) (stop - (k + 1))) a' :=
        fun q' st' a' h1 h2 => drawG_seg r (k + 1) q' st' a' hr hlt hst h1 h2
      split at h
      · rename_i hd
        obtain ⟨fr, hs', h'⟩ := wantS_sound hs h
        obtain ⟨ρ, h1, h2, h3, h4, h5⟩ := hs'
        split at h'
        · rename_i hw
          split at h'
          · rename_i hc
            split at h'
            · rename_i hcl
              obtain ⟨B, g1, gi, g0, gb, gr⟩ := opS_sound C.hT C.hM h3 h2 o (stepS_op hc h')
              obtain ⟨v, k1, k2, k3⟩ := ok_grew (c := 0) g0 gb (eff_le2 hc (Nat.le_of_ble_eq_true hcl))
              refine ⟨o, v, hko, .inl ⟨hw, fun x hx => ?_⟩, ?_⟩
              · rcases g1 x (k3 x hx) with ⟨u, x', hr, g⟩ | ⟨x', hr, g⟩
                · obtain ⟨rfl, rfl⟩ := k1 _ _ _ hr
                  exact .inl g
                · obtain ⟨e, rfl⟩ := k1 _ _ _ hr
                  exact .inr (.inl ⟨e.symm, g⟩)
              · obtain ⟨w', hr⟩ := k2 w
                obtain ⟨_, rfl⟩ := k1 _ _ _ hr
                obtain ⟨ρ', v', hp', g2, g3, g4, g5, g6, g7⟩ := gr v _ hr
                exact go false ⟨putS o.dst v' fr, hp'⟩ _ ⟨ρ', h1.trans g2, (h2.mono g2).putO hd g3, g4, h4, fun e => by cases e⟩ g7
            · exact h'.elim
          · rename_i hc
            split at h'
            · rename_i c ho
              obtain ⟨f, vals, cs, hdn, hok, hrun⟩ := calleeS_sound (C := C) (E := E) (st := ⟨fr, st.hp⟩) h3 h2 ho h'
              obtain ⟨v, u, k1, k2, k3⟩ := hok.out ρ w cs hdn h3
              exact ⟨o, u, hko, .inl ⟨hw, fun x hx => .inr (.inr ⟨f, _, hrun hok.ok x, k3 x hx⟩)⟩, go q ⟨putS o.dst v fr, st.hp⟩ _ ⟨ρ, h1, h2.putO hd k1, h3, h4, h5⟩ k2⟩
            · exact h'.elim
        · rename_i hw
          exact ⟨o, undef, hko, .inr ⟨by simpa using hw, rfl⟩, go q ⟨putS o.dst (.raw undef) fr, st.hp⟩ _ ⟨ρ, h1, h2.putO hd (.raw rfl), h3, h4, h5⟩ h'⟩
      · exact h.elim

theorem drawG_sound {C : Kit} {H : Handler} (hH : HOk C H) {ob : List Nat} {E : Env} {all : Array Oper} {Q : Bool → Ex → St → Prop} (hchk : drawChk all = true) (q : Bool) (st : St) (a : Act) (w : World) (hs : SSat E q st a w)
    (h : drawG C H ob C.T C.M E.nt all.toList (preds all.toList) all.size all.toList 0 st Q) : wpAny C.P .any all (Lift E Q) (all.size - 0) (listedTo all.size 0) a w := by
  obtain ⟨c1, c2, c3⟩ := drawChk_sound hchk
  have hlow := lowB_sound c2
  obtain ⟨t1, t2, t3, _⟩ := stopOf_spec all.toList 0 (all := all) (by simp) (Nat.zero_le _)
  have t6 := drawG_seg (stop := stopOf all all.toList 0) all.toList 0 q st a (by simp) (Nat.zero_le _) rfl hs h
  generalize stopOf all all.toList 0 = stop at *
  refine wpAny_segG c1 stop hlow t2 0 t1 (fun j i oj oi _ hji _ hj hi => ?_) (fun j i oi hj hjs hi hoi => ?_) (fun a' x hq hg => ?_) (Grew.refl w) t6
  · rcases c3 j i oj oi hji hj hi with h | h
    · exact .inl h
    · exact .inr h.1
  · have hin := (Array.getElem?_eq_some_iff.1 hoi).1
    rcases t3 with t3 | ⟨o, hso, hcall, hbar⟩
    · omega
    · obtain ⟨b1, b2⟩ := barB_sound hbar
      have hsn := (Array.getElem?_eq_some_iff.1 hso).1
      have hb1 := b1 j hjs hsn
      rcases Nat.lt_or_ge stop i with hsi | hsi
      · exact hb1.trans (b2 i hsi hin)
      · have : i = stop := by omega
        subst this; exact hb1
  · obtain ⟨q1, st1, ⟨ρ, h1, h2, h3, h4, h5⟩, h6⟩ := hq
    have hs1 : SSat E false st1 a' x := ⟨ρ, h1, h2, h3.grew hg, h4.trans hg.kept, fun e => by cases e⟩
    rcases h6 with ⟨rfl, h6⟩ | ⟨_, h6⟩
    · exact wpAny_end ⟨false, st1, hs1, h6⟩
    · exact drawS_sound hH hchk (all.size - stop) stop false st1 a' x rfl t2 hs1 h6

theorem Ok.regionG {C : Kit} {H : Handler} (hH : HOk C H) (ob : List Nat) {nt n0 id : Nat} {ops : Array Oper} {rest : Code} {q : Bool} {st : St} {Q : Bool → Ex → St → Prop} (hch : drawChk ops = true)
    (h : drawG C H ob C.T C.M nt ops.toList (preds ops.toList) ops.size ops.toList 0 st fun q e st => match e with
      | .normal => Ok C nt n0 rest q st Q
      | .exit id => Q q (.exit id) st
      | .ret => Q q .ret st) : Ok C nt n0 (.seq (.region id ops true) rest) q st Q := by
  refine ⟨fun E a w h1 h2 hs => ?_⟩
  subst h1; subst h2
  refine wp_seq (wp_mono (wp_draw C.hO (drawG_sound hH (ob := ob) hch q st a _ (hs.drewN 1) h)) ?_)
  intro e a' w' he
  cases e with
  | normal => obtain ⟨q', st', h1, h2⟩ := he; exact h2.out E a' w' rfl rfl h1
  | exit id => exact he
  | ret => exact he
  | goto l => exact he.elim
  | panic c => exact he.elim
  | outgrown => exact he.elim

theorem ACall.of_spec {C : Kit} {f : Nat} {args : List SV} {hp : List Blk} {K : SV → Prop} {q1 : Bool} {v : SV} (hga : ∀ ρ ρ' cs, DenT ρ args cs → DenT ρ' args cs) (hg : (gnd v).isSome = true)
    (h : Spec1 C f args [] q1 v [] []) (hK : K v) : ACall C f args hp K := by
  obtain ⟨c1, hc1⟩ := Option.isSome_iff_exists.1 hg
  refine ⟨(h.out fun _ _ _ => True).ok, fun ρ w vals hd hs => ⟨v, c1, ((gnd_sound ρ) v c1 hc1).1, hK, fun x hx => ?_⟩⟩
  let F : Option (Nat × Nat) → Own → World → Prop := fun _ o y => o = ⟨List.range x.heap.size, []⟩ ∧ ∀ b, b < x.heap.size → y.heap[b]? = x.heap[b]?
  have hF : HSat [none] ([] ++ [.abs F]) x := by
    refine ⟨[⟨List.range x.heap.size, []⟩], rfl, rfl, ?_, ?_, ?_⟩
    · intro y a o k e1 e2 e3
      cases y with
      | zero =>
        simp at e1 e2 e3
        subst e1; subst e2; subst e3
        exact fun w' hw => ⟨rfl, fun b hb => hw b (.inl (by simpa using hb))⟩
      | succ y => simp at e1
    · intro y z oy oz e1 e2 b hb
      cases y with
      | zero =>
        cases z with
        | zero => simp at e2; subst e2; exact ⟨fun _ => rfl, by simp⟩
        | succ z => simp at e2
      | succ y => simp at e1
    · intro y oy e1 b hb
      cases y with
      | zero => simp at e1; subst e1; simpa using hb
      | succ y => simp at e1
  refine ((h.out F).out [none] x vals (hga _ _ _ hd) hF).mono ?_
  rintro e w' ⟨q, ρ', v', c, hp', rfl, k1, k2, ⟨ω, k3⟩, k4, k5, rfl, rfl, rfl⟩
  refine ⟨by rw [((gnd_sound ρ') v' c1 hc1).2 _ _ k2], hx.trans ⟨k4, ?_⟩⟩
  have l1 := k3.lenω
  have l2 := k3.lenh
  simp at l2
  have e1 : ρ'[0]? = some (ρ'[0]'(by omega)) := by simp
  have e2 : ω[0]? = some (ω[0]'(by omega)) := by simp
  have := k3.sat 0 _ _ (.abs F) e1 e2 (by simp)
  exact (this w' (agree.refl _ _)).2

theorem closedL {args : List SV} (hg : (gnd (.tup args)).isSome = true) (ρ ρ' : Rho) (cs : List Value) (h : DenT ρ args cs) : DenT ρ' args cs := by
  obtain ⟨c, hc⟩ := Option.isSome_iff_exists.1 hg
  have e := ((gnd_sound ρ) _ c hc).2 ρ _ (.tup cs rfl h)
  have k := ((gnd_sound ρ') _ c hc).1
  rw [← e] at k
  cases k with
  | tup cs' e' h' =>
    have : cs = cs' := by simpa using e'
    rw [this]; exact h'
theorem ACall.of_q {C : Kit} {f : Nat} {args : List SV} {hp : List Blk} {K : SV → Prop} (v : SV) (hga : (gnd (.tup args)).isSome = true) (hg : (gnd v).isSome = true)
    (h : QCall C f args [] fun u => u = v) (hK : K v) : ACall C f args hp K := by
  obtain ⟨c1, hc1⟩ := Option.isSome_iff_exists.1 hg
  refine ⟨h.ok, fun ρ w vals hd hs => ⟨v, c1, ((gnd_sound ρ) v c1 hc1).1, hK, fun x hx => ?_⟩⟩
  obtain ⟨u, c, k1, rfl, k3⟩ := h.out [] x vals (closedL hga _ _ _ hd) ⟨[], rfl, rfl, fun y a o k e1 => by simp at e1, fun y z oy oz e1 => by simp at e1, fun y oy e1 => by simp at e1⟩
  have e := ((gnd_sound []) _ c1 hc1).2 _ _ k1
  subst e
  refine (k3 x ⟨rfl, rfl, rfl, rfl⟩).mono ?_
  rintro e w' ⟨rfl, n, rfl⟩
  exact ⟨rfl, hx.drewN n⟩
end
end Go.Vex
