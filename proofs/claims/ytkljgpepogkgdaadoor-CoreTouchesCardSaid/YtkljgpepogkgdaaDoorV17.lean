/-
  VEX, part 17: from a walk to a row's contract: the world's old blocks are as they were.
-/
import Derived.Test.YtkljgpepogkgdaaDoorV16
import Derived.Below
import Derived.Carry
import Derived.ChangeSame
import Derived.RowKit
import Derived.OpenShut
import GoSem.ClaimJoined
set_option linter.unusedSimpArgs false
namespace Go.Vex
open Go.RowKit Go.ChangeShapes
set_option linter.unusedVariables false
noncomputable section

/-- What is there at first: resources that own nothing. -/
def InitSat (ρ : Rho) (hp : List Blk) (W : World) : Prop := ∃ ω, HSatO ρ ω hp W ∧ ∀ (x : Nat) (o : Own), ω[x]? = some o → o.own = []

theorem InitSat.nil (W : World) : InitSat [] [] W := by
  refine ⟨[], ⟨rfl, rfl, ?_, ?_, ?_⟩, ?_⟩ <;> (intros; simp_all)
theorem InitSat.push {ρ : Rho} {hp : List Blk} {W : World} (h : InitSat ρ hp W) {r : Option (Nat × Nat)} {k : Blk} {see : List Nat} (hk : BSat (ρ ++ [r]) r ⟨[], see⟩ W k) (hsee : ∀ b ∈ see, b < W.heap.size) : InitSat (ρ ++ [r]) (hp ++ [k]) W := by
  obtain ⟨ω, h, ho⟩ := h
  have own : ∀ (x : Nat) (o : Own), (ω ++ [⟨[], see⟩])[x]? = some o → o.own = [] := by
    intro x o hx
    rcases getElem?_snoc _ _ _ _ hx with ⟨_, hx⟩ | ⟨_, hx⟩
    · exact ho x o hx
    · subst hx; rfl
  refine ⟨ω ++ [⟨[], see⟩], ⟨by simp [h.lenω], by simp [h.lenh], ?_, ?_, ?_⟩, own⟩
  · intro y a o' k' h1 h2 h3
    rcases getElem?_snoc _ _ _ _ h1 with ⟨hy, h1'⟩ | ⟨hy, h1'⟩
    · rcases getElem?_snoc _ _ _ _ h2 with ⟨_, h2'⟩ | ⟨hy2, _⟩
      · rcases getElem?_snoc _ _ _ _ h3 with ⟨_, h3'⟩ | ⟨hy3, _⟩
        · exact (h.sat y a o' k' h1' h2' h3').mono (Ext.push _ _)
        · exact absurd hy3 (by rw [h.lenh]; omega)
      · exact absurd hy2 (by rw [h.lenω]; omega)
    · subst h1'
      rcases getElem?_snoc _ _ _ _ h2 with ⟨hy2, _⟩ | ⟨_, h2'⟩
      · exact absurd hy2 (by rw [h.lenω]; omega)
      · rcases getElem?_snoc _ _ _ _ h3 with ⟨hy3, _⟩ | ⟨_, h3'⟩
        · exact absurd hy3 (by rw [h.lenh]; omega)
        · subst h2'; subst h3'; exact hk
  · intro x y ox oy hx hy b hb
    rw [own x ox hx] at hb; simp at hb
  · intro x ox hx b hb
    rcases getElem?_snoc _ _ _ _ hx with ⟨_, hx'⟩ | ⟨_, hx'⟩
    · exact h.bnd x ox hx' b hb
    · subst hx'
      rcases hb with hb | hb
      · simp at hb
      · exact hsee b hb
/-- The whole old world, looked at. -/
def allA (W : World) (addr : Option (Nat × Nat)) (o : Own) (w' : World) : Prop := o = ⟨[], List.range W.heap.size⟩ ∧ agree ⟨[], List.range W.heap.size⟩ W w'

theorem calls_of_ok {C : Kit} {f : Nat} {svs : List SV} {hp : List Blk} {ρ : Rho} {W : World} {vals : List Value}
    (h : ∀ A, OkCall C f svs (hp ++ [.abs A]) fun q v hp' => LeOut (hp.length + 1) q v hp' false (.b (.lit true)) (hp ++ [.abs A]))
    (hd : DenT ρ svs vals) (hs : InitSat ρ hp W) : Calls C.P f vals.toArray W fun e w' => e = .returned (.bool true) ∧ Below W.heap.size W w' := by
  have hlen : hp.length = ρ.length := let ⟨_, h, _⟩ := hs; h.lenh
  have hs' : InitSat (ρ ++ [none]) (hp ++ [.abs (allA W)]) W := hs.push (see := List.range W.heap.size) (fun w' hw => ⟨rfl, hw⟩) (by simp)
  obtain ⟨ω, hω, _⟩ := hs'
  have h2 := OkCall.out' (K := fun q v hp' => v = .b (.lit true) ∧ hp' = hp ++ [.abs (allA W)]) ⟨(h (allA W)).ok, fun ρ w vals hd hs => ((h (allA W)).out ρ w vals hd hs).mono fun e w' he => by
    obtain ⟨q, ρ', v, c, hp', rfl, k1, k2, k3, k4, k5, k6⟩ := he
    exact ⟨q, ρ', v, c, hp', rfl, k1, k2, k3, k4, k5, false, _, _, by simpa using k6, rfl, rfl⟩⟩
  refine (h2.out (ρ ++ [none]) W vals (hd.mono (Ext.push _ _)) ⟨ω, hω⟩).mono ?_
  rintro e w' ⟨q, ρ', v, c, hp', rfl, k1, k2, ⟨ω', k3⟩, k4, k5, rfl, rfl⟩
  cases k2 with
  | b hb =>
    subst hb
    refine ⟨rfl, k4.os, k4.tape, k4.output, k4.size, ?_⟩
    have hl : ω'.length = hp.length + 1 := by rw [k3.lenω, ← k3.lenh]; simp
    have h1 : ρ'[hp.length]? = some none := k1 _ _ (by rw [hlen]; simp)
    have h3 : ω'[hp.length]? = some (ω'[hp.length]'(by omega)) := by simp
    have := k3.sat hp.length none _ (.abs (allA W)) h1 h3 (by simp) w' (agree.refl _ _)
    intro k hk
    exact this.2 k (.inr (by simpa using hk))
end
end Go.Vex
namespace Go.Vex
open Go.RowKit Go.ChangeShapes
set_option linter.unusedVariables false
noncomputable section

def InK (k : IntKind) (n : Int) : Prop := (Lit.int k n).wf = true
/-- For every value of such a type: its cells, and the resources that it brings (from number x on). -/
def opnFs (T : Tree) (f : Nat → Nat → (List SV → List Blk → Prop) → Prop) (tot : Nat) : List (Nat × Nat) → Nat → Nat → (List SV → List Blk → Prop) → Prop
  | [], acc, x, K => if acc = tot then K [] [] else False
  | (off, t) :: r, acc, x, K => match T.find t with
    | none => False
    | some ti => if off = acc then (if acc + ti.size ≤ tot then f t x fun s h => opnFs T f tot r (acc + ti.size) (x + h.length) fun s' h' => K (s ++ s') (h ++ h') else False) else False
def opn (T : Tree) : Nat → Nat → Nat → (List SV → List Blk → Prop) → Prop
  | 0, _, _, _ => False
  | n + 1, t, x, K => match T.find t with
    | none => False
    | some ti => match ti.kind with
      | .int k => ∀ a : Int, InK k a → K [.i k (.ex a)] []
      | .bool => ∀ b : Bool, K [.b (.ex b)] []
      | .slice e => match T.find e with
        | none => False
        | some te => match te.kind with
          | .int k => if te.size = 1 then (∀ (m c : Nat) (zs : List Int), zs.length = m → m ≤ c → c ≤ maxLen → m * te.bytes ≤ reachBytes → (∀ z ∈ zs, InK k z) → K [.slc x 0 1 (.lit 0) (.ex m) (.ex c)] [.ro [.ints k (.ex m) zs]]) else False
          | _ => False
      | .array m e => match T.find e with
        | none => False
        | some te => match te.kind with
          | .int k => if te.size = 1 then (if ti.size = m then (∀ zs : List Int, zs.length = m → (∀ z ∈ zs, InK k z) → K [.ints k (.lit m) zs] []) else False) else False
          | _ => False
      | .struct fs => opnFs T (opn T n) ti.size fs 0 x K
      | _ => False

section
variable {H : Type} {enc : TypeId × Value → H} {C : Kit} {W : World} {base : Nat}

def OpnAt (enc : TypeId × Value → H) (C : Kit) (W : World) (base : Nat) (f : Nat → Nat → (List SV → List Blk → Prop) → Prop) : Prop :=
  ∀ (t x : Nat) (K : List SV → List Blk → Prop) (m : Nat) (cs : List Value) (d : DataW H × List MemPlace), f t x K → DataW.trod enc C.P W 0 (fun _ => true) true m t cs = some d →
    (∀ v ∈ cs, ∃ u, Cell.okWide C.P W .any base u v) → (∀ n ∈ d.1.weights C.P t, n ≤ reachBytes) → ∀ (ρ : Rho) (hp : List Blk), InitSat ρ hp W → hp.length = x →
    ∃ ρ1 svs hp1, InitSat (ρ ++ ρ1) (hp ++ hp1) W ∧ DenL (ρ ++ ρ1) svs cs ∧ K svs hp1

theorem cellsOf_eq {P : Program} {t : Nat} {i : TypeInfo} (h : P.info? t = some i) : P.cellsOf t = i.size := by simp [Program.cellsOf, h]
theorem bytesOf_eq {P : Program} {t : Nat} {i : TypeInfo} (h : P.info? t = some i) : P.bytesOf t = i.bytes := by simp [Program.bytesOf, h]

theorem ext_app (ρ ρ' : Rho) : Ext ρ (ρ ++ ρ') := fun x r h => by
  rw [List.getElem?_append_left (List.getElem?_eq_some_iff.1 h).1]; exact h

theorem opn_fields {f : Nat → Nat → (List SV → List Blk → Prop) → Prop} (hf : OpnAt enc C W base f) (m : Nat) (cs : List Value) (hok : ∀ v ∈ cs, ∃ u, Cell.okWide C.P W .any base u v) :
    ∀ (fs : List (Nat × Nat)) (Fs : List Field) (xs : List (DataW H × List MemPlace)) (acc x : Nat) (K : List SV → List Blk → Prop), opnFs C.T f cs.length fs acc x K →
      Fs.map (fun F => (F.offset, F.type)) = fs → xs.length = Fs.length → (∀ (i : Nat) (F : Field), Fs[i]? = some F → DataW.trod enc C.P W 0 (fun _ => true) true m F.type ((cs.drop F.offset).take (C.P.cellsOf F.type)) = xs[i]?) →
      (∀ n ∈ DataW.weightsEach C.P (Fs.map (·.type)) (xs.map (·.1)), n ≤ reachBytes) → acc ≤ cs.length →
      ∀ (ρ : Rho) (hp : List Blk), InitSat ρ hp W → hp.length = x → ∃ ρ1 svs hp1, InitSat (ρ ++ ρ1) (hp ++ hp1) W ∧ DenL (ρ ++ ρ1) svs (cs.drop acc) ∧ K svs hp1
  | [], Fs, xs, acc, x, K, h, hF, hx, hr, hw, hacc, ρ, hp, hs, hl => by
    unfold opnFs at h
    split at h
    · rename_i e
      refine ⟨[], [], [], by simpa using hs, ?_, h⟩
      rw [List.drop_of_length_le (by omega)]; exact .nil rfl
    · exact h.elim
  | (off, t) :: r, Fs, xs, acc, x, K, h, hF, hx, hr, hw, hacc, ρ, hp, hs, hl => by
    unfold opnFs at h
    split at h
    · exact h.elim
    · rename_i ti hti
      split at h
      · rename_i eo
        subst eo
        split at h
        rotate_left
        · exact h.elim
        rename_i hlen
        cases Fs with
        | nil => simp at hF
        | cons F Fs =>
          cases xs with
          | nil => simp at hx
          | cons y xs =>
            simp only [List.map_cons, List.cons.injEq, Prod.mk.injEq] at hF
            obtain ⟨⟨e1, e2⟩, hF⟩ := hF
            obtain ⟨i, dd, z, i1, i2, i3, _⟩ := C.hT t ti hti
            have hsz : C.P.cellsOf F.type = ti.size := by rw [e2, cellsOf_eq i1, i3]
            have h0 := hr 0 F rfl
            simp only [List.getElem?_cons_zero] at h0
            rw [e1, hsz] at h0
            have hmem : ∀ v ∈ (cs.drop off).take ti.size, v ∈ cs := fun v hv => List.mem_of_mem_drop (List.mem_of_mem_take hv)
            simp only [List.map_cons, DataW.weightsEach, List.mem_append] at hw
            rw [e2] at h0 hw
            obtain ⟨ρ1, s1, hp1, k1, k2, k3⟩ := hf t x _ m _ y h h0 (fun v hv => hok v (hmem v hv)) (fun n hn => hw n (.inl hn)) ρ hp hs hl
            obtain ⟨ρ2, s2, hp2, j1, j2, j3⟩ := opn_fields hf m cs hok r Fs xs (off + ti.size) (x + hp1.length) _ k3 hF (by simpa using hx) (fun i F hi => by have := hr (i + 1) F (by simpa using hi); simpa using this) (fun n hn => hw n (.inr hn)) hlen (ρ ++ ρ1) (hp ++ hp1) k1 (by simp [hl])
            refine ⟨ρ1 ++ ρ2, s1 ++ s2, hp1 ++ hp2, by rw [← List.append_assoc, ← List.append_assoc]; exact j1, ?_, j3⟩
            rw [← List.append_assoc]
            have e3 : cs.drop off = (cs.drop off).take ti.size ++ cs.drop (off + ti.size) := by rw [← List.drop_drop, List.take_append_drop]
            rw [e3]
            exact (k2.mono (ext_app _ _)).append j2
      · exact h.elim

theorem slice_ok {u : TypeId} {b : Addr} {len cap : Nat} (h : Cell.okWide C.P W .any base u (.slice (some b) len cap)) : b.spot = none ∧ b.block < W.heap.size := by
  have key : ∀ e n, World.has C.P W .any base b e n → b.spot = none ∧ b.block < W.heap.size := by
    rintro e n ⟨_, h1, row, cells, h2, _⟩
    refine ⟨h1, ?_⟩
    unfold World.shape? at h2
    split at h2
    · rename_i hh; exact (Array.getElem?_eq_some_iff.1 hh).1
    · cases h2
  unfold Cell.okWide at h
  split at h <;> try (rename_i e; cases e; done)
  unfold Cell.ok at h
  split at h <;> first | exact h.elim | (rename_i e; cases e; done) | skip
  rename_i e1
  cases e1
  exact key _ _ h.2.2

theorem opn_sound : ∀ n, OpnAt enc C W base (opn C.T n)
  | 0 => fun t x K m cs d h => h.elim
  | n + 1 => by
    intro t x K m cs d h hd hok hw ρ hp hs hl
    unfold opn at h
    split at h
    · exact h.elim
    · rename_i ti hti
      obtain ⟨i, dd, z, i1, i2, i3, i4, i5, i6, i7, _⟩ := C.hT t ti hti
      split at h
      · rename_i k hk
        rw [hk] at i7; simp only [kindOk] at i7; subst i7
        obtain ⟨a, rfl, _, hwf⟩ := DataW.trod_int i2 hd
        exact ⟨[], _, [], by simpa using hs, .cons [_] [] rfl (.one _ rfl rfl (.i rfl)) (.nil rfl), h a hwf⟩
      · rename_i hk
        rw [hk] at i7; simp only [kindOk] at i7; subst i7
        obtain ⟨b, rfl, _⟩ := DataW.trod_bool i2 hd
        exact ⟨[], _, [], by simpa using hs, .cons [_] [] rfl (.one _ rfl rfl (.b rfl)) (.nil rfl), h b⟩
      · rename_i e hk
        rw [hk] at i7; simp only [kindOk] at i7; subst i7
        split at h
        · exact h.elim
        · rename_i te hte
          obtain ⟨ie, de, ze, j1, j2, j3, j4, j5, j6, j7, _⟩ := C.hT e te hte
          split at h
          · rename_i k hke
            rw [hke] at j7; simp only [kindOk] at j7; subst j7
            split at h
            · rename_i hsz
              have hc : C.P.cellsOf e = 1 := by rw [cellsOf_eq j1, j3, hsz]
              rcases open_ints i2 j2 hc hd with ⟨rfl, rfl⟩ | ⟨a, len, cap, zs, rfl, _, hle, hmax, hlen, rfl, hcell, hwf⟩
              · refine ⟨[none], _, [_], ?_, .cons [_] [] rfl (.one _ rfl rfl (.slc none (by rw [← hl]; obtain ⟨ω, hω, _⟩ := hs; rw [hω.lenh]; simp) (fun _ => ⟨rfl, rfl⟩) (by simp))) (.nil rfl), h 0 0 [] rfl (Nat.le_refl _) (Nat.zero_le _) (by simp) (by simp)⟩
                exact hs.push (see := []) ⟨[], .cons [] [] rfl (.ints rfl rfl) (.nil rfl), .inl ⟨rfl, rfl⟩⟩ (by simp)
              · simp only [if_true] at hlen
                obtain ⟨u, hu⟩ := hok (.slice (some a) len cap) (by simp)
                obtain ⟨hspot, hblk⟩ := slice_ok hu
                obtain ⟨b, off, spot⟩ := a
                simp only at hspot hblk
                subst hspot
                have hlz : (zs.take len).length = len := by simp; omega
                refine ⟨[some (b, off)], _, [_], ?_, .cons [_] [] rfl (.one _ rfl rfl (.slc (some (b, off)) (by rw [← hl]; obtain ⟨ω, hω, _⟩ := hs; rw [hω.lenh]; simp) (by simp) (by simp))) (.nil rfl), h len cap (zs.take len) hlz hle hmax ?_ (fun z hz => hwf z (List.mem_of_mem_take hz))⟩
                · refine hs.push (see := [b]) ⟨(zs.take len).map (Value.int k), .cons _ [] (by simp) (.ints hlz rfl) (.nil rfl), .inr ⟨b, off, rfl, rfl, ?_⟩⟩ (by simpa using hblk)
                  rcases Nat.eq_zero_or_pos len with h0 | hpos
                  · subst h0; exact .inl (by simp)
                  · have hc0 := hcell 0 (by omega)
                    rw [addr_add] at hc0
                    have : ∃ arr T fz, W.heap[b]? = some (.cells arr T fz) := by
                      unfold World.cell? at hc0
                      simp only at hc0
                      split at hc0
                      · rename_i arr T fz hh; exact ⟨arr, T, fz, hh⟩
                      · cases hc0
                    obtain ⟨arr, T, fz, hh⟩ := this
                    refine .inr ⟨arr, T, fz, hh, fun j c hj => ?_⟩
                    rw [List.getElem?_map] at hj
                    rcases Nat.lt_or_ge j len with hjl | hjl
                    · have hcj := hcell j (by omega)
                      rw [addr_add, cell_of hh] at hcj
                      rw [hcj, ← hj, List.getElem?_take_of_lt hjl, List.getElem?_eq_getElem (by omega)]
                      simp [List.getD_eq_getElem?_getD, List.getElem?_eq_getElem (show j < zs.length by omega)]
                    · rw [List.getElem?_eq_none (by simp; omega)] at hj; cases hj
                · have hw0 := hw ((( (lits k (zs.take len)) : List (DataW H)).length + ((lits k (zs.drop len)) : List (DataW H)).length) * C.P.bytesOf e) (by simp [DataW.weights, i2])
                  rw [bytesOf_eq j1, j4] at hw0
                  refine Nat.le_trans (Nat.mul_le_mul_right _ ?_) hw0
                  simp [lits]; omega
            · exact h.elim
          · exact h.elim
      · rename_i mm e hk
        rw [hk] at i7; simp only [kindOk] at i7; subst i7
        split at h
        · exact h.elim
        · rename_i te hte
          obtain ⟨ie, de, ze, j1, j2, j3, j4, j5, j6, j7, _⟩ := C.hT e te hte
          split at h
          · rename_i k hke
            rw [hke] at j7; simp only [kindOk] at j7; subst j7
            split at h
            · rename_i hsz
              split at h
              rotate_left
              · exact h.elim
              rename_i htot
              have hc : C.P.cellsOf e = 1 := by rw [cellsOf_eq j1, j3, hsz]
              obtain ⟨xs, m', rfl, rfl, hcl, hxl, hx⟩ := DataW.trod_array i2 hd
              have each : ∀ j, j < mm → ∃ a, cs[j]? = some (.int k a) ∧ InK k a := by
                intro j hj
                have h1 := hx j hj
                rw [hc, Nat.mul_one] at h1
                obtain ⟨y, hy⟩ : ∃ y, xs[j]? = some y := ⟨xs[j]'(by omega), by simp⟩
                rw [hy] at h1
                obtain ⟨a, e1, _, e2⟩ := DataW.trod_int j2 h1
                refine ⟨a, ?_, e2⟩
                have := congrArg (fun l => l[0]?) e1
                simpa using this
              have hlen : cs.length = mm := by rw [hcl, cellsOf_eq i1, i3, htot]
              have hcs : cs = (cs.map intOf).map (Value.int k) := by
                apply List.ext_getElem?
                intro j
                rcases Nat.lt_or_ge j mm with hj | hj
                · obtain ⟨a, ha, _⟩ := each j hj
                  simp [ha, intOf]
                · rw [List.getElem?_eq_none (by omega), List.getElem?_eq_none (by simp; omega)]
              refine ⟨[], _, [], by simpa using hs, ?_, h (cs.map intOf) (by simp [hlen]) ?_⟩
              · refine .cons _ [] (List.append_nil _).symm (.ints (by simp [hlen]) hcs) (.nil rfl)
              · intro z hz
                rw [List.mem_map] at hz
                obtain ⟨v, hv, rfl⟩ := hz
                obtain ⟨j, hj⟩ := List.getElem?_of_mem hv
                obtain ⟨a, ha, hwf⟩ := each j (by have := (List.getElem?_eq_some_iff.1 hj).1; omega)
                rw [hj] at ha; cases ha; exact hwf
            · exact h.elim
          · exact h.elim
      · rename_i fs hk
        rw [hk] at i7; simp only [kindOk] at i7
        obtain ⟨arr, rfl, g1, g2⟩ := i7
        obtain ⟨xs, m', rfl, rfl, hcl, hxl, hx⟩ := DataW.trod_struct i2 hd
        have hsz : cs.length = ti.size := by rw [hcl, cellsOf_eq i1, i3]
        rw [← hsz] at h
        have hmap : arr.toList.map (fun F => (F.offset, F.type)) = fs := by
          apply List.ext_getElem?
          intro j
          rw [List.getElem?_map]
          cases hj : fs[j]? with
          | none =>
            rw [List.getElem?_eq_none (by have := List.getElem?_eq_none_iff.1 hj; simp; omega)]; rfl
          | some p =>
            obtain ⟨F, e1, e2, e3⟩ := g2 j p.1 p.2 hj
            rw [Array.getElem?_toList, e1]
            simp [e2, e3]
        obtain ⟨ρ1, svs, hp1, k1, k2, k3⟩ := opn_fields (opn_sound n) m' cs hok fs arr.toList xs 0 x K h hmap (by simpa using hxl) (fun i F hi => hx i F (by rw [← Array.getElem?_toList]; exact hi)) (by simpa [DataW.weights, i2] using hw) (Nat.zero_le _) ρ hp hs hl
        exact ⟨ρ1, svs, hp1, k1, by simpa using k2, k3⟩
      · exact h.elim
end
end
end Go.Vex
namespace Go.Vex
open Go.RowKit Go.ChangeShapes
set_option linter.unusedVariables false
noncomputable section

def argV (agg : Bool) (s : List SV) (K : SV → Prop) : Prop :=
  match agg with
  | true => K (.agg s)
  | false => match s with
    | [v] => match single v with
      | true => K v
      | false => False
    | _ => False
def opnArgs (T : Tree) (n : Nat) : List Nat → Nat → (List SV → List Blk → Prop) → Prop
  | [], x, K => K [] []
  | t :: r, x, K => match T.find t with
    | none => False
    | some ti => opn T n t x fun s h => argV (isAggK ti.kind) s fun v => opnArgs T n r (x + h.length) fun s' h' => K (v :: s') (h ++ h')

section
variable {H : Type} {enc : TypeId × Value → H} {C : Kit} {W : World} {base : Nat}

theorem opnArgs_sound (n : Nat) : ∀ (ts : List Nat) (x : Nat) (K : List SV → List Blk → Prop) (vals : List Value) (ds : List (DataW H)) (ps : List MemPlace), opnArgs C.T n ts x K →
    DataW.TrodAll enc C.P W 0 (fun _ => true) true ts vals ds ps → (∀ (j : Nat) t v, ts[j]? = some t → vals[j]? = some v → Value.okWide C.P W .any base t v) →
    (∀ k ∈ DataW.weightsEach C.P ts ds, k ≤ reachBytes) → ∀ (ρ : Rho) (hp : List Blk), InitSat ρ hp W → hp.length = x →
    ∃ ρ1 svs hp1, InitSat (ρ ++ ρ1) (hp ++ hp1) W ∧ DenT (ρ ++ ρ1) svs vals ∧ K svs hp1
  | [], x, K, vals, ds, ps, h, hd, hok, hw, ρ, hp, hs, hl => by
    cases vals with
    | nil => exact ⟨[], [], [], by simpa using hs, .nil rfl, h⟩
    | cons v vs => simp [DataW.TrodAll] at hd
  | t :: ts, x, K, vals, ds, ps, h, hd, hok, hw, ρ, hp, hs, hl => by
    cases vals with
    | nil => simp [DataW.TrodAll] at hd
    | cons v vs =>
      cases ds with
      | nil => simp [DataW.TrodAll] at hd
      | cons d ds =>
        obtain ⟨p, q, ⟨m, h1⟩, h2, rfl⟩ := hd
        unfold opnArgs at h
        split at h
        · exact h.elim
        · rename_i ti hti
          obtain ⟨i, dd, z, i1, i2, i3, i4, i5, i6, i7, _⟩ := C.hT t ti hti
          have hv := hok 0 t v rfl rfl
          simp only [DataW.weightsEach, List.mem_append] at hw
          have rest : ∀ {ρ1 : Rho} {hp1 : List Blk} {K' : List SV → List Blk → Prop}, InitSat (ρ ++ ρ1) (hp ++ hp1) W → opnArgs C.T n ts (x + hp1.length) K' →
              ∃ ρ2 svs hp2, InitSat (ρ ++ ρ1 ++ ρ2) (hp ++ hp1 ++ hp2) W ∧ DenT (ρ ++ ρ1 ++ ρ2) svs vs ∧ K' svs hp2 := fun hs1 h' =>
            opnArgs_sound n ts _ _ vs ds q h' h2 (fun j t v e1 e2 => hok (j + 1) t v (by simpa using e1) (by simpa using e2)) (fun k hk => hw k (.inr hk)) _ _ hs1 (by simp [hl])
          by_cases hagg : isAggK ti.kind = true
          · have ha : ∃ cs, v = .agg cs ∧ ∀ u ∈ cs.toList, ∃ w, Cell.okWide C.P W .any base w u := by
              have hrow : ∃ cs, v = .agg cs ∧ cs.size = C.P.cellsOf t ∧ Row.okWide C.P W .any base t cs := by
                unfold Value.okWide at hv
                cases hk : ti.kind <;> rw [hk] at hagg i7 <;> simp only [isAggK, Bool.false_eq_true] at hagg <;> simp only [kindOk] at i7
                · subst i7; rw [i2] at hv; exact hv
                · obtain ⟨arr, rfl, _⟩ := i7; rw [i2] at hv; exact hv
              obtain ⟨cs, rfl, _, ts', _, _, hrow⟩ := hrow
              refine ⟨cs, rfl, fun u hu => ?_⟩
              obtain ⟨j, hj⟩ := List.getElem?_of_mem hu
              obtain ⟨w, _, hw⟩ := hrow j u (by simpa using hj)
              exact ⟨w, hw⟩
            obtain ⟨cs, rfl, hcs⟩ := ha
            obtain ⟨ρ1, s1, hp1, k1, k2, k3⟩ := opn_sound (base := base) n t x _ m _ (d, p) h h1 (by simpa [Value.cells] using hcs) (fun k hk => hw k (.inl hk)) ρ hp hs hl
            rw [hagg] at k3
            obtain ⟨ρ2, s2, hp2, j1, j2, j3⟩ := rest k1 k3
            refine ⟨ρ1 ++ ρ2, _, hp1 ++ hp2, by rw [← List.append_assoc, ← List.append_assoc]; exact j1, ?_, j3⟩
            rw [← List.append_assoc]
            exact .cons _ _ rfl (.agg cs.toList (by simp) (by simpa [Value.cells] using k2.mono (ext_app _ _))) j2
          · have hagg' : isAggK ti.kind = false := by simpa using hagg
            have hcell : Cell.okWide C.P W .any base t v := by
              unfold Value.okWide at hv
              rw [i2] at hv
              cases hk : ti.kind <;> rw [hk] at hagg' i7 <;> simp only [isAggK, Bool.true_eq_false] at hagg' <;> simp only [kindOk] at i7
              case iface => obtain ⟨ms, rfl⟩ := i7; exact hv
              case func => obtain ⟨_, _, _, rfl⟩ := i7; exact hv
              case other =>
                cases dd <;> first | exact hv | exact absurd rfl (i7.1 _) | exact absurd rfl (i7.2 _ _)
              all_goals (subst i7; exact hv)
            have hone : v.cells = #[v] := by
              cases v <;> first | rfl | skip
              all_goals
                exfalso
                unfold Cell.okWide at hcell
                split at hcell <;> try (rename_i e; cases e; done)
                unfold Cell.ok at hcell
                split at hcell <;> first | exact hcell.elim | (rename_i e; cases e; done)
            obtain ⟨ρ1, s1, hp1, k1, k2, k3⟩ := opn_sound (base := base) n t x _ m _ (d, p) h h1 (by rw [hone]; intro u hu; simp at hu; subst hu; exact ⟨t, hcell⟩) (fun k hk => hw k (.inl hk)) ρ hp hs hl
            rw [hagg'] at k3
            unfold argV at k3
            simp only at k3
            split at k3
            · rename_i sv
              split at k3
              · rename_i hsing
                obtain ⟨ρ2, s2, hp2, j1, j2, j3⟩ := rest k1 k3
                refine ⟨ρ1 ++ ρ2, _, hp1 ++ hp2, by rw [← List.append_assoc, ← List.append_assoc]; exact j1, ?_, j3⟩
                rw [← List.append_assoc]
                rw [hone] at k2
                obtain ⟨c1, c2, e, g1, g2⟩ := k2.of_cons
                obtain ⟨c, rfl, _, g3⟩ := g1.single hsing
                have e0 : v = c := by rw [g2.of_nil] at e; simpa using e
                subst e0
                exact .cons _ _ rfl (g3.mono (ext_app _ _)) j2
              · exact k3.elim
            · exact k3.elim

/-- The arguments read as they did. -/
theorem trodAll_still (hl : laidOutB C.P = true) {W' : World} (hb : Below W.heap.size W W') {sp : Nat → Bool} : ∀ (ts : List Nat) (vals : List Value) (ds : List (DataW H)) (ps : List MemPlace),
    (∀ t ∈ ts, C.P.readableRec t = true ∧ t < C.P.types.size) → DataW.TrodAll enc C.P W 0 (fun _ => true) true ts vals ds ps → (∀ p ∈ ps, p.block < W.heap.size) → (∀ p ∈ ps, sp p.block = true) →
    DataW.TrodAll enc C.P W' 0 sp true ts vals ds ps
  | [], [], [], ps, _, h, _, _ => h
  | t :: ts, v :: vs, d :: ds, ps, hr, ⟨p, q, h1, h2, e⟩, hlt, hs => by
    subst e
    exact ⟨p, q, WideElems.Trod_stays hl (hr t (by simp)).1 (hr t (by simp)).2 h1 (fun x hx => hb.same (hlt x (by simp [hx]))) (fun x hx => hs x (by simp [hx])),
      trodAll_still hl hb ts vs ds q (fun t ht => hr t (by simp [ht])) h2 (fun x hx => hlt x (by simp [hx])) (fun x hx => hs x (by simp [hx])), rfl⟩
  | [], [], _ :: _, _, _, h, _, _ => by simp [DataW.TrodAll] at h
  | [], _ :: _, _, _, _, h, _, _ => by simp [DataW.TrodAll] at h
  | _ :: _, [], _, _, _, h, _, _ => by simp [DataW.TrodAll] at h
  | _ :: _, _ :: _, [], _, _, h, _, _ => by simp [DataW.TrodAll] at h

/-- What is asked of a law's answer, where it answered true and turned nothing that was there. -/
theorem post_still {f : Func} {s : ChangeSpec} {apart fresh handsOn again : Bool} {W' : World} {args : Array Value} {ds gs : List (DataW H)} {before : List MemPlace} {tb : Nat}
    (hl : laidOutB C.P = true) (hr : ∀ t ∈ f.params.toList, C.P.readableRec t = true ∧ t < C.P.types.size) (hrt : f.resultTypes = #[tb]) (htb : C.P.underlying tb = some .bool) (hv : s.vars = [])
    (hs : (s.fn H (ds ++ gs)).results = [.lit (.bool true)] ∧ (s.fn H (ds ++ gs)).args = ds ∧ (s.fn H (ds ++ gs)).vars = [])
    (hW : DataW.Whole enc C.P f.params.toList s.vars apart W args.toList ds gs before) (hb : Below W.heap.size W W') : s.post enc C.P f apart fresh handsOn again W args (.bool true) W' := by
  have hW0 := hW
  obtain ⟨p, q, hA, hV, rfl, hz, hn⟩ := hW
  rw [hv] at hV
  obtain ⟨rfl, rfl⟩ := trodVars_none hV
  have hlt : ∀ x ∈ p, x.block < W.heap.size := fun x hx => by simpa using hW0.lt x (by simp [hx])
  have hargs : ∀ sp : Nat → Bool, (∀ x ∈ p, sp x.block = true) → DataW.TrodAll enc C.P W' 0 sp true f.params.toList args.toList (s.fn H (ds ++ [])).args p := by
    intro sp hsp
    rw [hs.2.1]
    exact trodAll_still hl hb _ _ _ _ hr hA hlt hsp
  have hres : ∀ (b : Nat) (sp : Nat → Bool) (hd : Bool), DataW.TrodAll enc C.P W' b sp hd f.resultTypes.toList ((Value.bool true).resultList f.resultTypes.size) (s.fn H (ds ++ [])).results [] := by
    intro b sp hd
    rw [hs.1, hrt]
    exact trodAll_cons_mk (shut_bool htb true) trodAll_mk0
  have hvars : ∀ sp : Nat → Bool, DataW.TrodVars enc C.P W' sp s.vars (s.fn H (ds ++ [])).vars [] := by
    intro sp
    rw [hv, hs.2.2]; rfl
  refine ⟨ds, [], p ++ [], [], p, [], hW0, hres _ _ _, hargs _ fun x hx => by simpa using hlt x hx, hvars _, World.keptBut_mono (fun x hx => ⟨hx, ?_⟩) (hb.frame (· ∈ p ++ [])), fun _ => ?_⟩
  · exact Or.inr (by simpa using hx)
  · refine ⟨ok_one hrt rfl (okWide_bool_mk htb true), _, _, ([] ++ p) ++ [], ⟨[] ++ p, [], trodAll_append (hargs _ (fun _ _ => rfl)) (hres _ _ _), hvars _, rfl, ?_, ?_⟩, ?_⟩
    · intro b off hp
      have hbl : b < W.heap.size := hlt (.cell b off) (by simpa using hp)
      rw [hb.frozen (p := ⟨b, off, none⟩) hbl]
      exact hz b off (by simpa using hp)
    · intro ha
      have := hn ha
      simpa using this
    · intro x hx _
      simpa using hx
end
end
end Go.Vex
namespace Go.Vex
open Go.RowKit Go.ChangeShapes
set_option linter.unusedVariables false
noncomputable section

def litCs {H : Type} (f : DataW H → Option (List Value)) : List (DataW H) → Option (List Value)
  | [] => some []
  | d :: r => match f d with
    | some l => match litCs f r with
      | some m => some (l ++ m)
      | none => none
    | none => none
/-- The cells that read so. -/
def litC {H : Type} : Nat → DataW H → Option (List Value)
  | 0, _ => none
  | n + 1, d => match d with
    | .lit (.int k z) => some [.int k z]
    | .lit (.bool b) => some [.bool b]
    | .agg ds => litCs (litC n) ds
    | _ => none

section
variable {H : Type} {enc : TypeId × Value → H} {P : Program} {W : World} {base : Nat} {sp : Nat → Bool} {held : Bool}

def LitAt (enc : TypeId × Value → H) (P : Program) (W : World) (base : Nat) (sp : Nat → Bool) (held : Bool) (n : Nat) : Prop :=
  ∀ (t : TypeId) (ks : List FK) (m : Nat) (cs l : List Value) (d : DataW H × List MemPlace), flatP P n t = some ks → DataW.trod enc P W base sp held m t cs = some d → litC n d.1 = some l → cs = l

theorem lit_fields {n m : Nat} (IH : LitAt enc P W base sp held n) (cs : List Value) : ∀ (fs : List Field) (xs : List (DataW H × List MemPlace)) (acc : Nat) (ks : List FK) (l : List Value), flatFs (flatP P n) fs acc = some ks → xs.length = fs.length →
    (∀ (i : Nat) (f : Field), fs[i]? = some f → DataW.trod enc P W base sp held m f.type ((cs.drop f.offset).take (P.cellsOf f.type)) = xs[i]?) → litCs (litC n) (xs.map (·.1)) = some l → cs.length = acc + ks.length → cs.drop acc = l
  | [], xs, acc, ks, l, hf, hx, hr, hl, hlen => by
    simp only [flatFs, Option.some.injEq] at hf
    subst hf
    cases xs with
    | nil => simp only [List.map_nil, litCs, Option.some.injEq] at hl; subst hl; simp at hlen; rw [List.drop_of_length_le (by omega)]
    | cons y r => simp at hx
  | f :: r, [], acc, ks, l, hf, hx, hr, hl, hlen => by simp at hx
  | f :: r, y :: xs, acc, ks, l, hf, hx, hr, hl, hlen => by
    unfold flatFs at hf
    split at hf
    · cases hf
    · split at hf
      · rename_i ho
        split at hf
        · rename_i k1 hk1
          split at hf
          · rename_i k2 hk2
            cases hf
            simp only [List.map_cons, litCs] at hl
            split at hl
            · rename_i l1 hl1
              split at hl
              · rename_i l2 hl2
                cases hl
                obtain ⟨i, d, i1, i2, i3, _⟩ := flatP_info hk1
                have h0 := hr 0 f rfl
                simp only [List.getElem?_cons_zero] at h0
                rw [ho, cellsOf_eq i1, i3] at h0
                have e1 := IH f.type k1 m _ l1 y hk1 h0 hl1
                simp only [List.length_append] at hlen
                have e2 := lit_fields IH cs r xs (acc + k1.length) k2 l2 hk2 (by simpa using hx) (fun i F hi => by have := hr (i + 1) F (by simpa using hi); simpa using this) hl2 (by omega)
                rw [← e1, ← e2, ← List.drop_drop, List.take_append_drop]
              · cases hl
            · cases hl
          · cases hf
        · cases hf
      · cases hf

theorem lit_items {n m e : Nat} {k1 : List FK} (IH : LitAt enc P W base sp held n) (hk : flatP P n e = some k1) (cs : List Value) : ∀ (k j : Nat) (xs : List (DataW H × List MemPlace)) (l : List Value), xs.length = k →
    (∀ i, i < k → DataW.trod enc P W base sp held m e ((cs.drop ((j + i) * k1.length)).take k1.length) = xs[i]?) → litCs (litC n) (xs.map (·.1)) = some l → cs.length = (j + k) * k1.length → cs.drop (j * k1.length) = l
  | 0, j, xs, l, hx, hr, hl, hlen => by
    have : xs = [] := List.length_eq_zero_iff.1 hx
    subst this
    simp only [List.map_nil, litCs, Option.some.injEq] at hl
    subst hl
    rw [List.drop_of_length_le (by simp at hlen; omega)]
  | k + 1, j, [], l, hx, hr, hl, hlen => by simp at hx
  | k + 1, j, y :: xs, l, hx, hr, hl, hlen => by
    simp only [List.map_cons, litCs] at hl
    split at hl
    · rename_i l1 hl1
      split at hl
      · rename_i l2 hl2
        cases hl
        have h0 := hr 0 (by omega)
        simp only [List.getElem?_cons_zero, Nat.add_zero] at h0
        have e1 := IH e k1 m _ l1 y hk h0 hl1
        have e2 := lit_items IH hk cs k (j + 1) xs l2 (by simpa using hx) (fun i hi => by have := hr (i + 1) (by omega); simpa [Nat.add_assoc, Nat.add_comm 1] using this) hl2 (by rw [hlen]; congr 1; omega)
        rw [← e1, ← e2, Nat.succ_mul, ← List.drop_drop, List.take_append_drop]
      · cases hl
    · cases hl

theorem LitAt.all : ∀ n, LitAt enc P W base sp held n := by
  intro n
  induction n with
  | zero => intro t ks m cs l d h; simp [flatP] at h
  | succ n ih =>
    intro t ks m cs l d h hd hl
    unfold flatP at h
    split at h
    · cases h
    · rename_i i hi
      split at h
      · rename_i k hk
        split at h
        · rename_i hs
          cases h
          split at hk
          · rename_i hu
            obtain ⟨b, rfl, rfl⟩ := DataW.trod_bool hu hd
            simpa [litC] using hl
          · rename_i q hu
            obtain ⟨a, rfl, rfl, _⟩ := DataW.trod_int hu hd
            simpa [litC] using hl
          · rename_i mm e hu
            split at hk
            · rename_i k1 hk1
              cases hk
              obtain ⟨xs, m', rfl, rfl, hcl, hxl, hx⟩ := DataW.trod_array hu hd
              obtain ⟨ie, de, j1, j2, j3, _⟩ := flatP_info hk1
              have hc : P.cellsOf e = k1.length := by rw [cellsOf_eq j1, j3]
              have hlen : cs.length = mm * k1.length := by rw [hcl, cellsOf_eq hi, hs]; simp
              have := lit_items ih hk1 cs mm 0 xs l hxl (fun i hi => by have := hx i hi; rw [hc] at this; simpa using this) (by simpa [litC] using hl) (by simpa using hlen)
              simpa using this
            · cases hk
          · rename_i fs hu
            split at hk
            · cases hk
            · obtain ⟨xs, m', rfl, rfl, hcl, hxl, hx⟩ := DataW.trod_struct hu hd
              have hlen : cs.length = ks.length := by rw [hcl, cellsOf_eq hi, hs]
              have := lit_fields ih cs fs.toList xs 0 ks l hk (by simpa using hxl) (fun i f hf => hx i f (by rw [← Array.getElem?_toList]; exact hf)) (by simpa [litC] using hl) (by omega)
              simpa using this
          · cases hk
        · cases h
      · cases h

/-- The one variable that is laid: its cells, in the world that the call begins in. -/
theorem laid_cells {name : String} {d : DataW Unit} {rest : List (String × DataW Unit)} {g : Nat} {t : TypeId} {n : Nat} {ks : List FK} {l : List Value} (hg : P.globalNamed name = some g) (hty : (P.globals[g]?).map (·.type) = some t)
    (hk : flatP P n t = some ks) (hl : litC n d = some l) (h : laidMet P ((name, d) :: rest) W) : W.var? P name = some l.toArray := by
  obtain ⟨ps, ⟨g', t', cs, fuel, p, q, hg', ht', hvar, hd, _, _⟩, _⟩ := h
  obtain rfl := Option.some.inj (hg.symm.trans hg')
  obtain rfl := Option.some.inj (hty.symm.trans ht')
  rw [hvar]
  have := LitAt.all n t ks fuel cs.toList l _ hk hd hl
  rw [← this]
end
end
end Go.Vex
