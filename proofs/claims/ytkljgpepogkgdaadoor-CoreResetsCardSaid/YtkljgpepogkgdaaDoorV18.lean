/-
  VEX, part 18: arguments, opened: what they say, for every input.
-/
import Derived.Test.YtkljgpepogkgdaaDoorV17
import GoSem.ClaimJoined
namespace Go.Vex
open Go.RowKit Go.ChangeShapes
set_option linter.unusedVariables false
noncomputable section

def InK (k : IntKind) (n : Int) : Prop := (Lit.int k n).wf = true
/-- For every value of such a type: its cells, and the resources that it brings (from number x on). -/
def opnFs (T : Tree) (f : Nat → Nat → (List SV → List Blk → Prop) → Prop) (tot : Nat) : List (Nat × Nat) → Nat → Nat → (List SV → List Blk → Prop) → Prop
  | [], acc, x, K => if acc = tot then K [] [] else False
  | (off, t) :: r, acc, x, K => match T.find t with
    | none => False
    | some ti => if off = acc then (if acc + ti.size ≤ tot then f t x fun s h => opnFs T f tot r (acc + ti.size) (x + h.length) fun s' h' => K (s ++ s') (h ++ h') else False) else False
def opn (T : Tree) : Nat → Nat → Nat → (List SV → List Blk → Prop) → Prop
  | 0, _, _, _ => False
  | n + 1, t, x, K => match T.find t with
    | none => False
    | some ti => match ti.kind with
      | .int k => ∀ a : Int, InK k a → K [.i k (.ex a)] []
      | .bool => ∀ b : Bool, K [.b (.ex b)] []
      | .slice e => match T.find e with
        | none => False
        | some te => match te.kind with
          | .int k => if te.size = 1 then (∀ (m c : Nat) (zs : List Int), zs.length = m → m ≤ c → c ≤ maxLen → m * te.bytes ≤ reachBytes → (∀ z ∈ zs, InK k z) → K [.slc x 0 1 (.lit 0) (.ex m) (.ex c)] [.ro [.ints k (.ex m) zs]]) else False
          | _ => False
      | .array m e => match T.find e with
        | none => False
        | some te => match te.kind with
          | .int k => if te.size = 1 then (if ti.size = m then (∀ zs : List Int, zs.length = m → (∀ z ∈ zs, InK k z) → K [.ints k (.lit m) zs] []) else False) else False
          | _ => False
      | .struct fs => opnFs T (opn T n) ti.size fs 0 x K
      | _ => False

section
variable {H : Type} {enc : TypeId × Value → H} {C : Kit} {W : World} {base : Nat}

def OpnAt (enc : TypeId × Value → H) (C : Kit) (W : World) (base : Nat) (f : Nat → Nat → (List SV → List Blk → Prop) → Prop) : Prop :=
  ∀ (t x : Nat) (K : List SV → List Blk → Prop) (m : Nat) (cs : List Value) (d : DataW H × List MemPlace), f t x K → DataW.trod enc C.P W 0 (fun _ => true) true m t cs = some d →
    (∀ v ∈ cs, ∃ u, Cell.okWide C.P W .any base u v) → (∀ n ∈ d.1.weights C.P t, n ≤ reachBytes) → ∀ (ρ : Rho) (hp : List Blk), InitSat ρ hp W → hp.length = x →
    ∃ ρ1 svs hp1, InitSat (ρ ++ ρ1) (hp ++ hp1) W ∧ DenL (ρ ++ ρ1) svs cs ∧ K svs hp1

theorem cellsOf_eq {P : Program} {t : Nat} {i : TypeInfo} (h : P.info? t = some i) : P.cellsOf t = i.size := by simp [Program.cellsOf, h]
theorem bytesOf_eq {P : Program} {t : Nat} {i : TypeInfo} (h : P.info? t = some i) : P.bytesOf t = i.bytes := by simp [Program.bytesOf, h]

theorem ext_app (ρ ρ' : Rho) : Ext ρ (ρ ++ ρ') := fun x r h => by
  rw [List.getElem?_append_left (List.getElem?_eq_some_iff.1 h).1]; exact h

theorem opn_fields {f : Nat → Nat → (List SV → List Blk → Prop) → Prop} (hf : OpnAt enc C W base f) (m : Nat) (cs : List Value) (hok : ∀ v ∈ cs, ∃ u, Cell.okWide C.P W .any base u v) :
    ∀ (fs : List (Nat × Nat)) (Fs : List Field) (xs : List (DataW H × List MemPlace)) (acc x : Nat) (K : List SV → List Blk → Prop), opnFs C.T f cs.length fs acc x K →
      Fs.map (fun F => (F.offset, F.type)) = fs → xs.length = Fs.length → (∀ (i : Nat) (F : Field), Fs[i]? = some F → DataW.trod enc C.P W 0 (fun _ => true) true m F.type ((cs.drop F.offset).take (C.P.cellsOf F.type)) = xs[i]?) →
      (∀ n ∈ DataW.weightsEach C.P (Fs.map (·.type)) (xs.map (·.1)), n ≤ reachBytes) → acc ≤ cs.length →
      ∀ (ρ : Rho) (hp : List Blk), InitSat ρ hp W → hp.length = x → ∃ ρ1 svs hp1, InitSat (ρ ++ ρ1) (hp ++ hp1) W ∧ DenL (ρ ++ ρ1) svs (cs.drop acc) ∧ K svs hp1
  | [], Fs, xs, acc, x, K, h, hF, hx, hr, hw, hacc, ρ, hp, hs, hl => by
    unfold opnFs at h
    split at h
    · rename_i e
      refine ⟨[], [], [], by simpa using hs, ?_, h⟩
      rw [List.drop_of_length_le (by omega)]; exact .nil rfl
    · exact h.elim
  | (off, t) :: r, Fs, xs, acc, x, K, h, hF, hx, hr, hw, hacc, ρ, hp, hs, hl => by
    unfold opnFs at h
    split at h
    · exact h.elim
    · rename_i ti hti
      split at h
      · rename_i eo
        subst eo
        split at h
        rotate_left
        · exact h.elim
        rename_i hlen
        cases Fs with
        | nil => simp at hF
        | cons F Fs =>
          cases xs with
          | nil => simp at hx
          | cons y xs =>
            simp only [List.map_cons, List.cons.injEq, Prod.mk.injEq] at hF
            obtain ⟨⟨e1, e2⟩, hF⟩ := hF
            obtain ⟨i, dd, z, i1, i2, i3, _⟩ := C.hT t ti hti
            have hsz : C.P.cellsOf F.type = ti.size := by rw [e2, cellsOf_eq i1, i3]
            have h0 := hr 0 F rfl
            simp only [List.getElem?_cons_zero] at h0
            rw [e1, hsz] at h0
            have hmem : ∀ v ∈ (cs.drop off).take ti.size, v ∈ cs := fun v hv => List.mem_of_mem_drop (List.mem_of_mem_take hv)
            simp only [List.map_cons, DataW.weightsEach, List.mem_append] at hw
            rw [e2] at h0 hw
            obtain ⟨ρ1, s1, hp1, k1, k2, k3⟩ := hf t x _ m _ y h h0 (fun v hv => hok v (hmem v hv)) (fun n hn => hw n (.inl hn)) ρ hp hs hl
            obtain ⟨ρ2, s2, hp2, j1, j2, j3⟩ := opn_fields hf m cs hok r Fs xs (off + ti.size) (x + hp1.length) _ k3 hF (by simpa using hx) (fun i F hi => by have := hr (i + 1) F (by simpa using hi); simpa using this) (fun n hn => hw n (.inr hn)) hlen (ρ ++ ρ1) (hp ++ hp1) k1 (by simp [hl])
            refine ⟨ρ1 ++ ρ2, s1 ++ s2, hp1 ++ hp2, by rw [← List.append_assoc, ← List.append_assoc]; exact j1, ?_, j3⟩
            rw [← List.append_assoc]
            have e3 : cs.drop off = (cs.drop off).take ti.size ++ cs.drop (off + ti.size) := by rw [← List.drop_drop, List.take_append_drop]
            rw [e3]
            exact (k2.mono (ext_app _ _)).append j2
      · exact h.elim

theorem slice_ok {u : TypeId} {b : Addr} {len cap : Nat} (h : Cell.okWide C.P W .any base u (.slice (some b) len cap)) : b.spot = none ∧ b.block < W.heap.size := by
  have key : ∀ e n, World.has C.P W .any base b e n → b.spot = none ∧ b.block < W.heap.size := by
    rintro e n ⟨_, h1, row, cells, h2, _⟩
    refine ⟨h1, ?_⟩
    unfold World.shape? at h2
    split at h2
    · rename_i hh; exact (Array.getElem?_eq_some_iff.1 hh).1
    · cases h2
  unfold Cell.okWide at h
  split at h <;> try (rename_i e; cases e; done)
  unfold Cell.ok at h
  split at h <;> first | exact h.elim | (rename_i e; cases e; done) | skip
  rename_i e1
  cases e1
  exact key _ _ h.2.2

theorem opn_sound : ∀ n, OpnAt enc C W base (opn C.T n)
  | 0 => fun t x K m cs d h => h.elim
  | n + 1 => by
    intro t x K m cs d h hd hok hw ρ hp hs hl
    unfold opn at h
    split at h
    · exact h.elim
    · rename_i ti hti
      obtain ⟨i, dd, z, i1, i2, i3, i4, i5, i6, i7, _⟩ := C.hT t ti hti
      split at h
      · rename_i k hk
        rw [hk] at i7; simp only [kindOk] at i7; subst i7
        obtain ⟨a, rfl, _, hwf⟩ := DataW.trod_int i2 hd
        exact ⟨[], _, [], by simpa using hs, .cons [_] [] rfl (.one _ rfl rfl (.i rfl)) (.nil rfl), h a hwf⟩
      · rename_i hk
        rw [hk] at i7; simp only [kindOk] at i7; subst i7
        obtain ⟨b, rfl, _⟩ := DataW.trod_bool i2 hd
        exact ⟨[], _, [], by simpa using hs, .cons [_] [] rfl (.one _ rfl rfl (.b rfl)) (.nil rfl), h b⟩
      · rename_i e hk
        rw [hk] at i7; simp only [kindOk] at i7; subst i7
        split at h
        · exact h.elim
        · rename_i te hte
          obtain ⟨ie, de, ze, j1, j2, j3, j4, j5, j6, j7, _⟩ := C.hT e te hte
          split at h
          · rename_i k hke
            rw [hke] at j7; simp only [kindOk] at j7; subst j7
            split at h
            · rename_i hsz
              have hc : C.P.cellsOf e = 1 := by rw [cellsOf_eq j1, j3, hsz]
              rcases open_ints i2 j2 hc hd with ⟨rfl, rfl⟩ | ⟨a, len, cap, zs, rfl, _, hle, hmax, hlen, rfl, hcell, hwf⟩
              · refine ⟨[none], _, [_], ?_, .cons [_] [] rfl (.one _ rfl rfl (.slc none (by rw [← hl]; obtain ⟨ω, hω, _⟩ := hs; rw [hω.lenh]; simp) (fun _ => ⟨rfl, rfl⟩) (by simp))) (.nil rfl), h 0 0 [] rfl (Nat.le_refl _) (Nat.zero_le _) (by simp) (by simp)⟩
                exact hs.push (see := []) ⟨[], .cons [] [] rfl (.ints rfl rfl) (.nil rfl), .inl ⟨rfl, rfl⟩⟩ (by simp)
              · simp only [if_true] at hlen
                obtain ⟨u, hu⟩ := hok (.slice (some a) len cap) (by simp)
                obtain ⟨hspot, hblk⟩ := slice_ok hu
                obtain ⟨b, off, spot⟩ := a
                simp only at hspot hblk
                subst hspot
                have hlz : (zs.take len).length = len := by simp; omega
                refine ⟨[some (b, off)], _, [_], ?_, .cons [_] [] rfl (.one _ rfl rfl (.slc (some (b, off)) (by rw [← hl]; obtain ⟨ω, hω, _⟩ := hs; rw [hω.lenh]; simp) (by simp) (by simp))) (.nil rfl), h len cap (zs.take len) hlz hle hmax ?_ (fun z hz => hwf z (List.mem_of_mem_take hz))⟩
                · refine hs.push (see := [b]) ⟨(zs.take len).map (Value.int k), .cons _ [] (by simp) (.ints hlz rfl) (.nil rfl), .inr ⟨b, off, rfl, rfl, ?_⟩⟩ (by simpa using hblk)
                  rcases Nat.eq_zero_or_pos len with h0 | hpos
                  · subst h0; exact .inl (by simp)
                  · have hc0 := hcell 0 (by omega)
                    rw [addr_add] at hc0
                    have : ∃ arr T fz, W.heap[b]? = some (.cells arr T fz) := by
                      unfold World.cell? at hc0
                      simp only at hc0
                      split at hc0
                      · rename_i arr T fz hh; exact ⟨arr, T, fz, hh⟩
                      · cases hc0
                    obtain ⟨arr, T, fz, hh⟩ := this
                    refine .inr ⟨arr, T, fz, hh, fun j c hj => ?_⟩
                    rw [List.getElem?_map] at hj
                    rcases Nat.lt_or_ge j len with hjl | hjl
                    · have hcj := hcell j (by omega)
                      rw [addr_add, cell_of hh] at hcj
                      rw [hcj, ← hj, List.getElem?_take_of_lt hjl, List.getElem?_eq_getElem (by omega)]
                      simp [List.getD_eq_getElem?_getD, List.getElem?_eq_getElem (show j < zs.length by omega)]
                    · rw [List.getElem?_eq_none (by simp; omega)] at hj; cases hj
                · have hw0 := hw ((( (lits k (zs.take len)) : List (DataW H)).length + ((lits k (zs.drop len)) : List (DataW H)).length) * C.P.bytesOf e) (by simp [DataW.weights, i2])
                  rw [bytesOf_eq j1, j4] at hw0
                  refine Nat.le_trans (Nat.mul_le_mul_right _ ?_) hw0
                  simp [lits]; omega
            · exact h.elim
          · exact h.elim
      · rename_i mm e hk
        rw [hk] at i7; simp only [kindOk] at i7; subst i7
        split at h
        · exact h.elim
        · rename_i te hte
          obtain ⟨ie, de, ze, j1, j2, j3, j4, j5, j6, j7, _⟩ := C.hT e te hte
          split at h
          · rename_i k hke
            rw [hke] at j7; simp only [kindOk] at j7; subst j7
            split at h
            · rename_i hsz
              split at h
              rotate_left
              · exact h.elim
              rename_i htot
              have hc : C.P.cellsOf e = 1 := by rw [cellsOf_eq j1, j3, hsz]
              obtain ⟨xs, m', rfl, rfl, hcl, hxl, hx⟩ := DataW.trod_array i2 hd
              have each : ∀ j, j < mm → ∃ a, cs[j]? = some (.int k a) ∧ InK k a := by
                intro j hj
                have h1 := hx j hj
                rw [hc, Nat.mul_one] at h1
                obtain ⟨y, hy⟩ : ∃ y, xs[j]? = some y := ⟨xs[j]'(by omega), by simp⟩
                rw [hy] at h1
                obtain ⟨a, e1, _, e2⟩ := DataW.trod_int j2 h1
                refine ⟨a, ?_, e2⟩
                have := congrArg (fun l => l[0]?) e1
                simpa using this
              have hlen : cs.length = mm := by rw [hcl, cellsOf_eq i1, i3, htot]
              have hcs : cs = (cs.map intOf).map (Value.int k) := by
                apply List.ext_getElem?
                intro j
                rcases Nat.lt_or_ge j mm with hj | hj
                · obtain ⟨a, ha, _⟩ := each j hj
                  simp [ha, intOf]
                · rw [List.getElem?_eq_none (by omega), List.getElem?_eq_none (by simp; omega)]
              refine ⟨[], _, [], by simpa using hs, ?_, h (cs.map intOf) (by simp [hlen]) ?_⟩
              · refine .cons _ [] (List.append_nil _).symm (.ints (by simp [hlen]) hcs) (.nil rfl)
              · intro z hz
                rw [List.mem_map] at hz
                obtain ⟨v, hv, rfl⟩ := hz
                obtain ⟨j, hj⟩ := List.getElem?_of_mem hv
                obtain ⟨a, ha, hwf⟩ := each j (by have := (List.getElem?_eq_some_iff.1 hj).1; omega)
                rw [hj] at ha; cases ha; exact hwf
            · exact h.elim
          · exact h.elim
      · rename_i fs hk
        rw [hk] at i7; simp only [kindOk] at i7
        obtain ⟨arr, rfl, g1, g2⟩ := i7
        obtain ⟨xs, m', rfl, rfl, hcl, hxl, hx⟩ := DataW.trod_struct i2 hd
        have hsz : cs.length = ti.size := by rw [hcl, cellsOf_eq i1, i3]
        rw [← hsz] at h
        have hmap : arr.toList.map (fun F => (F.offset, F.type)) = fs := by
          apply List.ext_getElem?
          intro j
          rw [List.getElem?_map]
          cases hj : fs[j]? with
          | none =>
            rw [List.getElem?_eq_none (by have := List.getElem?_eq_none_iff.1 hj; simp; omega)]; rfl
          | some p =>
            obtain ⟨F, e1, e2, e3⟩ := g2 j p.1 p.2 hj
            rw [Array.getElem?_toList, e1]
            simp [e2, e3]
        obtain ⟨ρ1, svs, hp1, k1, k2, k3⟩ := opn_fields (opn_sound n) m' cs hok fs arr.toList xs 0 x K h hmap (by simpa using hxl) (fun i F hi => hx i F (by rw [← Array.getElem?_toList]; exact hi)) (by simpa [DataW.weights, i2] using hw) (Nat.zero_le _) ρ hp hs hl
        exact ⟨ρ1, svs, hp1, k1, by simpa using k2, k3⟩
      · exact h.elim
end
end
end Go.Vex
