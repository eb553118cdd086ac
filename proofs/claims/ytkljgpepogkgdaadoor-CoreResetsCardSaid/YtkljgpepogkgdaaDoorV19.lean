/-
  VEX, part 19: a law's contract, from its walk.
-/
import Derived.Test.YtkljgpepogkgdaaDoorV18
namespace Go.Vex
open Go.RowKit Go.ChangeShapes
set_option linter.unusedVariables false
noncomputable section

def argV (agg : Bool) (s : List SV) (K : SV → Prop) : Prop :=
  match agg with
  | true => K (.agg s)
  | false => match s with
    | [v] => match single v with
      | true => K v
      | false => False
    | _ => False
def opnArgs (T : Tree) (n : Nat) : List Nat → Nat → (List SV → List Blk → Prop) → Prop
  | [], x, K => K [] []
  | t :: r, x, K => match T.find t with
    | none => False
    | some ti => opn T n t x fun s h => argV (isAggK ti.kind) s fun v => opnArgs T n r (x + h.length) fun s' h' => K (v :: s') (h ++ h')

section
variable {H : Type} {enc : TypeId × Value → H} {C : Kit} {W : World} {base : Nat}

theorem opnArgs_sound (n : Nat) : ∀ (ts : List Nat) (x : Nat) (K : List SV → List Blk → Prop) (vals : List Value) (ds : List (DataW H)) (ps : List MemPlace), opnArgs C.T n ts x K →
    DataW.TrodAll enc C.P W 0 (fun _ => true) true ts vals ds ps → (∀ (j : Nat) t v, ts[j]? = some t → vals[j]? = some v → Value.okWide C.P W .any base t v) →
    (∀ k ∈ DataW.weightsEach C.P ts ds, k ≤ reachBytes) → ∀ (ρ : Rho) (hp : List Blk), InitSat ρ hp W → hp.length = x →
    ∃ ρ1 svs hp1, InitSat (ρ ++ ρ1) (hp ++ hp1) W ∧ DenT (ρ ++ ρ1) svs vals ∧ K svs hp1
  | [], x, K, vals, ds, ps, h, hd, hok, hw, ρ, hp, hs, hl => by
    cases vals with
    | nil => exact ⟨[], [], [], by simpa using hs, .nil rfl, h⟩
    | cons v vs => simp [DataW.TrodAll] at hd
  | t :: ts, x, K, vals, ds, ps, h, hd, hok, hw, ρ, hp, hs, hl => by
    cases vals with
    | nil => simp [DataW.TrodAll] at hd
    | cons v vs =>
      cases ds with
      | nil => simp [DataW.TrodAll] at hd
      | cons d ds =>
        obtain ⟨p, q, ⟨m, h1⟩, h2, rfl⟩ := hd
        unfold opnArgs at h
        split at h
        · exact h.elim
        · rename_i ti hti
          obtain ⟨i, dd, z, i1, i2, i3, i4, i5, i6, i7, _⟩ := C.hT t ti hti
          have hv := hok 0 t v rfl rfl
          simp only [DataW.weightsEach, List.mem_append] at hw
          have rest : ∀ {ρ1 : Rho} {hp1 : List Blk} {K' : List SV → List Blk → Prop}, InitSat (ρ ++ ρ1) (hp ++ hp1) W → opnArgs C.T n ts (x + hp1.length) K' →
              ∃ ρ2 svs hp2, InitSat (ρ ++ ρ1 ++ ρ2) (hp ++ hp1 ++ hp2) W ∧ DenT (ρ ++ ρ1 ++ ρ2) svs vs ∧ K' svs hp2 := fun hs1 h' =>
            opnArgs_sound n ts _ _ vs ds q h' h2 (fun j t v e1 e2 => hok (j + 1) t v (by simpa using e1) (by simpa using e2)) (fun k hk => hw k (.inr hk)) _ _ hs1 (by simp [hl])
          by_cases hagg : isAggK ti.kind = true
          · have ha : ∃ cs, v = .agg cs ∧ ∀ u ∈ cs.toList, ∃ w, Cell.okWide C.P W .any base w u := by
              have hrow : ∃ cs, v = .agg cs ∧ cs.size = C.P.cellsOf t ∧ Row.okWide C.P W .any base t cs := by
                unfold Value.okWide at hv
                cases hk : ti.kind <;> rw [hk] at hagg i7 <;> simp only [isAggK, Bool.false_eq_true] at hagg <;> simp only [kindOk] at i7
                · subst i7; rw [i2] at hv; exact hv
                · obtain ⟨arr, rfl, _⟩ := i7; rw [i2] at hv; exact hv
              obtain ⟨cs, rfl, _, ts', _, _, hrow⟩ := hrow
              refine ⟨cs, rfl, fun u hu => ?_⟩
              obtain ⟨j, hj⟩ := List.getElem?_of_mem hu
              obtain ⟨w, _, hw⟩ := hrow j u (by simpa using hj)
              exact ⟨w, hw⟩
            obtain ⟨cs, rfl, hcs⟩ := ha
            obtain ⟨ρ1, s1, hp1, k1, k2, k3⟩ := opn_sound (base := base) n t x _ m _ (d, p) h h1 (by simpa [Value.cells] using hcs) (fun k hk => hw k (.inl hk)) ρ hp hs hl
            rw [hagg] at k3
            obtain ⟨ρ2, s2, hp2, j1, j2, j3⟩ := rest k1 k3
            refine ⟨ρ1 ++ ρ2, _, hp1 ++ hp2, by rw [← List.append_assoc, ← List.append_assoc]; exact j1, ?_, j3⟩
            rw [← List.append_assoc]
            exact .cons _ _ rfl (.agg cs.toList (by simp) (by simpa [Value.cells] using k2.mono (ext_app _ _))) j2
          · have hagg' : isAggK ti.kind = false := by simpa using hagg
            have hcell : Cell.okWide C.P W .any base t v := by
              unfold Value.okWide at hv
              rw [i2] at hv
              cases hk : ti.kind <;> rw [hk] at hagg' i7 <;> simp only [isAggK, Bool.true_eq_false] at hagg' <;> simp only [kindOk] at i7
              case iface => obtain ⟨ms, rfl⟩ := i7; exact hv
              case func => obtain ⟨_, _, _, rfl⟩ := i7; exact hv
              case other =>
                cases dd <;> first | exact hv | exact absurd rfl (i7.1 _) | exact absurd rfl (i7.2 _ _)
              all_goals (subst i7; exact hv)
            have hone : v.cells = #[v] := by
              cases v <;> first | rfl | skip
              all_goals
                exfalso
                unfold Cell.okWide at hcell
                split at hcell <;> try (rename_i e; cases e; done)
                unfold Cell.ok at hcell
                split at hcell <;> first | exact hcell.elim | (rename_i e; cases e; done)
            obtain ⟨ρ1, s1, hp1, k1, k2, k3⟩ := opn_sound (base := base) n t x _ m _ (d, p) h h1 (by rw [hone]; intro u hu; simp at hu; subst hu; exact ⟨t, hcell⟩) (fun k hk => hw k (.inl hk)) ρ hp hs hl
            rw [hagg'] at k3
            unfold argV at k3
            simp only at k3
            split at k3
            · rename_i sv
              split at k3
              · rename_i hsing
                obtain ⟨ρ2, s2, hp2, j1, j2, j3⟩ := rest k1 k3
                refine ⟨ρ1 ++ ρ2, _, hp1 ++ hp2, by rw [← List.append_assoc, ← List.append_assoc]; exact j1, ?_, j3⟩
                rw [← List.append_assoc]
                rw [hone] at k2
                obtain ⟨c1, c2, e, g1, g2⟩ := k2.of_cons
                obtain ⟨c, rfl, _, g3⟩ := g1.single hsing
                have e0 : v = c := by rw [g2.of_nil] at e; simpa using e
                subst e0
                exact .cons _ _ rfl (g3.mono (ext_app _ _)) j2
              · exact k3.elim
            · exact k3.elim

/-- The arguments read as they did. -/
theorem trodAll_still (hl : laidOutB C.P = true) {W' : World} (hb : Below W.heap.size W W') {sp : Nat → Bool} : ∀ (ts : List Nat) (vals : List Value) (ds : List (DataW H)) (ps : List MemPlace),
    (∀ t ∈ ts, C.P.readableRec t = true ∧ t < C.P.types.size) → DataW.TrodAll enc C.P W 0 (fun _ => true) true ts vals ds ps → (∀ p ∈ ps, p.block < W.heap.size) → (∀ p ∈ ps, sp p.block = true) →
    DataW.TrodAll enc C.P W' 0 sp true ts vals ds ps
  | [], [], [], ps, _, h, _, _ => h
  | t :: ts, v :: vs, d :: ds, ps, hr, ⟨p, q, h1, h2, e⟩, hlt, hs => by
    subst e
    exact ⟨p, q, WideElems.Trod_stays hl (hr t (by simp)).1 (hr t (by simp)).2 h1 (fun x hx => hb.same (hlt x (by simp [hx]))) (fun x hx => hs x (by simp [hx])),
      trodAll_still hl hb ts vs ds q (fun t ht => hr t (by simp [ht])) h2 (fun x hx => hlt x (by simp [hx])) (fun x hx => hs x (by simp [hx])), rfl⟩
  | [], [], _ :: _, _, _, h, _, _ => by simp [DataW.TrodAll] at h
  | [], _ :: _, _, _, _, h, _, _ => by simp [DataW.TrodAll] at h
  | _ :: _, [], _, _, _, h, _, _ => by simp [DataW.TrodAll] at h
  | _ :: _, _ :: _, [], _, _, h, _, _ => by simp [DataW.TrodAll] at h

/-- What is asked of a law's answer, where it answered true and turned nothing that was there. -/
theorem post_still {f : Func} {s : ChangeSpec} {apart fresh handsOn again : Bool} {W' : World} {args : Array Value} {ds gs : List (DataW H)} {before : List MemPlace} {tb : Nat}
    (hl : laidOutB C.P = true) (hr : ∀ t ∈ f.params.toList, C.P.readableRec t = true ∧ t < C.P.types.size) (hrt : f.resultTypes = #[tb]) (htb : C.P.underlying tb = some .bool) (hv : s.vars = [])
    (hs : (s.fn H (ds ++ gs)).results = [.lit (.bool true)] ∧ (s.fn H (ds ++ gs)).args = ds ∧ (s.fn H (ds ++ gs)).vars = [])
    (hW : DataW.Whole enc C.P f.params.toList s.vars apart W args.toList ds gs before) (hb : Below W.heap.size W W') : s.post enc C.P f apart fresh handsOn again W args (.bool true) W' := by
  have hW0 := hW
  obtain ⟨p, q, hA, hV, rfl, hz, hn⟩ := hW
  rw [hv] at hV
  obtain ⟨rfl, rfl⟩ := trodVars_none hV
  have hlt : ∀ x ∈ p, x.block < W.heap.size := fun x hx => by simpa using hW0.lt x (by simp [hx])
  have hargs : ∀ sp : Nat → Bool, (∀ x ∈ p, sp x.block = true) → DataW.TrodAll enc C.P W' 0 sp true f.params.toList args.toList (s.fn H (ds ++ [])).args p := by
    intro sp hsp
    rw [hs.2.1]
    exact trodAll_still hl hb _ _ _ _ hr hA hlt hsp
  have hres : ∀ (b : Nat) (sp : Nat → Bool) (hd : Bool), DataW.TrodAll enc C.P W' b sp hd f.resultTypes.toList ((Value.bool true).resultList f.resultTypes.size) (s.fn H (ds ++ [])).results [] := by
    intro b sp hd
    rw [hs.1, hrt]
    exact trodAll_cons_mk (shut_bool htb true) trodAll_mk0
  have hvars : ∀ sp : Nat → Bool, DataW.TrodVars enc C.P W' sp s.vars (s.fn H (ds ++ [])).vars [] := by
    intro sp
    rw [hv, hs.2.2]; rfl
  refine ⟨ds, [], p ++ [], [], p, [], hW0, hres _ _ _, hargs _ fun x hx => by simpa using hlt x hx, hvars _, World.keptBut_mono (fun x hx => ⟨hx, ?_⟩) (hb.frame (· ∈ p ++ [])), fun _ => ?_⟩
  · exact Or.inr (by simpa using hx)
  · refine ⟨ok_one hrt rfl (okWide_bool_mk htb true), _, _, ([] ++ p) ++ [], ⟨[] ++ p, [], trodAll_append (hargs _ (fun _ _ => rfl)) (hres _ _ _), hvars _, rfl, ?_, ?_⟩, ?_⟩
    · intro b off hp
      have hbl : b < W.heap.size := hlt (.cell b off) (by simpa using hp)
      rw [hb.frozen (p := ⟨b, off, none⟩) hbl]
      exact hz b off (by simpa using hp)
    · intro ha
      have := hn ha
      simpa using this
    · intro x hx _
      simpa using hx
end
end
end Go.Vex
