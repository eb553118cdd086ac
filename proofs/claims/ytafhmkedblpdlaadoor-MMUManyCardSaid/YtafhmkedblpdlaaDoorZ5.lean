/-
  Joined: LB VU E1 E2 CA CF CP GD M1 M2 M3 M4 A1 T1 T2 N1.
-/
import Derived.Test.YtafhmkedblpdlaaDoorZ3
import Derived.Test.YtafhmkedblpdlaaDoorZ4
import Derived.IntWalk
import Derived.Test.YtafhmkedblpdlaaDoorCards
import Derived.Test.YtafhmkedblpdlaaDoorTie
import Derived.WalkKit
import Derived.ProofKit
import Derived.OpenShut
import Derived.Deep.DeepHandedRow
import Derived.LaidLaws
set_option linter.unusedVariables false
set_option linter.unusedSimpArgs false
/-
  From a walk of a law to its row's contract.
-/
section
namespace Go.Vex
open Go.RowKit Go.ChangeShapes
noncomputable section
theorem calls_of_ok2 {C : Kit} {f : Nat} {svs : List SV} {hp : List Blk} {ρ : Rho} {W : World} {vals : List Value}
    (h : ∀ A, OkCall C f svs (hp ++ [.abs A]) fun q v hp' => leV v (.b (.lit true)) ∧ ∃ x : Nat, hp'[x]? = some (.abs A))
    (hd : DenT ρ svs vals) (hs : InitSat ρ hp W) : Calls C.P f vals.toArray W fun e w' => e = .returned (.bool true) ∧ Below W.heap.size W w' := by
  have hs' : InitSat (ρ ++ [none]) (hp ++ [.abs (allA W)]) W := hs.push (see := List.range W.heap.size) (fun w' hw => ⟨rfl, hw⟩) (by simp)
  obtain ⟨ω, hω, _⟩ := hs'
  refine ((h (allA W)).out (ρ ++ [none]) W vals (hd.mono (Ext.push _ _)) ⟨ω, hω⟩).mono ?_
  rintro e w' ⟨q, ρ', v, c, hp', rfl, k1, k2, ⟨ω', k3⟩, k4, k5, hv, x, hx⟩
  cases leV.den k2 hv with
  | b hb =>
    subst hb
    refine ⟨rfl, k4.os, k4.tape, k4.output, k4.size, ?_⟩
    obtain ⟨a, o, _, _, hA⟩ := HSat.getO k3 hx
    have := hA w' (agree.refl _ _)
    intro k hk
    exact this.2 k (.inr (by simpa using hk))
theorem BImp.roPre {l l0 : List SV} (h : Pre l l0) : BImp (.ro l) (.ro l0) := by
  refine ⟨fun ρ a o w ⟨cs, hd, hc⟩ => ?_⟩
  obtain ⟨c1, c2, rfl, h1⟩ := h ρ cs hd
  refine ⟨c1, h1, ?_⟩
  rcases hc with ⟨e, ho⟩ | ⟨b, o0, e, ho, hc⟩
  · exact .inl ⟨(List.append_eq_nil_iff.1 e).1, ho⟩
  · refine .inr ⟨b, o0, e, ho, ?_⟩
    rcases hc with e2 | ⟨arr, T, fz, h2, h3⟩
    · exact .inl (List.append_eq_nil_iff.1 e2).1
    · exact .inr ⟨arr, T, fz, h2, fun j c hj => h3 j c (by rw [List.getElem?_append_left (List.getElem?_eq_some_iff.1 hj).1]; exact hj)⟩
theorem inK_u32 {n : Int} (h : InK .u32 n) : 0 ≤ n ∧ n < 4294967296 := by
  simp [InK, Lit.wf, IntKind.min, IntKind.max, IntKind.bits, IntKind.signed] at h
  exact ⟨h.1, by omega⟩
theorem inK_u8 {n : Int} (h : InK .u8 n) : 0 ≤ n ∧ n < 256 := by
  simp [InK, Lit.wf, IntKind.min, IntKind.max, IntKind.bits, IntKind.signed] at h
  exact ⟨h.1, by omega⟩
theorem inK_i64 {n : Int} (h : InK .i64 n) : -9223372036854775808 ≤ n ∧ n < 9223372036854775808 := by
  simp [InK, Lit.wf, IntKind.min, IntKind.max, IntKind.bits, IntKind.signed] at h
  exact ⟨h.1, by omega⟩
theorem col_in {P : Int → Prop} (h0 : P 0) {zs : List Int} (h : ∀ z ∈ zs, P z) (j : Nat) : P (zs.getD j 0) := by
  rw [List.getD_eq_getElem?_getD]
  cases e : zs[j]? with
  | none => exact h0
  | some z => exact h z (List.mem_of_getElem? e)
end
end Go.Vex
namespace Go.Proofs.YtafhmkedblpdlaaDoor
open Go Go.Vex
def lawK2 (f : Nat) (svs : List SV) (hp : List Blk) : Prop :=
  ∀ A, OkCall kit f svs (hp ++ [.abs A]) fun q v hp' => leV v (.b (.lit true)) ∧ ∃ x : Nat, hp'[x]? = some (.abs A)
end Go.Proofs.YtafhmkedblpdlaaDoor
end

/-
  VEX, part U: copies within rows; lengths of maps, keys taken away, maps cleared.
-/
section
namespace Go.Vex
noncomputable section
theorem run_sizeOf {P : Program} {e n : Nat} (hsz : (P.info? e).map (·.size) = some n) (w : World) : (sizeOf e).run P w = .ok n w := by
  cases hi : P.info? e with
  | none => rw [hi] at hsz; cases hsz
  | some i =>
    rw [hi] at hsz
    simp only [Option.map_some, Option.some.injEq] at hsz
    simp [sizeOf, run_typeInfo' hi, hsz, Sem.run_bind]
/-- A copy of cells of a resource into itself: what is copied is read first. -/
theorem XOpN.copyR {C : Kit} {fr : Fr} {hp : List Blk} {K : SV → List Blk → Prop} {dx sx : Operand} {dt st e ws : Nat} {y : Nat} {T : TypeId} {L : List SV} {so so' : Off} {len cap len' cap' : S Nat}
    (hd : ev fr hp dx = some (.slr y so ws len cap)) (hsx : ev fr hp sx = some (.slr y so' ws len' cap')) (hu : C.P.underlying dt = some (.slice e)) (hsz : (C.P.info? e).map (·.size) = some ws)
    (hy : hp[y]? = some (.cells T L)) (n : Nat) (hn : n = Nat.min len'.val len.val) (v : S Int) (hv : v.val = n)
    (L2 : List SV) (hk : cutOff L so' (n * ws) fun new => storeL L so (n * ws) (.agg new) fun L' => leL L' L2) (hK : K (.i .i64 v) (hp.set y (.cells T L2))) :
    XOpN C (.call { callee := .builtin .copy, args := #[dx, sx], argTypes := #[dt, st] }) fr hp K := by
  refine ⟨fun ρ nt act w o ho hf hs => ?_⟩
  have d1 := ev_sound hs hf hd
  have d2 := ev_sound hs hf hsx
  cases d1 with
  | slr b o0 hxd hcd =>
  cases d2 with
  | slr b' o0' hxs hcs =>
  rw [hxd] at hxs
  simp only [Option.some.injEq, Prod.mk.injEq] at hxs
  obtain ⟨rfl, rfl⟩ := hxs
  obtain ⟨new, cs1, q1, q2, q3, q4⟩ := hs.loadN hxd hy (show blkCells (.cells T L) = some L from rfl) hk
  obtain ⟨l2, cs, rfl, e1, e2, e3, e4, e5⟩ := hs.storeL (n := n * ws) (c := .agg cs1.toArray) hxd hy (.agg cs1 rfl q3) (by simpa [Value.cells] using q1) q4
  simp only [Value.cells] at e2 e3 e4
  have e2 : so.val + cs1.length ≤ cs.length := by simpa using e2
  have e3 : ∀ u ∈ cs1, oneC u = true := by simpa using e3
  have e4 : HSat ρ (hp.set y (.cells T l2)) (stored b so.val cs1 w) := by simpa using e4
  have hylt := (List.getElem?_eq_some_iff.1 hy).1
  have e6 : HSat ρ (hp.set y (.cells T L2)) (stored b so.val cs1 w) := by
    have := (HImp.at (hp := hp.set y (.cells T l2)) y (by rw [List.getElem?_set_self hylt]) (BImp.le (k := .cells T l2) (k' := .cells T L2) (⟨rfl, e5⟩ : T = T ∧ leL l2 L2))).out _ _ e4
    rw [List.set_set] at this; exact this
  have hst : stored b so.val cs1 w = putB w b (.cells (setMany cs so.val cs1).toArray T (0, 0)) := by unfold stored; rw [e1]
  have hread : ∀ d, (loadCells ⟨b, 0 + so'.val, none⟩ (n * ws)).run C.P { w with drawn := d } = .ok cs1.toArray { w with drawn := d } := fun d => by
    have := run_loadCells_of (P := C.P) (w := { w with drawn := d }) (b := b) (o := 0 + so'.val) (cs := cs1) (fun j c hj => q2 j c hj)
    rw [q1] at this; exact this
  have hstore := fun d => run_stored (P := C.P) (x := { w with drawn := d }) (off := so.val) (vs := cs1) e1 e2 e3
  have hst2 : ∀ d, stored b so.val cs1 { w with drawn := d } = { stored b so.val cs1 w with drawn := d } := fun d => by unfold stored; rw [e1]; rfl
  refine ⟨goInt n, stored b so.val cs1 w, by rw [hst]; rfl, fun d => .inl ?_, ρ, .i .i64 v, _, Ext.refl _, .i (by rw [hv]; rfl), e6, by rw [hst]; exact Kept.putB _ _ _, hK⟩
  obtain ⟨dst, op, type, pos, after, guard⟩ := o
  simp only at ho; subst ho
  simp only [execOp, resolve, Sem.run_bind, Sem.run_pure, Result.andThen_ok, invoke, builtin]
  have hcd : act.eval dx = .slice (some ⟨b, 0 + so.val, none⟩) len.val cap.val := hcd
  have hcs : act.eval sx = .slice (some ⟨b, 0 + so'.val, none⟩) len'.val cap'.val := hcs
  simp only [Nat.zero_add] at hcd hcs hread
  simp [hcd, hcs, Builtin.copy_, Sem.run_bind, run_underlying' hu, Builtin.lenOf, Builtin.firstCells, run_sizeOf hsz, ← hn, hread, hstore]
  exact hst2 d
/-- A copy of nothing. -/
theorem XOpN.copy0 {C : Kit} {fr : Fr} {hp : List Blk} {K : SV → List Blk → Prop} {dx sx : Operand} {dt st e ws : Nat} {y z : Nat} {so so' : Off} {len cap len' cap' : S Nat}
    (hd : ev fr hp dx = some (.slr y so ws len cap)) (hsx : ev fr hp sx = some (.slr z so' ws len' cap')) (hu : C.P.underlying dt = some (.slice e)) (hsz : (C.P.info? e).map (·.size) = some ws)
    (hn : Nat.min len'.val len.val = 0) (v : S Int) (hv : v.val = 0) (hk : K (.i .i64 v) hp) :
    XOpN C (.call { callee := .builtin .copy, args := #[dx, sx], argTypes := #[dt, st] }) fr hp K := by
  refine ⟨fun ρ nt act w o ho hf hs => ?_⟩
  have d1 := ev_sound hs hf hd
  have d2 := ev_sound hs hf hsx
  cases d1 with
  | slr b o0 hxd hcd =>
  cases d2 with
  | slr b' o0' hxs hcs =>
  refine ⟨goInt 0, w, rfl, fun d => .inl ?_, ρ, .i .i64 v, _, Ext.refl _, .i (by rw [hv]; rfl), hs, Kept.refl _, hk⟩
  obtain ⟨dst, op, type, pos, after, guard⟩ := o
  simp only at ho; subst ho
  simp only [execOp, resolve, Sem.run_bind, Sem.run_pure, Result.andThen_ok, invoke, builtin]
  have hcd : act.eval dx = .slice (some ⟨b, o0 + so.val, none⟩) len.val cap.val := hcd
  have hcs : act.eval sx = .slice (some ⟨b', o0' + so'.val, none⟩) len'.val cap'.val := hcs
  simp [hcd, hcs, Builtin.copy_, Sem.run_bind, run_underlying' hu, Builtin.lenOf, Builtin.firstCells, run_sizeOf hsz, hn, loadCells, loadCellsFrom, storeCells]
/-! ### Maps -/
theorem XOpN.lenMP {C : Kit} {fr : Fr} {hp : List Blk} {K : SV → List Blk → Prop} {t kt et : Nat} {m : Operand} {x : Nat} {E : List (Value × Value)} (hu : C.P.underlying t = some (.map kt et))
    (em : ev fr hp m = some (.map x)) (hx : hp[x]? = some (.abs (MP E))) (v : S Int) (hv : v.val = E.length) (hk : K (.i .i64 v) hp) :
    XOpN C (.call { callee := .builtin .len, args := #[m], argTypes := #[t] }) fr hp K := by
  refine ⟨fun ρ nt act w o ho hf hs => ?_⟩
  obtain ⟨b, hb, ⟨es, clk, h1, h2, h3⟩, _⟩ := MP.at hs hx
  have e1 := den_map (ev_sound hs hf em) hb
  have hsz : es.size = E.length := by rw [← h2]; simp
  refine ⟨goInt es.size, w, rfl, fun d => .inl ?_, ρ, .i .i64 v, _, Ext.refl _, .i (by rw [hv, ← hsz]; rfl), hs, Kept.refl _, hk⟩
  obtain ⟨dst, op, type, pos, after, guard⟩ := o
  simp only at ho; subst ho
  simp only [execOp, resolve, Sem.run_bind, Sem.run_pure, Result.andThen_ok, invoke, builtin]
  have e1 : act.eval m = .map (some b) := e1
  simp [e1, Builtin.len_, Sem.run_bind, run_underlying' hu, run_getObj' (w := { w with drawn := d }) (b := b) h1]
theorem XOpR.lenMP {C : Kit} {fr : Fr} {hp : List Blk} {K : SV → Prop} {t kt et : Nat} {m : Operand} {x : Nat} {E : List (Value × Value)} (hu : C.P.underlying t = some (.map kt et))
    (em : ev fr hp m = some (.map x)) (hx : hp[x]? = some (.abs (MP E))) (v : S Int) (hv : v.val = E.length) (hk : K (.i .i64 v)) :
    XOpR C (.call { callee := .builtin .len, args := #[m], argTypes := #[t] }) fr hp K := by
  refine ⟨fun ρ nt act w o ho hf hs => ?_⟩
  obtain ⟨b, hb, ⟨es, clk, h1, h2, h3⟩, _⟩ := MP.at hs hx
  have e1 := den_map (ev_sound hs hf em) hb
  have hsz : es.size = E.length := by rw [← h2]; simp
  refine ⟨.i .i64 v, goInt es.size, .i (by rw [hv, ← hsz]; rfl), hk, fun y hy => ?_⟩
  have h1y := hy b _ h1
  obtain ⟨dst, op, type, pos, after, guard⟩ := o
  simp only at ho; subst ho
  simp only [execOp, resolve, Sem.run_bind, Sem.run_pure, Result.andThen_ok, invoke, builtin]
  have e1 : act.eval m = .map (some b) := e1
  simp [e1, Builtin.len_, Sem.run_bind, run_underlying' hu, run_getObj' h1y]
def delA {α : Type} [DecidableEq α] (n : α) (L : List (α × Value)) : List (α × Value) :=
  match fA n L 0 with
  | some (i, _) => L.eraseIdx i
  | none => L
theorem map_erase {α β : Type} (g : α → β) : ∀ (l : List α) (i : Nat), (l.eraseIdx i).map g = (l.map g).eraseIdx i
  | [], i => by simp
  | a :: l, 0 => by simp
  | a :: l, i + 1 => by simp [map_erase g l i]
theorem StampOk.erase {es : Array MapEntry} {clock : Nat} (h : StampOk es clock) (i : Nat) : StampOk (es.eraseIdxIfInBounds i) clock := by
  obtain ⟨h1, h2⟩ := h
  have hl : (es.eraseIdxIfInBounds i).toList = es.toList.eraseIdx i := by
    unfold Array.eraseIdxIfInBounds
    split
    · simp
    · rename_i hi; rw [List.eraseIdx_of_length_le (by simpa using hi)]
  refine ⟨?_, fun e he => h2 e ?_⟩
  · rw [hl, map_erase]
    exact h1.sublist (List.eraseIdx_sublist _ _)
  · rw [hl] at he; exact List.mem_of_mem_eraseIdx he
theorem MapT.delete {C : Kit} {t kt et : Nat} (hu : C.P.underlying t = some (.map kt et)) {α : Type} [DecidableEq α] {kv : α → Value} (hK : KeyT C kt kv) {b : Nat} {w : World} {L : List (α × Value)} (hm : MapIs w.heap[b]? (entA kv L)) (n : α) (ty t2 : Nat) :
    ∃ ob, (∀ x : World, x.heap = w.heap → (Builtin.delete_ #[t, t2] ty #[.map (some b), kv n]).run C.P x = .ok (.tuple #[]) (x.putObj b ob)) ∧ isCells ob = false ∧ MapIs (some ob) (entA kv (delA n L)) := by
  obtain ⟨es, clk, h1w, h2, hst⟩ := hm
  cases hf : fA n L 0 with
  | none =>
    refine ⟨.map es clk, fun x hx => ?_, rfl, _, _, rfl, ?_, hst⟩
    · have h1 : x.heap[b]? = some (.map es clk) := by rw [hx]; exact h1w
      simp [Builtin.delete_, Sem.run_bind, run_underlying' hu, run_getObj' h1, hK.ck, hK.find _ _ _ _ h2, hf, run_setObj' _ h1]
    · rw [delA, hf]; exact h2
  | some r =>
    obtain ⟨i, u⟩ := r
    refine ⟨.map (es.eraseIdxIfInBounds i) clk, fun x hx => ?_, rfl, _, _, rfl, ?_, hst.erase i⟩
    · have h1 : x.heap[b]? = some (.map es clk) := by rw [hx]; exact h1w
      simp [Builtin.delete_, Sem.run_bind, run_underlying' hu, run_getObj' h1, hK.ck, hK.find _ _ _ _ h2, hf, run_setObj' _ h1]
    · rw [delA, hf]
      obtain ⟨_, hi⟩ := fA_some hf
      have hl : (es.eraseIdxIfInBounds i).toList = es.toList.eraseIdx i := by
        unfold Array.eraseIdxIfInBounds
        split
        · simp
        · rename_i hi; rw [List.eraseIdx_of_length_le (by simpa using hi)]
      rw [hl, map_erase, h2, entA, entA, map_erase]
theorem XOpN.deleteMP {C : Kit} {fr : Fr} {hp : List Blk} {K : SV → List Blk → Prop} {t kt et t2 : Nat} {α : Type} [DecidableEq α] {kv : α → Value} {m k : Operand} {x : Nat} {kS : SV} {E E' : List (Value × Value)} {L : List (α × Value)} (hE : E = entA kv L) (hu : C.P.underlying t = some (.map kt et)) (hK : KeyT C kt kv)
    (em : ev fr hp m = some (.map x)) (ek : ev fr hp k = some kS) (hx : hp[x]? = some (.abs (MP E))) (n : α) (hn : ∀ ρ c, Den ρ kS c → c = kv n) (hE' : E' = entA kv (delA n L)) (hk : K (.tup []) (hp.set x (.abs (MP E')))) :
    XOpN C (.call { callee := .builtin .delete, args := #[m, k], argTypes := #[t, t2] }) fr hp K := by
  subst hE hE'
  refine ⟨fun ρ nt act w o ho hf hs => ?_⟩
  obtain ⟨b, hb, hm, hput⟩ := MP.at hs hx
  have e1 : act.eval m = .map (some b) := den_map (ev_sound hs hf em) hb
  have e2 : act.eval k = kv n := hn _ _ (ev_sound hs hf ek)
  obtain ⟨ob, h1, h2, h3⟩ := MapT.delete (C := C) hu hK hm n o.type t2
  refine ⟨.tuple #[], w.putObj b ob, rfl, fun d => .inl ?_, ρ, .tup [], _, Ext.refl _, .tup [] rfl (.nil rfl), hput ob _ h2 h3, Kept.put _ _ _, hk⟩
  have h1 := h1 { w with drawn := d } rfl
  obtain ⟨dst, op, type, pos, after, guard⟩ := o
  simp only at ho; subst ho
  simp only [execOp, resolve, Sem.run_bind, Sem.run_pure, Result.andThen_ok, invoke, builtin]
  simp [e1, e2, h1, Sem.run_bind]
  rfl
theorem XOpN.clearMP {C : Kit} {fr : Fr} {hp : List Blk} {K : SV → List Blk → Prop} {t kt et : Nat} {m : Operand} {x : Nat} {E : List (Value × Value)} (hu : C.P.underlying t = some (.map kt et))
    (em : ev fr hp m = some (.map x)) (hx : hp[x]? = some (.abs (MP E))) (hk : K (.tup []) (hp.set x (.abs (MP [])))) :
    XOpN C (.call { callee := .builtin .clear, args := #[m], argTypes := #[t] }) fr hp K := by
  refine ⟨fun ρ nt act w o ho hf hs => ?_⟩
  obtain ⟨b, hb, ⟨es, clk, h1, h2, h3⟩, hput⟩ := MP.at hs hx
  have e1 : act.eval m = .map (some b) := den_map (ev_sound hs hf em) hb
  refine ⟨.tuple #[], w.putObj b (.map #[] clk), rfl, fun d => .inl ?_, ρ, .tup [], _, Ext.refl _, .tup [] rfl (.nil rfl), hput (.map #[] clk) [] rfl ⟨_, _, rfl, rfl, by simp [StampOk]⟩, Kept.put _ _ _, hk⟩
  obtain ⟨dst, op, type, pos, after, guard⟩ := o
  simp only at ho; subst ho
  simp only [execOp, resolve, Sem.run_bind, Sem.run_pure, Result.andThen_ok, invoke, builtin]
  simp [e1, Builtin.clear_, Sem.run_bind, run_underlying' hu, run_getObj' (w := { w with drawn := d }) (b := b) h1, run_setObj' (w := { w with drawn := d }) (b := b) (.map #[] clk) h1]
  rfl
/-! ### Maps of things -/
def fP {α β : Type} [DecidableEq α] (n : α) : List (α × β) → Nat → Option (Nat × β)
  | [], _ => none
  | (a, v) :: r, i => if a = n then some (i, v) else fP n r (i + 1)
def putP {α β : Type} [DecidableEq α] (n : α) (v : β) (L : List (α × β)) : List (α × β) :=
  match fP n L 0 with
  | some (i, _) => L.set i (n, v)
  | none => L ++ [(n, v)]
def delP {α β : Type} [DecidableEq α] (n : α) (L : List (α × β)) : List (α × β) :=
  match fP n L 0 with
  | some (i, _) => L.eraseIdx i
  | none => L
def vm {α β : Type} (g : β → Value) (L : List (α × β)) : List (α × Value) := L.map fun x => (x.1, g x.2)
theorem fA_vm {α β : Type} [DecidableEq α] {g : β → Value} {n : α} : ∀ (L : List (α × β)) (i : Nat), fA n (vm g L) i = (fP n L i).map fun y => (y.1, g y.2)
  | [], i => rfl
  | (a, v) :: r, i => by
    have ih := fA_vm (g := g) (n := n) r (i + 1)
    unfold vm at ih ⊢
    rw [List.map_cons]
    unfold fA fP
    by_cases e : a = n
    · rw [if_pos e, if_pos e]; rfl
    · rw [if_neg e, if_neg e]; exact ih
theorem putA_vm {α β : Type} [DecidableEq α] {g : β → Value} {n : α} {v : β} (L : List (α × β)) : putA n (g v) (vm g L) = vm g (putP n v L) := by
  unfold putA putP
  rw [fA_vm]
  cases fP n L 0 with
  | none => simp [vm]
  | some x => simp [vm]
theorem delA_vm {α β : Type} [DecidableEq α] {g : β → Value} {n : α} (L : List (α × β)) : delA n (vm g L) = vm g (delP n L) := by
  unfold delA delP
  rw [fA_vm]
  cases fP n L 0 with
  | none => rfl
  | some x => simp only [Option.map_some]; unfold vm; rw [map_erase]
/-- Keys of two numbers. -/
def pairG (k1 k2 : IntKind) (x : Int × Int) : Value := .agg #[.int k1 x.1, .int k2 x.2]
theorem KeyT.pairG {C : Kit} {kt : Nat} {f1 f2 : Field} {q1 q2 : IntKind} (hu : C.P.underlying kt = some (.struct #[f1, f2])) (hf : flatP C.P 9 kt = some [some q1, some q2]) (o1 : f1.offset = 0) (o2 : f2.offset = 1)
    {k1 k2 : IntKind} (t1 : C.P.underlying f1.type = some (.int k1)) (t2 : C.P.underlying f2.type = some (.int k2)) (g1 : flatP C.P 9 f1.type = some [some q1]) (g2 : flatP C.P 9 f2.type = some [some q2]) : KeyT C kt (Vex.pairG q1 q2) := by
  have hagg : aggP C.P kt = true := by unfold aggP; rw [hu]
  have he : ∀ x y w, (Op.equal kt (Vex.pairG q1 q2 x) (Vex.pairG q1 q2 y)).run C.P w = .ok (decide (x = y)) w := by
    intro x y w
    have := EqAtP.all (P := C.P) 9 kt _ hf 10000 w (Vex.pairG q1 q2 x) (Vex.pairG q1 q2 y) [.int q1 x.1, .int q2 x.2] [.int q1 y.1, .int q2 y.2] (by omega) (by unfold WholeAt; rw [if_pos hagg]; rfl) (by unfold WholeAt; rw [if_pos hagg]; rfl) (by simp [fitsL, fits1]) (by simp [fitsL, fits1])
    refine this.trans ?_
    congr 1
    simp only [eqCs, eqC, Bool.and_true]
    obtain ⟨a, b⟩ := x
    obtain ⟨c, d⟩ := y
    simp only [Prod.mk.injEq]
    by_cases h1 : a = c <;> by_cases h2 : b = d <;> simp [h1, h2]
  have ci : ∀ (e : Bool) (t : Nat) (k k' : IntKind) (n : Int) (w : World) (m : Nat), C.P.underlying t = some (.int k') → (Instr.checkKey e (m + 1) t (.int k n)).run C.P w = .ok () w := by
    intro e t k k' n w m ht
    unfold Instr.checkKey
    rw [Sem.run_bind, run_underlying' ht w, Result.andThen_ok]
    rfl
  refine ⟨fun e x w => ?_, fun es L x w h => ?_, fun x => ?_⟩
  · show (Instr.checkKey e (9999 + 1) kt (Vex.pairG q1 q2 x)).run C.P w = .ok () w
    unfold Instr.checkKey
    rw [Sem.run_bind, run_underlying' hu w, Result.andThen_ok]
    obtain ⟨x1, h1, w1⟩ := run_partP g1 [.int q1 x.1, .int q2 x.2] 0 (by simp)
    obtain ⟨x2, h2, w2⟩ := run_partP g2 [.int q1 x.1, .int q2 x.2] 1 (by simp)
    have a1 : aggP C.P f1.type = false := by unfold aggP; rw [t1]
    have a2 : aggP C.P f2.type = false := by unfold aggP; rw [t2]
    unfold WholeAt at w1 w2
    rw [a1] at w1; rw [a2] at w2
    simp at w1 w2
    subst w1; subst w2
    have c1 := fun w => ci e f1.type q1 k1 x.1 w 9998 t1
    have c2 := fun w => ci e f2.type q2 k2 x.2 w 9998 t2
    simp only [Vex.pairG]
    by_cases n1 : f1.name = "_" <;> by_cases n2 : f2.name = "_" <;> simp [n1, n2, o1, o2, h1, h2, c1, c2, Sem.run_bind]
  · unfold Instr.findKey
    rw [Sem.run_bind, run_underlying' hu w, Result.andThen_ok]
    have : Instr.findNow (.struct #[f1, f2]) (Vex.pairG q1 q2 x) es 0 = match es with | [] => some none | _ => none := by
      cases es with
      | nil => rfl
      | cons e r => rfl
    rw [this]
    cases es with
    | nil =>
      cases L with
      | nil => rfl
      | cons y r => simp [entA] at h
    | cons e r => exact run_findAsking he x w 0 h
  · show Instr.sameBits (9998 + 1 + 1) _ _ = true
    unfold Vex.pairG Instr.sameBits
    simp [Instr.sameBits]
theorem den_pairG {ρ : Rho} {k1 k2 : IntKind} {a b : S Int} {c : Value} (h : Den ρ (.agg [.i k1 a, .i k2 b]) c) : c = pairG k1 k2 (a.val, b.val) := by
  cases h with
  | agg vs hc hl =>
    subst hc
    obtain ⟨c1, c2, rfl, h1, h2⟩ := hl.of_cons
    obtain ⟨d1, d2, rfl, h3, h4⟩ := h2.of_cons
    obtain ⟨x, rfl, _, hx⟩ := h1.single rfl
    obtain ⟨y, rfl, _, hy⟩ := h3.single rfl
    rw [h4.of_nil]
    cases hx with
    | i hx => cases hy with
      | i hy => subst hx hy; rfl
end
end Go.Vex
end

/-
  entry: permissions, Encode, Decode, Allows.
-/
section
namespace Go.Proofs.YtafhmkedblpdlaaDoor
open Go Go.Vex
set_option maxRecDepth 20000
set_option maxHeartbeats 4000000
theorem eqI_t {a b : Int} : eqI a b = true ↔ a = b := by rw [eqI_eq, beq_iff_eq]
theorem eqI_f {a b : Int} : eqI a b = false ↔ a ≠ b := by rw [eqI_eq, beq_eq_false_iff_ne]
theorem neI_t {a b : Int} : notB (eqI a b) = true ↔ a ≠ b := by rw [notB_eq, Bool.not_eq_true', eqI_f]
theorem neI_f {a b : Int} : notB (eqI a b) = false ↔ a = b := by rw [notB_eq, Bool.not_eq_false', eqI_t]
theorem ltI_t {a b : Int} : ltI a b = true ↔ a < b := by rw [ltI_eq, decide_eq_true_eq]
theorem ltI_f {a b : Int} : ltI a b = false ↔ b ≤ a := by rw [ltI_eq, decide_eq_false_iff_not]; omega
theorem leI_t {a b : Int} : leI a b = true ↔ a ≤ b := by rw [leI_eq, decide_eq_true_eq]
theorem leI_f {a b : Int} : leI a b = false ↔ b < a := by rw [leI_eq, decide_eq_false_iff_not]; omega
def permOk (p : Int) : Bool := p == 1 || p == 3 || p == 4 || p == 5 || p == 7
theorem all8 {P : Int → Prop} (h : ∀ n : Fin 256, P (n.val : Int)) {p : Int} (h0 : 0 ≤ p) (h1 : p < 256) : P p := by
  obtain ⟨n, rfl⟩ := Int.eq_ofNat_of_zero_le h0
  exact h ⟨n, by omega⟩
theorem p_clr7 {p : Int} (h0 : 0 ≤ p) (h1 : p < 256) : eqI (clrI .u8 p 7) 0 = decide (p < 8) := by
  rw [eqI_eq, clrI_eq]
  exact all8 (P := fun p => decide (IntKind.u8.wrap (BitVec.toNat (BitVec.ofInt 8 p &&& ~~~BitVec.ofInt 8 7) : Int) = 0) = decide (p < 8)) (by decide) h0 h1
theorem p_and5 {p : Int} (h0 : 0 ≤ p) (h1 : p < 256) : eqI (andI .u8 p 5) 0 = decide (p % 2 = 0 ∧ p / 4 % 2 = 0) := by
  rw [eqI_eq, andI_eq]
  exact all8 (P := fun p => decide (IntKind.u8.wrap (BitVec.toNat (BitVec.ofInt 8 p &&& BitVec.ofInt 8 5) : Int) = 0) = decide (p % 2 = 0 ∧ p / 4 % 2 = 0)) (by decide) h0 h1
theorem p_and2 {p : Int} (h0 : 0 ≤ p) (h1 : p < 256) : eqI (andI .u8 p 2) 0 = decide (p / 2 % 2 = 0) := by
  rw [eqI_eq, andI_eq]
  exact all8 (P := fun p => decide (IntKind.u8.wrap (BitVec.toNat (BitVec.ofInt 8 p &&& BitVec.ofInt 8 2) : Int) = 0) = decide (p / 2 % 2 = 0)) (by decide) h0 h1
theorem p_and1 {p : Int} (h0 : 0 ≤ p) (h1 : p < 256) : eqI (andI .u8 p 1) 0 = decide (p % 2 = 0) := by
  rw [eqI_eq, andI_eq]
  exact all8 (P := fun p => decide (IntKind.u8.wrap (BitVec.toNat (BitVec.ofInt 8 p &&& BitVec.ofInt 8 1) : Int) = 0) = decide (p % 2 = 0)) (by decide) h0 h1
theorem permOk_iff {p : Int} : permOk p = true ↔ p = 1 ∨ p = 3 ∨ p = 4 ∨ p = 5 ∨ p = 7 := by simp [permOk, or_assoc]
noncomputable def I93 : FnT := [(70, fi Tryd.f70 ⟨[], 0⟩)]
theorem I93ok : FnsOk kit I93 := ⟨fo70 _, trivial⟩
theorem perm_spec (p : Int) (hp : 0 ≤ p ∧ p < 256) {b : Bool} (hb : b = permOk p) : Spec1 kit 70 [.i .u8 (.ex p)] [] true (.b (.ex b)) [] [] := by
  refine Spec1.mk2 rfl fun F => ?_
  refine into I93ok 6 ?_
  conv => cbv
  refine Br.mk (fun hc => ?_) (fun hc => ?_)
  · have hc : eqI (clrI .u8 p 7) 0 = true := hc
    rw [p_clr7 hp.1 hp.2, decide_eq_true_eq] at hc
    conv => cbv
    refine Br.mk (fun hd => ?_) (fun hd => ?_)
    · have hd : notB (eqI (andI .u8 p 5) 0) = true := hd
      rw [notB_eq, p_and5 hp.1 hp.2, Bool.not_eq_true', decide_eq_false_iff_not] at hd
      conv => cbv
      refine Br.mk (fun he => ?_) (fun he => ?_)
      · have he : eqI (andI .u8 p 2) 0 = true := he
        rw [p_and2 hp.1 hp.2, decide_eq_true_eq] at he
        conv => cbv
        refine (LeOut.mk' [0] (by decide) rfl (by decide) ?_ (by cbv)).two
        conv => cbv
        rw [hb, permOk_iff]; omega
      · have he : eqI (andI .u8 p 2) 0 = false := he
        rw [p_and2 hp.1 hp.2, decide_eq_false_iff_not] at he
        conv => cbv
        refine (LeOut.mk' [0] (by decide) rfl (by decide) ?_ (by cbv)).two
        conv => cbv
        show b = notB (eqI (andI .u8 p 1) 0)
        rw [hb, notB_eq, p_and1 hp.1 hp.2, Bool.eq_iff_iff, permOk_iff]; simp only [Bool.not_eq_true', decide_eq_false_iff_not]; omega
    · have hd : notB (eqI (andI .u8 p 5) 0) = false := hd
      rw [notB_eq, p_and5 hp.1 hp.2, Bool.not_eq_false', decide_eq_true_eq] at hd
      conv => cbv
      refine (LeOut.mk' [0] (by decide) rfl (by decide) ?_ (by cbv)).two
      conv => cbv
      rw [hb, Bool.eq_false_iff, ne_eq, permOk_iff]; omega
  · have hc : eqI (clrI .u8 p 7) 0 = false := hc
    rw [p_clr7 hp.1 hp.2, decide_eq_false_iff_not] at hc
    conv => cbv
    refine (LeOut.mk' [0] (by decide) rfl (by decide) ?_ (by cbv)).two
    conv => cbv
    rw [hb, Bool.eq_false_iff, ne_eq, permOk_iff]; omega

/-! ### Encode -/
def encE (k p f : Int) : Int :=
  if k = 0 then (if p ≠ 0 then 41 else if 0 < f then 42 else 0)
  else if k = 1 then (if permOk p then (if 4095 < f then 42 else 0) else 41)
  else if k = 2 then (if p ≠ 0 then 41 else if 4095 < f then 42 else 0) else 40
def encW (k p f : Int) : Int := if encE k p f ≠ 0 then 0 else if k = 0 then 0 else if k = 1 then 4096 * f + 2 * p + 1 else 4096 * f + 17
noncomputable def I71 : FnT := [(54, fi Tryd.f54 ⟨[], 0⟩)]
theorem I71ok : FnsOk kit I71 := ⟨fo54 _, trivial⟩
theorem perm_q {p : Int} (hp : 0 ≤ p ∧ p < 256) {b : Bool} (hb : b = permOk p) {hp0 : List Blk} {K : SV → Prop} (hK : K (.b (.ex b))) : QCall kit 70 [.i .u8 (.ex p)] hp0 K := by
  refine QCall.of_call _ rfl (OkCall.by_spec (perm_spec p hp hb) [] (by decide) (by cbv) trivial ?_) hK
  conv => cbv
  trivial
theorem or_lo (k : Nat) (x c : Int) (hk : k ≤ 32) (h0 : 0 ≤ x) (h1 : x < (2 ^ k : Nat)) (c0 : 0 ≤ c) (hb : (2 ^ k : Nat) * c < 4294967296) : orI .u32 ((2 ^ k : Nat) * c) x = (2 ^ k : Nat) * c + x := by
  obtain ⟨n, rfl⟩ := Int.eq_ofNat_of_zero_le h0
  obtain ⟨m, rfl⟩ := Int.eq_ofNat_of_zero_le c0
  have hn : n < 2 ^ k := by omega
  have hm : 2 ^ k * m < 2 ^ 32 := by
    have : ((2 ^ k * m : Nat) : Int) < 4294967296 := by rw [Int.natCast_mul]; exact hb
    omega
  have h32 : n < 2 ^ 32 := Nat.lt_of_lt_of_le hn (Nat.pow_le_pow_right (by decide) hk)
  rw [← Int.natCast_mul, or_u32 hm h32, ← Nat.two_pow_add_eq_or_of_lt hn m]
  simp
theorem shl12 {f : Int} (hf : 0 ≤ f ∧ f ≤ 4095) : shlI .u32 f 12 = ((2 ^ 12 : Nat) : Int) * f := by rw [shlI_eq, wrap_u32]; show f * 4096 % _ = _; omega
theorem shl1 {p : Int} (hp : 0 ≤ p ∧ p < 256) : shlI .u32 (convI .u32 p) 1 = ((2 ^ 1 : Nat) : Int) * p := by rw [shlI_eq, convI_eq, wrap_u32, wrap_u32]; show p % _ * 2 % _ = _; omega
theorem or1 {p : Int} (hp : 0 ≤ p ∧ p < 256) : orI .u32 1 (((2 ^ 1 : Nat) : Int) * p) = 2 * p + 1 := by
  obtain ⟨n, rfl⟩ := Int.eq_ofNat_of_zero_le hp.1
  have e : (((2 ^ 1 : Nat) : Int) * (n : Int)) = ((2 ^ 1 * n : Nat) : Int) := by simp
  rw [e, show (1 : Int) = ((1 : Nat) : Int) from rfl, or_u32 (by decide) (by omega), Nat.or_comm, ← Nat.two_pow_add_eq_or_of_lt (i := 1) (by decide) n]
  simp
theorem enc_spec (k p f : Int) (hp : 0 ≤ p ∧ p < 256) (hf : 0 ≤ f ∧ f < 4294967296) {e w : Int} (he : e = encE k p f) (hw : w = encW k p f) :
    Spec1 kit 54 [.agg [.i .i64 (.ex k), .i .u8 (.ex p), .i .u32 (.ex f)]] [] false (.tup [.i .u32 (.ex w), .i .i64 (.ex e)]) [] [] := by
  refine Spec1.mk2 rfl fun F => ?_
  refine into I71ok 6 ?_
  conv => cbv
  refine Br.mk (fun hk => ?_) (fun hk => ?_)
  · have hk : k = 0 := eqI_t.1 hk
    conv => cbv
    refine Br.mk (fun h1 => ?_) (fun h1 => ?_)
    · have h1 : p ≠ 0 := neI_t.1 h1
      conv => cbv
      refine (LeOut.mk' [0] (by decide) rfl (by decide) ?_ (by cbv)).two
      conv => cbv
      exact ⟨by rw [hw]; simp [encW, encE, hk, h1], by rw [he]; simp [encE, hk, h1], trivial⟩
    · have h1 : p = 0 := neI_f.1 h1
      conv => cbv
      refine Br.mk (fun h2 => ?_) (fun h2 => ?_)
      · have h2 : 0 < f := ltI_t.1 h2
        conv => cbv
        refine (LeOut.mk' [0] (by decide) rfl (by decide) ?_ (by cbv)).two
        conv => cbv
        exact ⟨by rw [hw]; simp [encW, encE, hk, h1, h2], by rw [he]; simp [encE, hk, h1, h2], trivial⟩
      · have h2 : f ≤ 0 := ltI_f.1 h2
        have hf0 : f = 0 := by omega
        conv => cbv
        refine (LeOut.mk' [0] (by decide) rfl (by decide) ?_ (by cbv)).two
        conv => cbv
        refine ⟨?_, by rw [he]; simp [encE, hk, h1, hf0], trivial⟩
        have hw : w = _ := hw.trans (by simp [encW, encE, hk, h1, hf0]; rfl)
        show w = orI .u32 (shlI .u32 f 12) 0
        rw [hw, hf0, shlI_eq, orI_eq]; rfl
  · have hk0 : k ≠ 0 := eqI_f.1 hk
    conv => cbv
    refine Br.mk (fun hk => ?_) (fun hk => ?_)
    · have hk : k = 1 := eqI_t.1 hk
      obtain ⟨b, hb⟩ : ∃ b, b = permOk p := ⟨_, rfl⟩
      conv => cbv
      refine perm_q hp hb ?_
      conv => cbv
      refine Br.mk (fun h1 => ?_) (fun h1 => ?_)
      · have h1 : notB b = true := h1
        rw [notB_eq, Bool.not_eq_true'] at h1
        rw [h1] at hb
        conv => cbv
        refine (LeOut.mk' [0] (by decide) rfl (by decide) ?_ (by cbv)).two
        conv => cbv
        exact ⟨by rw [hw]; simp [encW, encE, hk, ← hb], by rw [he]; simp [encE, hk, ← hb], trivial⟩
      · have h1 : notB b = false := h1
        rw [notB_eq, Bool.not_eq_false'] at h1
        rw [h1] at hb
        conv => cbv
        refine Br.mk (fun h2 => ?_) (fun h2 => ?_)
        · have h2 : 4095 < f := ltI_t.1 h2
          conv => cbv
          refine (LeOut.mk' [0] (by decide) rfl (by decide) ?_ (by cbv)).two
          conv => cbv
          exact ⟨by rw [hw]; simp [encW, encE, hk, ← hb, h2], by rw [he]; simp [encE, hk, ← hb, h2], trivial⟩
        · have h2 : f ≤ 4095 := ltI_f.1 h2
          have h3 : ¬ 4095 < f := by omega
          conv => cbv
          refine (LeOut.mk' [0] (by decide) rfl (by decide) ?_ (by cbv)).two
          conv => cbv
          refine ⟨?_, by rw [he]; simp [encE, hk, ← hb, h3], trivial⟩
          have hw : w = _ := hw.trans (by simp [encW, encE, hk, ← hb, h3]; rfl)
          show w = orI .u32 (shlI .u32 f 12) (orI .u32 1 (shlI .u32 (convI .u32 p) 1))
          have hp7 := permOk_iff.1 hb.symm
          rw [shl12 ⟨hf.1, h2⟩, shl1 hp, or1 hp, or_lo 12 _ _ (by omega) (by omega) (by omega) hf.1 (by omega), hw]
          omega
    · have hk1 : k ≠ 1 := eqI_f.1 hk
      conv => cbv
      refine Br.mk (fun hk => ?_) (fun hk => ?_)
      · have hk : k = 2 := eqI_t.1 hk
        conv => cbv
        refine Br.mk (fun h1 => ?_) (fun h1 => ?_)
        · have h1 : p ≠ 0 := neI_t.1 h1
          conv => cbv
          refine (LeOut.mk' [0] (by decide) rfl (by decide) ?_ (by cbv)).two
          conv => cbv
          exact ⟨by rw [hw]; simp [encW, encE, hk, h1], by rw [he]; simp [encE, hk, h1], trivial⟩
        · have h1 : p = 0 := neI_f.1 h1
          conv => cbv
          refine Br.mk (fun h2 => ?_) (fun h2 => ?_)
          · have h2 : 4095 < f := ltI_t.1 h2
            conv => cbv
            refine (LeOut.mk' [0] (by decide) rfl (by decide) ?_ (by cbv)).two
            conv => cbv
            exact ⟨by rw [hw]; simp [encW, encE, hk, h1, h2], by rw [he]; simp [encE, hk, h1, h2], trivial⟩
          · have h2 : f ≤ 4095 := ltI_f.1 h2
            have h3 : ¬ 4095 < f := by omega
            conv => cbv
            refine (LeOut.mk' [0] (by decide) rfl (by decide) ?_ (by cbv)).two
            conv => cbv
            refine ⟨?_, by rw [he]; simp [encE, hk, h1, h3], trivial⟩
            have hw : w = _ := hw.trans (by simp [encW, encE, hk, h1, h3]; rfl)
            show w = orI .u32 (shlI .u32 f 12) 17
            rw [shl12 ⟨hf.1, h2⟩, or_lo 12 _ _ (by omega) (by omega) (by omega) hf.1 (by omega), hw]
            omega
      · have hk2 : k ≠ 2 := eqI_f.1 hk
        conv => cbv
        refine (LeOut.mk' [0] (by decide) rfl (by decide) ?_ (by cbv)).two
        conv => cbv
        exact ⟨by rw [hw]; simp [encW, encE, hk0, hk1, hk2], by rw [he]; simp [encE, hk0, hk1, hk2], trivial⟩
end Go.Proofs.YtafhmkedblpdlaaDoor
end

/-
  entry: Decode, Allows.
-/
section
namespace Go.Proofs.YtafhmkedblpdlaaDoor
open Go Go.Vex
set_option maxRecDepth 20000
set_option maxHeartbeats 4000000
def decE (w : Int) : Int :=
  if w = 0 then 0 else if w % 2 = 0 then 43 else if 32 ≤ w % 4096 then 43 else encE (if w / 16 % 2 = 1 then 2 else 1) (w % 16 / 2) (w / 4096)
def decK (w : Int) : Int := if w = 0 then 0 else if decE w ≠ 0 then 0 else if w / 16 % 2 = 1 then 2 else 1
def decP (w : Int) : Int := if decE w ≠ 0 then 0 else w % 16 / 2
def decF (w : Int) : Int := if decE w ≠ 0 then 0 else w / 4096
theorem w_and1 {w : Int} (h : 0 ≤ w ∧ w < 4294967296) : andI .u32 w 1 = w % 2 := mask_u32 1 (by decide) h.1 h.2
theorem w_and4095 {w : Int} (h : 0 ≤ w ∧ w < 4294967296) : andI .u32 w 4095 = w % 4096 := mask_u32 12 (by decide) h.1 h.2
theorem w_and14 {w : Int} (h : 0 ≤ w ∧ w < 4294967296) : shrI .u32 (andI .u32 w 14) 1 = w % 16 / 2 := by
  obtain ⟨n, rfl⟩ := Int.eq_ofNat_of_zero_le h.1
  rw [show (14 : Int) = ((14 : Nat) : Int) from rfl, and_u32 (by omega) (by decide)]
  have := shrI_u32 ((n &&& 14 : Nat) : Int) 1 (by decide)
  rw [show ((1 : Nat) : Int) = 1 from rfl] at this
  rw [this]
  have e : (n &&& 14) / 2 = n % 16 / 2 := by
    have h1 : (n &&& 14) / 2 = n / 2 &&& 14 / 2 := Nat.and_div_two
    rw [h1, show (14 / 2 : Nat) = 2 ^ 3 - 1 by decide, Nat.and_two_pow_sub_one_eq_mod]
    omega
  omega
theorem w_and16 {w : Int} (h : 0 ≤ w ∧ w < 4294967296) : andI .u32 w 16 ≠ 0 ↔ w / 16 % 2 = 1 := by
  obtain ⟨n, rfl⟩ := Int.eq_ofNat_of_zero_le h.1
  rw [show (16 : Int) = ((16 : Nat) : Int) from rfl, and_u32 (by omega) (by decide)]
  have ht : n.testBit 4 = decide (n / 16 % 2 = 1) := Nat.testBit_eq_decide_div_mod_eq
  by_cases hb : n / 16 % 2 = 1
  · have h1 : (n &&& 16) ≠ 0 := by
      intro h0
      have : (n &&& 16).testBit 4 = true := by rw [Nat.testBit_and, ht, decide_eq_true hb]; decide
      rw [h0] at this; simp at this
    omega
  · have h1 : (n &&& 16) = 0 := by
      apply Nat.eq_of_testBit_eq
      intro i
      rw [Nat.testBit_and, show (16 : Nat) = 2 ^ 4 by decide, Nat.testBit_two_pow, Nat.zero_testBit]
      by_cases hi : 4 = i
      · subst hi; rw [ht, decide_eq_false hb]; rfl
      · simp [hi]
    omega
theorem w_clr31 {x : Int} (h : 0 ≤ x ∧ x < 4096) : clrI .u32 x 31 ≠ 0 ↔ 32 ≤ x := by
  obtain ⟨n, rfl⟩ := Int.eq_ofNat_of_zero_le h.1
  rw [clrI_eq]
  show IntKind.u32.wrap ((BitVec.ofInt 32 (n : Int) &&& ~~~ BitVec.ofInt 32 ((31 : Nat) : Int)).toNat : Int) ≠ 0 ↔ _
  rw [BitVec.ofInt_natCast, BitVec.ofInt_natCast]
  have e : (BitVec.ofNat 32 n &&& ~~~BitVec.ofNat 32 31) = BitVec.ofNat 32 (n / 2 ^ 5 * 2 ^ 5) := by
    apply BitVec.eq_of_getLsbD_eq
    intro i hi
    simp only [BitVec.getLsbD_and, BitVec.getLsbD_not, BitVec.getLsbD_ofNat, hi, decide_true, Bool.true_and]
    rw [Nat.testBit_mul_two_pow, Nat.testBit_div_two_pow, show (31 : Nat) = 2 ^ 5 - 1 by decide, Nat.testBit_two_pow_sub_one]
    by_cases h5 : i < 5
    · simp [h5, Nat.not_le.2 h5]
    · have : 5 ≤ i := by omega
      simp [h5, this]
  rw [e, BitVec.toNat_ofNat, wrap_u32]
  have h2 : n / 2 ^ 5 * 2 ^ 5 ≤ n := Nat.div_mul_le_self _ _
  rw [Nat.mod_eq_of_lt (by omega)]
  omega
noncomputable def I51 : FnT := [(36, fi Tryd.f36 ⟨[], 0⟩)]
theorem I51ok : FnsOk kit I51 := ⟨fo36 _, trivial⟩
theorem dec_spec (w : Int) (hw : 0 ≤ w ∧ w < 4294967296) {k p f e : Int} (hk : k = decK w) (hp : p = decP w) (hf : f = decF w) (he : e = decE w) :
    Spec1 kit 36 [.i .u32 (.ex w)] [] false (.tup [.agg [.i .i64 (.ex k), .i .u8 (.ex p), .i .u32 (.ex f)], .i .i64 (.ex e)]) [] [] := by
  refine Spec1.mk2 rfl fun F => ?_
  refine into I51ok 6 ?_
  conv => cbv
  refine Br.mk (fun h0 => ?_) (fun h0 => ?_)
  · have h0 : w = 0 := eqI_t.1 h0
    conv => cbv
    refine (LeOut.mk' [0] (by decide) rfl (by decide) ?_ (by cbv)).two
    conv => cbv
    have hd : decE w = 0 := by simp [decE, h0]
    exact ⟨⟨by rw [hk, decK, if_pos h0], by rw [hp, decP, hd, h0]; rfl, by rw [hf, decF, hd, h0]; rfl, trivial⟩, by rw [he, hd], trivial⟩
  · have h0 : w ≠ 0 := eqI_f.1 h0
    conv => cbv
    refine Br.mk (fun h1 => ?_) (fun h1 => ?_)
    · have h1 : andI .u32 w 1 = 0 := eqI_t.1 h1
      rw [w_and1 hw] at h1
      conv => cbv
      refine (LeOut.mk' [0] (by decide) rfl (by decide) ?_ (by cbv)).two
      conv => cbv
      have hd : decE w = 43 := by simp [decE, h0, h1]
      exact ⟨⟨by rw [hk, decK, if_neg h0, hd]; rfl, by rw [hp, decP, hd]; rfl, by rw [hf, decF, hd]; rfl, trivial⟩, by rw [he, hd], trivial⟩
    · have h1 : andI .u32 w 1 ≠ 0 := eqI_f.1 h1
      rw [w_and1 hw] at h1
      conv => cbv
      refine Br.mk (fun h2 => ?_) (fun h2 => ?_)
      · have h2 : clrI .u32 (andI .u32 w 4095) 31 ≠ 0 := neI_t.1 h2
        rw [w_and4095 hw, w_clr31 (by omega)] at h2
        conv => cbv
        refine (LeOut.mk' [0] (by decide) rfl (by decide) ?_ (by cbv)).two
        conv => cbv
        have hd : decE w = 43 := by rw [decE, if_neg h0, if_neg h1, if_pos h2]
        exact ⟨⟨by rw [hk, decK, if_neg h0, hd]; rfl, by rw [hp, decP, hd]; rfl, by rw [hf, decF, hd]; rfl, trivial⟩, by rw [he, hd], trivial⟩
      · have h2 : clrI .u32 (andI .u32 w 4095) 31 = 0 := neI_f.1 h2
        have h2 : ¬ 32 ≤ w % 4096 := by
          intro h3
          rw [w_and4095 hw] at h2
          exact (w_clr31 (by omega)).2 h3 h2
        have hpv : convI .u8 (shrI .u32 (andI .u32 w 14) 1) = w % 16 / 2 := by rw [w_and14 hw, convI_eq, wrap_u8]; omega
        have hfv : shrI .u32 w 12 = w / 4096 := shrI_u32 w 12 (by decide)
        have hE : decE w = encE (if w / 16 % 2 = 1 then 2 else 1) (w % 16 / 2) (w / 4096) := by rw [decE, if_neg h0, if_neg h1, if_neg h2]
        obtain ⟨pv, hpv'⟩ : ∃ x, w % 16 / 2 = x := ⟨_, rfl⟩
        obtain ⟨fv, hfv'⟩ : ∃ x, w / 4096 = x := ⟨_, rfl⟩
        conv => cbv
        refine Br.mk (fun h3 => ?_) (fun h3 => ?_)
        · have h3 : andI .u32 w 16 ≠ 0 := neI_t.1 h3
          rw [w_and16 hw] at h3
          rw [if_pos h3, hpv', hfv'] at hE
          conv => cbv
          have hs := enc_spec 2 pv fv (by omega) (by omega) (e := encE 2 pv fv) (w := encW 2 pv fv) rfl rfl
          obtain ⟨e2, he2⟩ : ∃ x, encE 2 pv fv = x := ⟨_, rfl⟩
          obtain ⟨w2, hw2⟩ : ∃ x, encW 2 pv fv = x := ⟨_, rfl⟩
          rw [he2, hw2] at hs
          rw [he2] at hE
          refine OkCall.by_spec hs [] (by decide) ?_ trivial ?_
          · conv => cbv
            exact ⟨⟨(hpv.trans hpv').symm, (hfv.trans hfv').symm, trivial⟩, trivial⟩
          conv => cbv
          refine Br.mk (fun h4 => ?_) (fun h4 => ?_)
          · have h4 : e2 ≠ 0 := neI_t.1 h4
            conv => cbv
            refine (LeOut.mk' [0] (by decide) rfl (by decide) ?_ (by cbv)).two
            conv => cbv
            exact ⟨⟨by rw [hk, decK, if_neg h0, hE, if_pos h4], by rw [hp, decP, hE, if_pos h4], by rw [hf, decF, hE, if_pos h4], trivial⟩, by rw [he, hE], trivial⟩
          · have h4 : e2 = 0 := neI_f.1 h4
            conv => cbv
            refine (LeOut.mk' [0] (by decide) rfl (by decide) ?_ (by cbv)).two
            conv => cbv
            have hE0 : decE w = 0 := hE.trans h4
            exact ⟨⟨by rw [hk, decK, if_neg h0, hE0, if_neg (by decide), if_pos h3], by rw [hp, decP, hE0, if_neg (by decide)]; exact hpv.symm, by rw [hf, decF, hE0, if_neg (by decide)]; exact hfv.symm, trivial⟩, by rw [he, hE0], trivial⟩
        · have h3 : andI .u32 w 16 = 0 := neI_f.1 h3
          have h3 : ¬ w / 16 % 2 = 1 := fun h4 => (w_and16 hw).2 h4 h3
          rw [if_neg h3, hpv', hfv'] at hE
          conv => cbv
          have hs := enc_spec 1 pv fv (by omega) (by omega) (e := encE 1 pv fv) (w := encW 1 pv fv) rfl rfl
          obtain ⟨e2, he2⟩ : ∃ x, encE 1 pv fv = x := ⟨_, rfl⟩
          obtain ⟨w2, hw2⟩ : ∃ x, encW 1 pv fv = x := ⟨_, rfl⟩
          rw [he2, hw2] at hs
          rw [he2] at hE
          refine OkCall.by_spec hs [] (by decide) ?_ trivial ?_
          · conv => cbv
            exact ⟨⟨(hpv.trans hpv').symm, (hfv.trans hfv').symm, trivial⟩, trivial⟩
          conv => cbv
          refine Br.mk (fun h4 => ?_) (fun h4 => ?_)
          · have h4 : e2 ≠ 0 := neI_t.1 h4
            conv => cbv
            refine (LeOut.mk' [0] (by decide) rfl (by decide) ?_ (by cbv)).two
            conv => cbv
            exact ⟨⟨by rw [hk, decK, if_neg h0, hE, if_pos h4], by rw [hp, decP, hE, if_pos h4], by rw [hf, decF, hE, if_pos h4], trivial⟩, by rw [he, hE], trivial⟩
          · have h4 : e2 = 0 := neI_f.1 h4
            conv => cbv
            refine (LeOut.mk' [0] (by decide) rfl (by decide) ?_ (by cbv)).two
            conv => cbv
            have hE0 : decE w = 0 := hE.trans h4
            exact ⟨⟨by rw [hk, decK, if_neg h0, hE0, if_neg (by decide), if_neg h3], by rw [hp, decP, hE0, if_neg (by decide)]; exact hpv.symm, by rw [hf, decF, hE0, if_neg (by decide)]; exact hfv.symm, trivial⟩, by rw [he, hE0], trivial⟩

/-! ### Allows -/
def allowB (p a : Int) : Bool := (a == 1 && p % 2 == 1) || (a == 2 && p / 2 % 2 == 1) || (a == 3 && p / 4 % 2 == 1)
noncomputable def I21 : FnT := [(74, fi Tryd.f74 ⟨[], 0⟩), (79, fi Tryd.f79 ⟨[], 0⟩)]
theorem I21ok : FnsOk kit I21 := ⟨fo74 _, fo79 _, trivial⟩
theorem OkCall.args {C : Kit} {f : Nat} {args args' : List SV} {hp : List Blk} {K : Bool → SV → List Blk → Prop} (hl : leL args args') (h : OkCall C f args' hp K) : OkCall C f args hp K :=
  ⟨h.ok, fun ρ w vals hd hs => h.out ρ w vals (leL.denT hd hl) hs⟩
theorem p_and4 {p : Int} (h0 : 0 ≤ p) (h1 : p < 256) : notB (eqI (andI .u8 p 4) 0) = (p / 4 % 2 == 1) := by
  rw [notB_eq, eqI_eq, andI_eq]
  exact all8 (P := fun p => (!decide (IntKind.u8.wrap (BitVec.toNat (BitVec.ofInt 8 p &&& BitVec.ofInt 8 4) : Int) = 0)) = (p / 4 % 2 == 1)) (by decide) h0 h1
theorem p_and2' {p : Int} (h0 : 0 ≤ p) (h1 : p < 256) : notB (eqI (andI .u8 p 2) 0) = (p / 2 % 2 == 1) := by
  rw [notB_eq, eqI_eq, andI_eq]
  exact all8 (P := fun p => (!decide (IntKind.u8.wrap (BitVec.toNat (BitVec.ofInt 8 p &&& BitVec.ofInt 8 2) : Int) = 0)) = (p / 2 % 2 == 1)) (by decide) h0 h1
theorem p_and1' {p : Int} (h0 : 0 ≤ p) (h1 : p < 256) : notB (eqI (andI .u8 p 1) 0) = (p % 2 == 1) := by
  rw [notB_eq, eqI_eq, andI_eq]
  exact all8 (P := fun p => (!decide (IntKind.u8.wrap (BitVec.toNat (BitVec.ofInt 8 p &&& BitVec.ofInt 8 1) : Int) = 0)) = (p % 2 == 1)) (by decide) h0 h1
theorem allow_spec (p a : Int) (hp : 0 ≤ p ∧ p < 256) {b : Bool} (hb : b = allowB p a) : Spec1 kit 74 [.i .u8 (.ex p), .i .i64 (.ex a)] [] false (.b (.ex b)) [] [] := by
  refine Spec1.mk2 rfl fun F => ?_
  by_cases h1 : a = 1
  · refine OkCall.args (args' := [.i .u8 (.ex p), .i .i64 (.lit 1)]) ⟨⟨rfl, rfl⟩, ⟨rfl, by rw [h1]; rfl⟩, trivial⟩ ?_
    refine into I21ok 6 ?_
    conv => cbv
    refine (LeOut.mk' [0] (by decide) rfl (by decide) ?_ (by cbv)).two
    conv => cbv
    show b = notB (eqI (andI .u8 p 1) 0)
    rw [p_and1' hp.1 hp.2, hb, h1]; simp [allowB]
  by_cases h2 : a = 2
  · refine OkCall.args (args' := [.i .u8 (.ex p), .i .i64 (.lit 2)]) ⟨⟨rfl, rfl⟩, ⟨rfl, by rw [h2]; rfl⟩, trivial⟩ ?_
    refine into I21ok 6 ?_
    conv => cbv
    refine (LeOut.mk' [0] (by decide) rfl (by decide) ?_ (by cbv)).two
    conv => cbv
    show b = notB (eqI (andI .u8 p 2) 0)
    rw [p_and2' hp.1 hp.2, hb, h2]; simp [allowB]
  by_cases h3 : a = 3
  · refine OkCall.args (args' := [.i .u8 (.ex p), .i .i64 (.lit 3)]) ⟨⟨rfl, rfl⟩, ⟨rfl, by rw [h3]; rfl⟩, trivial⟩ ?_
    refine into I21ok 6 ?_
    conv => cbv
    refine (LeOut.mk' [0] (by decide) rfl (by decide) ?_ (by cbv)).two
    conv => cbv
    show b = notB (eqI (andI .u8 p 4) 0)
    rw [p_and4 hp.1 hp.2, hb, h3]; simp [allowB]
  have hb0 : b = false := by rw [hb]; simp [allowB, h1, h2, h3]
  refine into I21ok 6 ?_
  conv => cbv
  refine Br.mk (fun h4 => ?_) (fun h4 => ?_)
  · have h4 : 0 < a := ltI_t.1 h4
    conv => cbv
    refine Br.no (show ltI a 4 = false from ltI_f.2 (by omega)) ?_
    conv => cbv
    refine (LeOut.mk' [0] (by decide) rfl (by decide) ?_ (by cbv)).two
    conv => cbv
    exact hb0
  · have h4 : a ≤ 0 := ltI_f.1 h4
    conv => cbv
    refine (LeOut.mk' [0] (by decide) rfl (by decide) ?_ (by cbv)).two
    conv => cbv
    exact hb0
end Go.Proofs.YtafhmkedblpdlaaDoor
end

/-
  cache: a set's lines, found and put ahead.
-/
section
namespace Go.Proofs.YtafhmkedblpdlaaDoor
open Go Go.Vex
set_option maxRecDepth 20000
set_option maxHeartbeats 4000000
/-- A set's row: eight lines (tag, dirty), how many there are. -/
noncomputable def rowS (T D : Nat → List Int) (M : Nat → Int) (k : Nat) : List SV :=
  [.i .u32 (.ex (gi (T k) 0)), .b (.ex (eqI (gi (D k) 0) 1)), .i .u32 (.ex (gi (T k) 1)), .b (.ex (eqI (gi (D k) 1) 1)), .i .u32 (.ex (gi (T k) 2)), .b (.ex (eqI (gi (D k) 2) 1)), .i .u32 (.ex (gi (T k) 3)), .b (.ex (eqI (gi (D k) 3) 1)),
   .i .u32 (.ex (gi (T k) 4)), .b (.ex (eqI (gi (D k) 4) 1)), .i .u32 (.ex (gi (T k) 5)), .b (.ex (eqI (gi (D k) 5) 1)), .i .u32 (.ex (gi (T k) 6)), .b (.ex (eqI (gi (D k) 6) 1)), .i .u32 (.ex (gi (T k) 7)), .b (.ex (eqI (gi (D k) 7) 1)), .i .i64 (.ex (M k))]
/-- A cache's cells. -/
noncomputable abbrev caB (S W L : Int) (T D : Nat → List Int) (M : Nat → Int) : Blk := .cells 134 [.i .i64 (.ex S), .i .i64 (.ex W), .i .i64 (.ex L), .rows 17 (.lit 256) (rowS T D M)]
noncomputable def Im66 : FnT := [(66, fi Tryd.f66 ⟨[], 0⟩), (76, fi Tryd.f76 ⟨[], 9⟩), (77, fi Tryd.f77 ⟨[], 0⟩)]
theorem Im66ok : FnsOk kit Im66 := ⟨fo66 _, fo76 _, fo77 _, trivial⟩
def findR (l : List Int) (m : Nat) (tag : Int) : Int := match (List.range m).find? (fun j => decide (l.getD j 0 = tag)) with
  | some j => j
  | none => -1
theorem rowS_le (T D : Nat → List Int) (M : Nat → Int) (τ : Nat → Nat) (j : Nat) : leL (rowS T D M j) (renL τ (rowS T D M j)) :=
  ⟨⟨rfl, rfl⟩, rfl, ⟨rfl, rfl⟩, rfl, ⟨rfl, rfl⟩, rfl, ⟨rfl, rfl⟩, rfl, ⟨rfl, rfl⟩, rfl, ⟨rfl, rfl⟩, rfl, ⟨rfl, rfl⟩, rfl, ⟨rfl, rfl⟩, rfl, ⟨rfl, rfl⟩, trivial⟩
theorem findR_some {l : List Int} {m j : Nat} {tag : Int} (hj : j < m) (h : l.getD j 0 = tag) (hb : ∀ i, i < j → l.getD i 0 ≠ tag) : findR l m tag = j := by
  have : (List.range m).find? (fun j => decide (l.getD j 0 = tag)) = some j := by
    rw [List.find?_range_eq_some]
    exact ⟨by simpa using h, by simpa using hj, fun i hi => by simpa using hb i hi⟩
  rw [findR, this]
theorem findR_none {l : List Int} {m : Nat} {tag : Int} (hb : ∀ i, i < m → l.getD i 0 ≠ tag) : findR l m tag = -1 := by
  have : (List.range m).find? (fun j => decide (l.getD j 0 = tag)) = none := by
    rw [List.find?_eq_none]
    intro i hi
    simpa using hb i (by simpa using hi)
  rw [findR, this]
theorem find_spec (S W L : Int) (T D : Nat → List Int) (M : Nat → Int) (k m : Nat) (tag : Int) (hk : k < 256) (hm : M k = m) (hm8 : m ≤ 8) {r : Int} (hr : r = findR (T k) m tag) :
    Spec1 kit 66 [.p 0 (.row 3 k 17 0), .i .u32 (.ex tag)] [caB S W L T D M] false (.i .i64 (.ex r)) [caB S W L T D M] [] := by
  refine Spec1.mk2 rfl fun F => ?_
  refine into Im66ok 6 ?_
  conv => cbv
  refine ⟨nLt.mk hk, leR.mk (by rw [hm]; omega) (by rw [hm]; omega), ?_⟩
  have hlen : ofN (toN (M k)) = m := by rw [ofN_eq, toN_eq, hm]; omega
  refine Br.mk (fun h => ?_) (fun h => ?_)
  · have h0 : 0 < m := by have h : (0 : Int) < ofN (toN (M k)) := ltI_t.1 h; rw [hlen] at h; omega
    conv => cbv
    refine ⟨inR.mk (by decide) (by show (0 : Int) < ((toN (M k) : Nat) : Int); rw [toN_eq, hm]; omega), nLt.mk hk, Br.mk (fun e => ?_) (fun e => ?_)⟩
    · have e0 : (T k).getD 0 0 = tag := by rw [← gi_eq]; exact eqI_t.1 e
      conv => cbv
      refine (LeOut.mk' [0, 1] (by decide) (by rfl) (by decide) ?_ ?_).two
      · conv => cbv
        show r = 0
        rw [hr]; exact findR_some (j := 0) h0 e0 (fun i hi => absurd hi (by omega))
      · conv => cbv
        exact ⟨⟨fun j _ => rowS_le _ _ _ _ _, trivial⟩, trivial⟩
    · have e0 : (T k).getD 0 0 ≠ tag := by rw [← gi_eq]; exact eqI_f.1 e
      conv => cbv
      refine Br.mk (fun h => ?_) (fun h => ?_)
      · have h1 : 1 < m := by have h : (1 : Int) < ofN (toN (M k)) := ltI_t.1 h; rw [hlen] at h; omega
        conv => cbv
        refine ⟨inR.mk (by decide) (by show (1 : Int) < ((toN (M k) : Nat) : Int); rw [toN_eq, hm]; omega), nLt.mk hk, Br.mk (fun e => ?_) (fun e => ?_)⟩
        · have e1 : (T k).getD 1 0 = tag := by rw [← gi_eq]; exact eqI_t.1 e
          conv => cbv
          refine (LeOut.mk' [0, 1] (by decide) (by rfl) (by decide) ?_ ?_).two
          · conv => cbv
            show r = 1
            rw [hr]; exact findR_some (j := 1) h1 e1 (fun i hi => by match i, hi with | 0, _ => exact e0 | (n + 1), hi => exact absurd hi (by omega))
          · conv => cbv
            exact ⟨⟨fun j _ => rowS_le _ _ _ _ _, trivial⟩, trivial⟩
        · have e1 : (T k).getD 1 0 ≠ tag := by rw [← gi_eq]; exact eqI_f.1 e
          conv => cbv
          refine Br.mk (fun h => ?_) (fun h => ?_)
          · have h2 : 2 < m := by have h : (2 : Int) < ofN (toN (M k)) := ltI_t.1 h; rw [hlen] at h; omega
            conv => cbv
            refine ⟨inR.mk (by decide) (by show (2 : Int) < ((toN (M k) : Nat) : Int); rw [toN_eq, hm]; omega), nLt.mk hk, Br.mk (fun e => ?_) (fun e => ?_)⟩
            · have e2 : (T k).getD 2 0 = tag := by rw [← gi_eq]; exact eqI_t.1 e
              conv => cbv
              refine (LeOut.mk' [0, 1] (by decide) (by rfl) (by decide) ?_ ?_).two
              · conv => cbv
                show r = 2
                rw [hr]; exact findR_some (j := 2) h2 e2 (fun i hi => by match i, hi with | 0, _ => exact e0 | 1, _ => exact e1 | (n + 2), hi => exact absurd hi (by omega))
              · conv => cbv
                exact ⟨⟨fun j _ => rowS_le _ _ _ _ _, trivial⟩, trivial⟩
            · have e2 : (T k).getD 2 0 ≠ tag := by rw [← gi_eq]; exact eqI_f.1 e
              conv => cbv
              refine Br.mk (fun h => ?_) (fun h => ?_)
              · have h3 : 3 < m := by have h : (3 : Int) < ofN (toN (M k)) := ltI_t.1 h; rw [hlen] at h; omega
                conv => cbv
                refine ⟨inR.mk (by decide) (by show (3 : Int) < ((toN (M k) : Nat) : Int); rw [toN_eq, hm]; omega), nLt.mk hk, Br.mk (fun e => ?_) (fun e => ?_)⟩
                · have e3 : (T k).getD 3 0 = tag := by rw [← gi_eq]; exact eqI_t.1 e
                  conv => cbv
                  refine (LeOut.mk' [0, 1] (by decide) (by rfl) (by decide) ?_ ?_).two
                  · conv => cbv
                    show r = 3
                    rw [hr]; exact findR_some (j := 3) h3 e3 (fun i hi => by match i, hi with | 0, _ => exact e0 | 1, _ => exact e1 | 2, _ => exact e2 | (n + 3), hi => exact absurd hi (by omega))
                  · conv => cbv
                    exact ⟨⟨fun j _ => rowS_le _ _ _ _ _, trivial⟩, trivial⟩
                · have e3 : (T k).getD 3 0 ≠ tag := by rw [← gi_eq]; exact eqI_f.1 e
                  conv => cbv
                  refine Br.mk (fun h => ?_) (fun h => ?_)
                  · have h4 : 4 < m := by have h : (4 : Int) < ofN (toN (M k)) := ltI_t.1 h; rw [hlen] at h; omega
                    conv => cbv
                    refine ⟨inR.mk (by decide) (by show (4 : Int) < ((toN (M k) : Nat) : Int); rw [toN_eq, hm]; omega), nLt.mk hk, Br.mk (fun e => ?_) (fun e => ?_)⟩
                    · have e4 : (T k).getD 4 0 = tag := by rw [← gi_eq]; exact eqI_t.1 e
                      conv => cbv
                      refine (LeOut.mk' [0, 1] (by decide) (by rfl) (by decide) ?_ ?_).two
                      · conv => cbv
                        show r = 4
                        rw [hr]; exact findR_some (j := 4) h4 e4 (fun i hi => by match i, hi with | 0, _ => exact e0 | 1, _ => exact e1 | 2, _ => exact e2 | 3, _ => exact e3 | (n + 4), hi => exact absurd hi (by omega))
                      · conv => cbv
                        exact ⟨⟨fun j _ => rowS_le _ _ _ _ _, trivial⟩, trivial⟩
                    · have e4 : (T k).getD 4 0 ≠ tag := by rw [← gi_eq]; exact eqI_f.1 e
                      conv => cbv
                      refine Br.mk (fun h => ?_) (fun h => ?_)
                      · have h5 : 5 < m := by have h : (5 : Int) < ofN (toN (M k)) := ltI_t.1 h; rw [hlen] at h; omega
                        conv => cbv
                        refine ⟨inR.mk (by decide) (by show (5 : Int) < ((toN (M k) : Nat) : Int); rw [toN_eq, hm]; omega), nLt.mk hk, Br.mk (fun e => ?_) (fun e => ?_)⟩
                        · have e5 : (T k).getD 5 0 = tag := by rw [← gi_eq]; exact eqI_t.1 e
                          conv => cbv
                          refine (LeOut.mk' [0, 1] (by decide) (by rfl) (by decide) ?_ ?_).two
                          · conv => cbv
                            show r = 5
                            rw [hr]; exact findR_some (j := 5) h5 e5 (fun i hi => by match i, hi with | 0, _ => exact e0 | 1, _ => exact e1 | 2, _ => exact e2 | 3, _ => exact e3 | 4, _ => exact e4 | (n + 5), hi => exact absurd hi (by omega))
                          · conv => cbv
                            exact ⟨⟨fun j _ => rowS_le _ _ _ _ _, trivial⟩, trivial⟩
                        · have e5 : (T k).getD 5 0 ≠ tag := by rw [← gi_eq]; exact eqI_f.1 e
                          conv => cbv
                          refine Br.mk (fun h => ?_) (fun h => ?_)
                          · have h6 : 6 < m := by have h : (6 : Int) < ofN (toN (M k)) := ltI_t.1 h; rw [hlen] at h; omega
                            conv => cbv
                            refine ⟨inR.mk (by decide) (by show (6 : Int) < ((toN (M k) : Nat) : Int); rw [toN_eq, hm]; omega), nLt.mk hk, Br.mk (fun e => ?_) (fun e => ?_)⟩
                            · have e6 : (T k).getD 6 0 = tag := by rw [← gi_eq]; exact eqI_t.1 e
                              conv => cbv
                              refine (LeOut.mk' [0, 1] (by decide) (by rfl) (by decide) ?_ ?_).two
                              · conv => cbv
                                show r = 6
                                rw [hr]; exact findR_some (j := 6) h6 e6 (fun i hi => by match i, hi with | 0, _ => exact e0 | 1, _ => exact e1 | 2, _ => exact e2 | 3, _ => exact e3 | 4, _ => exact e4 | 5, _ => exact e5 | (n + 6), hi => exact absurd hi (by omega))
                              · conv => cbv
                                exact ⟨⟨fun j _ => rowS_le _ _ _ _ _, trivial⟩, trivial⟩
                            · have e6 : (T k).getD 6 0 ≠ tag := by rw [← gi_eq]; exact eqI_f.1 e
                              conv => cbv
                              refine Br.mk (fun h => ?_) (fun h => ?_)
                              · have h7 : 7 < m := by have h : (7 : Int) < ofN (toN (M k)) := ltI_t.1 h; rw [hlen] at h; omega
                                conv => cbv
                                refine ⟨inR.mk (by decide) (by show (7 : Int) < ((toN (M k) : Nat) : Int); rw [toN_eq, hm]; omega), nLt.mk hk, Br.mk (fun e => ?_) (fun e => ?_)⟩
                                · have e7 : (T k).getD 7 0 = tag := by rw [← gi_eq]; exact eqI_t.1 e
                                  conv => cbv
                                  refine (LeOut.mk' [0, 1] (by decide) (by rfl) (by decide) ?_ ?_).two
                                  · conv => cbv
                                    show r = 7
                                    rw [hr]; exact findR_some (j := 7) h7 e7 (fun i hi => by match i, hi with | 0, _ => exact e0 | 1, _ => exact e1 | 2, _ => exact e2 | 3, _ => exact e3 | 4, _ => exact e4 | 5, _ => exact e5 | 6, _ => exact e6 | (n + 7), hi => exact absurd hi (by omega))
                                  · conv => cbv
                                    exact ⟨⟨fun j _ => rowS_le _ _ _ _ _, trivial⟩, trivial⟩
                                · have e7 : (T k).getD 7 0 ≠ tag := by rw [← gi_eq]; exact eqI_f.1 e
                                  conv => cbv
                                  refine Br.no (ltI_f.2 (by show ofN (toN (M k)) ≤ 8; rw [hlen]; omega)) ?_
                                  conv => cbv
                                  refine (LeOut.mk' [0, 1] (by decide) (by rfl) (by decide) ?_ ?_).two
                                  · conv => cbv
                                    show r = (-1)
                                    rw [hr]; exact findR_none (fun i hi => by match i, hi with | 0, _ => exact e0 | 1, _ => exact e1 | 2, _ => exact e2 | 3, _ => exact e3 | 4, _ => exact e4 | 5, _ => exact e5 | 6, _ => exact e6 | 7, _ => exact e7 | (n + 8), hi => exact absurd hi (by omega))
                                  · conv => cbv
                                    exact ⟨⟨fun j _ => rowS_le _ _ _ _ _, trivial⟩, trivial⟩
                              · have h7 : m ≤ 7 := by have h : ofN (toN (M k)) ≤ (7 : Int) := ltI_f.1 h; rw [hlen] at h; omega
                                conv => cbv
                                refine (LeOut.mk' [0, 1] (by decide) (by rfl) (by decide) ?_ ?_).two
                                · conv => cbv
                                  show r = (-1)
                                  rw [hr]; exact findR_none (fun i hi => by match i, hi with | 0, _ => exact e0 | 1, _ => exact e1 | 2, _ => exact e2 | 3, _ => exact e3 | 4, _ => exact e4 | 5, _ => exact e5 | 6, _ => exact e6 | (n + 7), hi => exact absurd hi (by omega))
                                · conv => cbv
                                  exact ⟨⟨fun j _ => rowS_le _ _ _ _ _, trivial⟩, trivial⟩
                          · have h6 : m ≤ 6 := by have h : ofN (toN (M k)) ≤ (6 : Int) := ltI_f.1 h; rw [hlen] at h; omega
                            conv => cbv
                            refine (LeOut.mk' [0, 1] (by decide) (by rfl) (by decide) ?_ ?_).two
                            · conv => cbv
                              show r = (-1)
                              rw [hr]; exact findR_none (fun i hi => by match i, hi with | 0, _ => exact e0 | 1, _ => exact e1 | 2, _ => exact e2 | 3, _ => exact e3 | 4, _ => exact e4 | 5, _ => exact e5 | (n + 6), hi => exact absurd hi (by omega))
                            · conv => cbv
                              exact ⟨⟨fun j _ => rowS_le _ _ _ _ _, trivial⟩, trivial⟩
                      · have h5 : m ≤ 5 := by have h : ofN (toN (M k)) ≤ (5 : Int) := ltI_f.1 h; rw [hlen] at h; omega
                        conv => cbv
                        refine (LeOut.mk' [0, 1] (by decide) (by rfl) (by decide) ?_ ?_).two
                        · conv => cbv
                          show r = (-1)
                          rw [hr]; exact findR_none (fun i hi => by match i, hi with | 0, _ => exact e0 | 1, _ => exact e1 | 2, _ => exact e2 | 3, _ => exact e3 | 4, _ => exact e4 | (n + 5), hi => exact absurd hi (by omega))
                        · conv => cbv
                          exact ⟨⟨fun j _ => rowS_le _ _ _ _ _, trivial⟩, trivial⟩
                  · have h4 : m ≤ 4 := by have h : ofN (toN (M k)) ≤ (4 : Int) := ltI_f.1 h; rw [hlen] at h; omega
                    conv => cbv
                    refine (LeOut.mk' [0, 1] (by decide) (by rfl) (by decide) ?_ ?_).two
                    · conv => cbv
                      show r = (-1)
                      rw [hr]; exact findR_none (fun i hi => by match i, hi with | 0, _ => exact e0 | 1, _ => exact e1 | 2, _ => exact e2 | 3, _ => exact e3 | (n + 4), hi => exact absurd hi (by omega))
                    · conv => cbv
                      exact ⟨⟨fun j _ => rowS_le _ _ _ _ _, trivial⟩, trivial⟩
              · have h3 : m ≤ 3 := by have h : ofN (toN (M k)) ≤ (3 : Int) := ltI_f.1 h; rw [hlen] at h; omega
                conv => cbv
                refine (LeOut.mk' [0, 1] (by decide) (by rfl) (by decide) ?_ ?_).two
                · conv => cbv
                  show r = (-1)
                  rw [hr]; exact findR_none (fun i hi => by match i, hi with | 0, _ => exact e0 | 1, _ => exact e1 | 2, _ => exact e2 | (n + 3), hi => exact absurd hi (by omega))
                · conv => cbv
                  exact ⟨⟨fun j _ => rowS_le _ _ _ _ _, trivial⟩, trivial⟩
          · have h2 : m ≤ 2 := by have h : ofN (toN (M k)) ≤ (2 : Int) := ltI_f.1 h; rw [hlen] at h; omega
            conv => cbv
            refine (LeOut.mk' [0, 1] (by decide) (by rfl) (by decide) ?_ ?_).two
            · conv => cbv
              show r = (-1)
              rw [hr]; exact findR_none (fun i hi => by match i, hi with | 0, _ => exact e0 | 1, _ => exact e1 | (n + 2), hi => exact absurd hi (by omega))
            · conv => cbv
              exact ⟨⟨fun j _ => rowS_le _ _ _ _ _, trivial⟩, trivial⟩
      · have h1 : m ≤ 1 := by have h : ofN (toN (M k)) ≤ (1 : Int) := ltI_f.1 h; rw [hlen] at h; omega
        conv => cbv
        refine (LeOut.mk' [0, 1] (by decide) (by rfl) (by decide) ?_ ?_).two
        · conv => cbv
          show r = (-1)
          rw [hr]; exact findR_none (fun i hi => by match i, hi with | 0, _ => exact e0 | (n + 1), hi => exact absurd hi (by omega))
        · conv => cbv
          exact ⟨⟨fun j _ => rowS_le _ _ _ _ _, trivial⟩, trivial⟩
  · have h0 : m ≤ 0 := by have h : ofN (toN (M k)) ≤ (0 : Int) := ltI_f.1 h; rw [hlen] at h; omega
    conv => cbv
    refine (LeOut.mk' [0, 1] (by decide) (by rfl) (by decide) ?_ ?_).two
    · conv => cbv
      show r = (-1)
      rw [hr]; exact findR_none (fun i hi => absurd hi (by omega))
    · conv => cbv
      exact ⟨⟨fun j _ => rowS_le _ _ _ _ _, trivial⟩, trivial⟩
end Go.Proofs.YtafhmkedblpdlaaDoor
end

/-
  cache: a line is put ahead of others.
-/
section
namespace Go.Proofs.YtafhmkedblpdlaaDoor
open Go Go.Vex
set_option maxRecDepth 20000
set_option maxHeartbeats 4000000
noncomputable def Im67 : FnT := [(67, fi Tryd.f67 ⟨[], 0⟩)]
theorem Im67ok : FnsOk kit Im67 := ⟨fo67 _, trivial⟩
theorem u182 : kit.P.underlying 182 = some (.slice 128) := by rw [kit_P]; kernel_rfl
theorem z128 : (kit.P.info? 128).map (·.size) = some 2 := by rw [kit_P]; kernel_rfl
/-- Eight numbers, one of them put ahead of the first n others. -/
def frontL (l : List Int) (n : Nat) (t : Int) : List Int := (List.range 8).map fun i => if i = 0 then t else if i ≤ n then l.getD (i - 1) 0 else l.getD i 0
def atK (T : Nat → List Int) (k : Nat) (l : List Int) (j : Nat) : List Int := if j = k then l else T j
theorem frontL_at {l : List Int} {n i : Nat} {t : Int} (hi : i < 8) : gi (frontL l n t) i = if i = 0 then t else if i ≤ n then gi l (i - 1) else gi l i := by
  rw [gi_eq, gi_eq, gi_eq, frontL, List.getD_eq_getElem?_getD, List.getElem?_map, List.getElem?_range hi]; rfl
theorem upd_leL {f : Nat → List SV} {k j : Nat} {row g : List SV} (h1 : j = k → leL row g) (h2 : j ≠ k → leL (f j) g) : leL (upd f k row j) g := by
  rw [upd_eq]
  show leL (if j = k then row else f j) g
  by_cases e : j = k
  · rw [if_pos e]; exact h1 e
  · rw [if_neg e]; exact h2 e
theorem front_spec (S W L : Int) (T D : Nat → List Int) (M : Nat → Int) (k n : Nat) (t : Int) (d : Bool) (z : Int) (hk : k < 256) (hn : n ≤ 7) (hz : z = n) {T2 D2 : Nat → List Int} (hT2 : T2 = atK T k (frontL (T k) n t)) (hD2 : D2 = atK D k (frontL (D k) n (if d = true then 1 else 0))) :
    Spec1 kit 67 [.p 0 (.row 3 k 17 0), .i .i64 (.ex z), .agg [.i .u32 (.ex t), .b (.ex d)]] [caB S W L T D M] false (.tup []) [caB S W L T2 D2 M] [] := by
  have hT2k : ∀ i, i < 8 → gi (T2 k) i = if i = 0 then t else if i ≤ n then gi (T k) (i - 1) else gi (T k) i := fun i hi => by rw [hT2, atK, if_pos rfl, frontL_at hi]
  have hD2k : ∀ i, i < 8 → gi (D2 k) i = if i = 0 then (if d = true then 1 else 0) else if i ≤ n then gi (D k) (i - 1) else gi (D k) i := fun i hi => by rw [hD2, atK, if_pos rfl, frontL_at hi]
  have hT2o : ∀ j, j ≠ k → T2 j = T j := fun j hj => by rw [hT2, atK, if_neg hj]
  have hD2o : ∀ j, j ≠ k → D2 j = D j := fun j hj => by rw [hD2, atK, if_neg hj]
  have hd : d = eqI (gi (D2 k) 0) 1 := by rw [hD2k 0 (by decide), if_pos rfl, eqI_eq]; cases d <;> rfl
  obtain ⟨T1, hT1⟩ : ∃ x, x = atK T k (frontL (T k) n (gi (T k) 0)) := ⟨_, rfl⟩
  obtain ⟨D1, hD1⟩ : ∃ x, x = atK D k (frontL (D k) n (gi (D k) 0)) := ⟨_, rfl⟩
  have hT1k : ∀ i, i < 8 → gi (T1 k) i = if i = 0 then gi (T k) 0 else if i ≤ n then gi (T k) (i - 1) else gi (T k) i := fun i hi => by rw [hT1, atK, if_pos rfl, frontL_at hi]
  have hD1k : ∀ i, i < 8 → gi (D1 k) i = if i = 0 then gi (D k) 0 else if i ≤ n then gi (D k) (i - 1) else gi (D k) i := fun i hi => by rw [hD1, atK, if_pos rfl, frontL_at hi]
  have hT1o : ∀ j, j ≠ k → T1 j = T j := fun j hj => by rw [hT1, atK, if_neg hj]
  have hD1o : ∀ j, j ≠ k → D1 j = D j := fun j hj => by rw [hD1, atK, if_neg hj]
  have h12 : ∀ i, i < 8 → i ≠ 0 → gi (T2 k) i = gi (T1 k) i := fun i hi h0 => by rw [hT2k i hi, hT1k i hi, if_neg h0, if_neg h0]
  have g12 : ∀ i, i < 8 → i ≠ 0 → gi (D2 k) i = gi (D1 k) i := fun i hi h0 => by rw [hD2k i hi, hD1k i hi, if_neg h0, if_neg h0]
  refine Spec1.mk2 rfl fun F => ?_
  match n, hn with
  | 0, _ =>
    refine OkCall.args (args' := [.p 0 (.row 3 k 17 0), .i .i64 (.lit 0), .agg [.i .u32 (.ex t), .b (.ex d)]]) ⟨⟨rfl, rfl⟩, ⟨rfl, hz.symm⟩, ⟨⟨rfl, rfl⟩, rfl, trivial⟩, trivial⟩ ?_
    refine into Im67ok 6 ?_
    conv => cbv
    refine XOpN.copy0 rfl rfl u182 z128 (by decide) (.lit 0) rfl ?_
    conv => cbv
    refine ⟨nLt.mk hk, (LeOut.mk' [0, 1] (by decide) (by rfl) (by decide) (by cbv) ?_).two⟩
    conv => cbv
    refine ⟨⟨fun j hj => ?_, trivial⟩, trivial⟩
    have hxT2 := hT2k
    have hyT2 := hD2k
    refine upd_leL (fun e => ?_) (fun e => ?_)
    · subst e
      refine ⟨⟨rfl, ?_⟩, ?_, ⟨rfl, ?_⟩, ?_, ⟨rfl, ?_⟩, ?_, ⟨rfl, ?_⟩, ?_, ⟨rfl, ?_⟩, ?_, ⟨rfl, ?_⟩, ?_, ⟨rfl, ?_⟩, ?_, ⟨rfl, ?_⟩, ?_, ⟨rfl, rfl⟩, trivial⟩
      · show gi (T2 j) 0 = t
        rw [hxT2 0 (by decide)]; rfl
      · show eqI (gi (D2 j) 0) 1 = d
        exact hd.symm
      · show gi (T2 j) 1 = gi (T j) 1
        rw [hxT2 1 (by decide)]; rfl
      · show eqI (gi (D2 j) 1) 1 = eqI (gi (D j) 1) 1
        rw [hyT2 1 (by decide)]; rfl
      · show gi (T2 j) 2 = gi (T j) 2
        rw [hxT2 2 (by decide)]; rfl
      · show eqI (gi (D2 j) 2) 1 = eqI (gi (D j) 2) 1
        rw [hyT2 2 (by decide)]; rfl
      · show gi (T2 j) 3 = gi (T j) 3
        rw [hxT2 3 (by decide)]; rfl
      · show eqI (gi (D2 j) 3) 1 = eqI (gi (D j) 3) 1
        rw [hyT2 3 (by decide)]; rfl
      · show gi (T2 j) 4 = gi (T j) 4
        rw [hxT2 4 (by decide)]; rfl
      · show eqI (gi (D2 j) 4) 1 = eqI (gi (D j) 4) 1
        rw [hyT2 4 (by decide)]; rfl
      · show gi (T2 j) 5 = gi (T j) 5
        rw [hxT2 5 (by decide)]; rfl
      · show eqI (gi (D2 j) 5) 1 = eqI (gi (D j) 5) 1
        rw [hyT2 5 (by decide)]; rfl
      · show gi (T2 j) 6 = gi (T j) 6
        rw [hxT2 6 (by decide)]; rfl
      · show eqI (gi (D2 j) 6) 1 = eqI (gi (D j) 6) 1
        rw [hyT2 6 (by decide)]; rfl
      · show gi (T2 j) 7 = gi (T j) 7
        rw [hxT2 7 (by decide)]; rfl
      · show eqI (gi (D2 j) 7) 1 = eqI (gi (D j) 7) 1
        rw [hyT2 7 (by decide)]; rfl
    · have a1 := hT2o j e
      have a2 := hD2o j e
      refine ⟨⟨rfl, ?_⟩, ?_, ⟨rfl, ?_⟩, ?_, ⟨rfl, ?_⟩, ?_, ⟨rfl, ?_⟩, ?_, ⟨rfl, ?_⟩, ?_, ⟨rfl, ?_⟩, ?_, ⟨rfl, ?_⟩, ?_, ⟨rfl, ?_⟩, ?_, ⟨rfl, rfl⟩, trivial⟩
      · show gi (T2 j) 0 = gi (T j) 0
        rw [a1]
      · show eqI (gi (D2 j) 0) 1 = eqI (gi (D j) 0) 1
        rw [a2]
      · show gi (T2 j) 1 = gi (T j) 1
        rw [a1]
      · show eqI (gi (D2 j) 1) 1 = eqI (gi (D j) 1) 1
        rw [a2]
      · show gi (T2 j) 2 = gi (T j) 2
        rw [a1]
      · show eqI (gi (D2 j) 2) 1 = eqI (gi (D j) 2) 1
        rw [a2]
      · show gi (T2 j) 3 = gi (T j) 3
        rw [a1]
      · show eqI (gi (D2 j) 3) 1 = eqI (gi (D j) 3) 1
        rw [a2]
      · show gi (T2 j) 4 = gi (T j) 4
        rw [a1]
      · show eqI (gi (D2 j) 4) 1 = eqI (gi (D j) 4) 1
        rw [a2]
      · show gi (T2 j) 5 = gi (T j) 5
        rw [a1]
      · show eqI (gi (D2 j) 5) 1 = eqI (gi (D j) 5) 1
        rw [a2]
      · show gi (T2 j) 6 = gi (T j) 6
        rw [a1]
      · show eqI (gi (D2 j) 6) 1 = eqI (gi (D j) 6) 1
        rw [a2]
      · show gi (T2 j) 7 = gi (T j) 7
        rw [a1]
      · show eqI (gi (D2 j) 7) 1 = eqI (gi (D j) 7) 1
        rw [a2]
  | 1, _ =>
    refine OkCall.args (args' := [.p 0 (.row 3 k 17 0), .i .i64 (.lit 1), .agg [.i .u32 (.ex t), .b (.ex d)]]) ⟨⟨rfl, rfl⟩, ⟨rfl, hz.symm⟩, ⟨⟨rfl, rfl⟩, rfl, trivial⟩, trivial⟩ ?_
    refine into Im67ok 6 ?_
    conv => cbv
    refine XOpN.copyR rfl rfl u182 z128 rfl 1 (by decide) (.lit 1) rfl [.i .i64 (.ex S), .i .i64 (.ex W), .i .i64 (.ex L), .rows 17 (.lit 256) (rowS T1 D1 M)] ?_ ?_
    · conv => cbv
      refine ⟨nLt.mk hk, nLt.mk hk, ?_⟩
      conv => cbv
      refine ⟨fun j hj => ?_, trivial⟩
      have hxT1 := hT1k
      have hyT1 := hD1k
      refine upd_leL (fun e => ?_) (fun e => ?_)
      · subst e
        refine ⟨⟨rfl, ?_⟩, ?_, ⟨rfl, ?_⟩, ?_, ⟨rfl, ?_⟩, ?_, ⟨rfl, ?_⟩, ?_, ⟨rfl, ?_⟩, ?_, ⟨rfl, ?_⟩, ?_, ⟨rfl, ?_⟩, ?_, ⟨rfl, ?_⟩, ?_, ⟨rfl, rfl⟩, trivial⟩
        · show gi (T1 j) 0 = gi (T j) 0
          rw [hxT1 0 (by decide)]; rfl
        · show eqI (gi (D1 j) 0) 1 = eqI (gi (D j) 0) 1
          rw [hyT1 0 (by decide)]; rfl
        · show gi (T1 j) 1 = gi (T j) 0
          rw [hxT1 1 (by decide)]; rfl
        · show eqI (gi (D1 j) 1) 1 = eqI (gi (D j) 0) 1
          rw [hyT1 1 (by decide)]; rfl
        · show gi (T1 j) 2 = gi (T j) 2
          rw [hxT1 2 (by decide)]; rfl
        · show eqI (gi (D1 j) 2) 1 = eqI (gi (D j) 2) 1
          rw [hyT1 2 (by decide)]; rfl
        · show gi (T1 j) 3 = gi (T j) 3
          rw [hxT1 3 (by decide)]; rfl
        · show eqI (gi (D1 j) 3) 1 = eqI (gi (D j) 3) 1
          rw [hyT1 3 (by decide)]; rfl
        · show gi (T1 j) 4 = gi (T j) 4
          rw [hxT1 4 (by decide)]; rfl
        · show eqI (gi (D1 j) 4) 1 = eqI (gi (D j) 4) 1
          rw [hyT1 4 (by decide)]; rfl
        · show gi (T1 j) 5 = gi (T j) 5
          rw [hxT1 5 (by decide)]; rfl
        · show eqI (gi (D1 j) 5) 1 = eqI (gi (D j) 5) 1
          rw [hyT1 5 (by decide)]; rfl
        · show gi (T1 j) 6 = gi (T j) 6
          rw [hxT1 6 (by decide)]; rfl
        · show eqI (gi (D1 j) 6) 1 = eqI (gi (D j) 6) 1
          rw [hyT1 6 (by decide)]; rfl
        · show gi (T1 j) 7 = gi (T j) 7
          rw [hxT1 7 (by decide)]; rfl
        · show eqI (gi (D1 j) 7) 1 = eqI (gi (D j) 7) 1
          rw [hyT1 7 (by decide)]; rfl
      · have a1 := hT1o j e
        have a2 := hD1o j e
        refine ⟨⟨rfl, ?_⟩, ?_, ⟨rfl, ?_⟩, ?_, ⟨rfl, ?_⟩, ?_, ⟨rfl, ?_⟩, ?_, ⟨rfl, ?_⟩, ?_, ⟨rfl, ?_⟩, ?_, ⟨rfl, ?_⟩, ?_, ⟨rfl, ?_⟩, ?_, ⟨rfl, rfl⟩, trivial⟩
        · show gi (T1 j) 0 = gi (T j) 0
          rw [a1]
        · show eqI (gi (D1 j) 0) 1 = eqI (gi (D j) 0) 1
          rw [a2]
        · show gi (T1 j) 1 = gi (T j) 1
          rw [a1]
        · show eqI (gi (D1 j) 1) 1 = eqI (gi (D j) 1) 1
          rw [a2]
        · show gi (T1 j) 2 = gi (T j) 2
          rw [a1]
        · show eqI (gi (D1 j) 2) 1 = eqI (gi (D j) 2) 1
          rw [a2]
        · show gi (T1 j) 3 = gi (T j) 3
          rw [a1]
        · show eqI (gi (D1 j) 3) 1 = eqI (gi (D j) 3) 1
          rw [a2]
        · show gi (T1 j) 4 = gi (T j) 4
          rw [a1]
        · show eqI (gi (D1 j) 4) 1 = eqI (gi (D j) 4) 1
          rw [a2]
        · show gi (T1 j) 5 = gi (T j) 5
          rw [a1]
        · show eqI (gi (D1 j) 5) 1 = eqI (gi (D j) 5) 1
          rw [a2]
        · show gi (T1 j) 6 = gi (T j) 6
          rw [a1]
        · show eqI (gi (D1 j) 6) 1 = eqI (gi (D j) 6) 1
          rw [a2]
        · show gi (T1 j) 7 = gi (T j) 7
          rw [a1]
        · show eqI (gi (D1 j) 7) 1 = eqI (gi (D j) 7) 1
          rw [a2]
    conv => cbv
    refine ⟨nLt.mk hk, (LeOut.mk' [0, 1] (by decide) (by rfl) (by decide) (by cbv) ?_).two⟩
    conv => cbv
    refine ⟨⟨fun j hj => ?_, trivial⟩, trivial⟩
    have hxT2 : ∀ i, i < 8 → gi (T2 k) i = if i = 0 then t else gi (T1 k) i := fun i hi => by
      by_cases h0 : i = 0
      · rw [if_pos h0, hT2k i hi, if_pos h0]
      · rw [if_neg h0, h12 i hi h0]
    have hyT2 : ∀ i, i < 8 → gi (D2 k) i = if i = 0 then (if d = true then 1 else 0) else gi (D1 k) i := fun i hi => by
      by_cases h0 : i = 0
      · rw [if_pos h0, hD2k i hi, if_pos h0]
      · rw [if_neg h0, g12 i hi h0]
    refine upd_leL (fun e => ?_) (fun e => ?_)
    · subst e
      refine ⟨⟨rfl, ?_⟩, ?_, ⟨rfl, ?_⟩, ?_, ⟨rfl, ?_⟩, ?_, ⟨rfl, ?_⟩, ?_, ⟨rfl, ?_⟩, ?_, ⟨rfl, ?_⟩, ?_, ⟨rfl, ?_⟩, ?_, ⟨rfl, ?_⟩, ?_, ⟨rfl, rfl⟩, trivial⟩
      · show gi (T2 j) 0 = t
        rw [hxT2 0 (by decide)]; rfl
      · show eqI (gi (D2 j) 0) 1 = d
        exact hd.symm
      · show gi (T2 j) 1 = gi (T1 j) 1
        rw [hxT2 1 (by decide)]; rfl
      · show eqI (gi (D2 j) 1) 1 = eqI (gi (D1 j) 1) 1
        rw [hyT2 1 (by decide)]; rfl
      · show gi (T2 j) 2 = gi (T1 j) 2
        rw [hxT2 2 (by decide)]; rfl
      · show eqI (gi (D2 j) 2) 1 = eqI (gi (D1 j) 2) 1
        rw [hyT2 2 (by decide)]; rfl
      · show gi (T2 j) 3 = gi (T1 j) 3
        rw [hxT2 3 (by decide)]; rfl
      · show eqI (gi (D2 j) 3) 1 = eqI (gi (D1 j) 3) 1
        rw [hyT2 3 (by decide)]; rfl
      · show gi (T2 j) 4 = gi (T1 j) 4
        rw [hxT2 4 (by decide)]; rfl
      · show eqI (gi (D2 j) 4) 1 = eqI (gi (D1 j) 4) 1
        rw [hyT2 4 (by decide)]; rfl
      · show gi (T2 j) 5 = gi (T1 j) 5
        rw [hxT2 5 (by decide)]; rfl
      · show eqI (gi (D2 j) 5) 1 = eqI (gi (D1 j) 5) 1
        rw [hyT2 5 (by decide)]; rfl
      · show gi (T2 j) 6 = gi (T1 j) 6
        rw [hxT2 6 (by decide)]; rfl
      · show eqI (gi (D2 j) 6) 1 = eqI (gi (D1 j) 6) 1
        rw [hyT2 6 (by decide)]; rfl
      · show gi (T2 j) 7 = gi (T1 j) 7
        rw [hxT2 7 (by decide)]; rfl
      · show eqI (gi (D2 j) 7) 1 = eqI (gi (D1 j) 7) 1
        rw [hyT2 7 (by decide)]; rfl
    · have a1 := (fun j hj => by rw [hT2o j hj, hT1o j hj] : ∀ j, j ≠ k → T2 j = T1 j) j e
      have a2 := (fun j hj => by rw [hD2o j hj, hD1o j hj] : ∀ j, j ≠ k → D2 j = D1 j) j e
      refine ⟨⟨rfl, ?_⟩, ?_, ⟨rfl, ?_⟩, ?_, ⟨rfl, ?_⟩, ?_, ⟨rfl, ?_⟩, ?_, ⟨rfl, ?_⟩, ?_, ⟨rfl, ?_⟩, ?_, ⟨rfl, ?_⟩, ?_, ⟨rfl, ?_⟩, ?_, ⟨rfl, rfl⟩, trivial⟩
      · show gi (T2 j) 0 = gi (T1 j) 0
        rw [a1]
      · show eqI (gi (D2 j) 0) 1 = eqI (gi (D1 j) 0) 1
        rw [a2]
      · show gi (T2 j) 1 = gi (T1 j) 1
        rw [a1]
      · show eqI (gi (D2 j) 1) 1 = eqI (gi (D1 j) 1) 1
        rw [a2]
      · show gi (T2 j) 2 = gi (T1 j) 2
        rw [a1]
      · show eqI (gi (D2 j) 2) 1 = eqI (gi (D1 j) 2) 1
        rw [a2]
      · show gi (T2 j) 3 = gi (T1 j) 3
        rw [a1]
      · show eqI (gi (D2 j) 3) 1 = eqI (gi (D1 j) 3) 1
        rw [a2]
      · show gi (T2 j) 4 = gi (T1 j) 4
        rw [a1]
      · show eqI (gi (D2 j) 4) 1 = eqI (gi (D1 j) 4) 1
        rw [a2]
      · show gi (T2 j) 5 = gi (T1 j) 5
        rw [a1]
      · show eqI (gi (D2 j) 5) 1 = eqI (gi (D1 j) 5) 1
        rw [a2]
      · show gi (T2 j) 6 = gi (T1 j) 6
        rw [a1]
      · show eqI (gi (D2 j) 6) 1 = eqI (gi (D1 j) 6) 1
        rw [a2]
      · show gi (T2 j) 7 = gi (T1 j) 7
        rw [a1]
      · show eqI (gi (D2 j) 7) 1 = eqI (gi (D1 j) 7) 1
        rw [a2]
  | 2, _ =>
    refine OkCall.args (args' := [.p 0 (.row 3 k 17 0), .i .i64 (.lit 2), .agg [.i .u32 (.ex t), .b (.ex d)]]) ⟨⟨rfl, rfl⟩, ⟨rfl, hz.symm⟩, ⟨⟨rfl, rfl⟩, rfl, trivial⟩, trivial⟩ ?_
    refine into Im67ok 6 ?_
    conv => cbv
    refine XOpN.copyR rfl rfl u182 z128 rfl 2 (by decide) (.lit 2) rfl [.i .i64 (.ex S), .i .i64 (.ex W), .i .i64 (.ex L), .rows 17 (.lit 256) (rowS T1 D1 M)] ?_ ?_
    · conv => cbv
      refine ⟨nLt.mk hk, nLt.mk hk, ?_⟩
      conv => cbv
      refine ⟨fun j hj => ?_, trivial⟩
      have hxT1 := hT1k
      have hyT1 := hD1k
      refine upd_leL (fun e => ?_) (fun e => ?_)
      · subst e
        refine ⟨⟨rfl, ?_⟩, ?_, ⟨rfl, ?_⟩, ?_, ⟨rfl, ?_⟩, ?_, ⟨rfl, ?_⟩, ?_, ⟨rfl, ?_⟩, ?_, ⟨rfl, ?_⟩, ?_, ⟨rfl, ?_⟩, ?_, ⟨rfl, ?_⟩, ?_, ⟨rfl, rfl⟩, trivial⟩
        · show gi (T1 j) 0 = gi (T j) 0
          rw [hxT1 0 (by decide)]; rfl
        · show eqI (gi (D1 j) 0) 1 = eqI (gi (D j) 0) 1
          rw [hyT1 0 (by decide)]; rfl
        · show gi (T1 j) 1 = gi (T j) 0
          rw [hxT1 1 (by decide)]; rfl
        · show eqI (gi (D1 j) 1) 1 = eqI (gi (D j) 0) 1
          rw [hyT1 1 (by decide)]; rfl
        · show gi (T1 j) 2 = gi (T j) 1
          rw [hxT1 2 (by decide)]; rfl
        · show eqI (gi (D1 j) 2) 1 = eqI (gi (D j) 1) 1
          rw [hyT1 2 (by decide)]; rfl
        · show gi (T1 j) 3 = gi (T j) 3
          rw [hxT1 3 (by decide)]; rfl
        · show eqI (gi (D1 j) 3) 1 = eqI (gi (D j) 3) 1
          rw [hyT1 3 (by decide)]; rfl
        · show gi (T1 j) 4 = gi (T j) 4
          rw [hxT1 4 (by decide)]; rfl
        · show eqI (gi (D1 j) 4) 1 = eqI (gi (D j) 4) 1
          rw [hyT1 4 (by decide)]; rfl
        · show gi (T1 j) 5 = gi (T j) 5
          rw [hxT1 5 (by decide)]; rfl
        · show eqI (gi (D1 j) 5) 1 = eqI (gi (D j) 5) 1
          rw [hyT1 5 (by decide)]; rfl
        · show gi (T1 j) 6 = gi (T j) 6
          rw [hxT1 6 (by decide)]; rfl
        · show eqI (gi (D1 j) 6) 1 = eqI (gi (D j) 6) 1
          rw [hyT1 6 (by decide)]; rfl
        · show gi (T1 j) 7 = gi (T j) 7
          rw [hxT1 7 (by decide)]; rfl
        · show eqI (gi (D1 j) 7) 1 = eqI (gi (D j) 7) 1
          rw [hyT1 7 (by decide)]; rfl
      · have a1 := hT1o j e
        have a2 := hD1o j e
        refine ⟨⟨rfl, ?_⟩, ?_, ⟨rfl, ?_⟩, ?_, ⟨rfl, ?_⟩, ?_, ⟨rfl, ?_⟩, ?_, ⟨rfl, ?_⟩, ?_, ⟨rfl, ?_⟩, ?_, ⟨rfl, ?_⟩, ?_, ⟨rfl, ?_⟩, ?_, ⟨rfl, rfl⟩, trivial⟩
        · show gi (T1 j) 0 = gi (T j) 0
          rw [a1]
        · show eqI (gi (D1 j) 0) 1 = eqI (gi (D j) 0) 1
          rw [a2]
        · show gi (T1 j) 1 = gi (T j) 1
          rw [a1]
        · show eqI (gi (D1 j) 1) 1 = eqI (gi (D j) 1) 1
          rw [a2]
        · show gi (T1 j) 2 = gi (T j) 2
          rw [a1]
        · show eqI (gi (D1 j) 2) 1 = eqI (gi (D j) 2) 1
          rw [a2]
        · show gi (T1 j) 3 = gi (T j) 3
          rw [a1]
        · show eqI (gi (D1 j) 3) 1 = eqI (gi (D j) 3) 1
          rw [a2]
        · show gi (T1 j) 4 = gi (T j) 4
          rw [a1]
        · show eqI (gi (D1 j) 4) 1 = eqI (gi (D j) 4) 1
          rw [a2]
        · show gi (T1 j) 5 = gi (T j) 5
          rw [a1]
        · show eqI (gi (D1 j) 5) 1 = eqI (gi (D j) 5) 1
          rw [a2]
        · show gi (T1 j) 6 = gi (T j) 6
          rw [a1]
        · show eqI (gi (D1 j) 6) 1 = eqI (gi (D j) 6) 1
          rw [a2]
        · show gi (T1 j) 7 = gi (T j) 7
          rw [a1]
        · show eqI (gi (D1 j) 7) 1 = eqI (gi (D j) 7) 1
          rw [a2]
    conv => cbv
    refine ⟨nLt.mk hk, (LeOut.mk' [0, 1] (by decide) (by rfl) (by decide) (by cbv) ?_).two⟩
    conv => cbv
    refine ⟨⟨fun j hj => ?_, trivial⟩, trivial⟩
    have hxT2 : ∀ i, i < 8 → gi (T2 k) i = if i = 0 then t else gi (T1 k) i := fun i hi => by
      by_cases h0 : i = 0
      · rw [if_pos h0, hT2k i hi, if_pos h0]
      · rw [if_neg h0, h12 i hi h0]
    have hyT2 : ∀ i, i < 8 → gi (D2 k) i = if i = 0 then (if d = true then 1 else 0) else gi (D1 k) i := fun i hi => by
      by_cases h0 : i = 0
      · rw [if_pos h0, hD2k i hi, if_pos h0]
      · rw [if_neg h0, g12 i hi h0]
    refine upd_leL (fun e => ?_) (fun e => ?_)
    · subst e
      refine ⟨⟨rfl, ?_⟩, ?_, ⟨rfl, ?_⟩, ?_, ⟨rfl, ?_⟩, ?_, ⟨rfl, ?_⟩, ?_, ⟨rfl, ?_⟩, ?_, ⟨rfl, ?_⟩, ?_, ⟨rfl, ?_⟩, ?_, ⟨rfl, ?_⟩, ?_, ⟨rfl, rfl⟩, trivial⟩
      · show gi (T2 j) 0 = t
        rw [hxT2 0 (by decide)]; rfl
      · show eqI (gi (D2 j) 0) 1 = d
        exact hd.symm
      · show gi (T2 j) 1 = gi (T1 j) 1
        rw [hxT2 1 (by decide)]; rfl
      · show eqI (gi (D2 j) 1) 1 = eqI (gi (D1 j) 1) 1
        rw [hyT2 1 (by decide)]; rfl
      · show gi (T2 j) 2 = gi (T1 j) 2
        rw [hxT2 2 (by decide)]; rfl
      · show eqI (gi (D2 j) 2) 1 = eqI (gi (D1 j) 2) 1
        rw [hyT2 2 (by decide)]; rfl
      · show gi (T2 j) 3 = gi (T1 j) 3
        rw [hxT2 3 (by decide)]; rfl
      · show eqI (gi (D2 j) 3) 1 = eqI (gi (D1 j) 3) 1
        rw [hyT2 3 (by decide)]; rfl
      · show gi (T2 j) 4 = gi (T1 j) 4
        rw [hxT2 4 (by decide)]; rfl
      · show eqI (gi (D2 j) 4) 1 = eqI (gi (D1 j) 4) 1
        rw [hyT2 4 (by decide)]; rfl
      · show gi (T2 j) 5 = gi (T1 j) 5
        rw [hxT2 5 (by decide)]; rfl
      · show eqI (gi (D2 j) 5) 1 = eqI (gi (D1 j) 5) 1
        rw [hyT2 5 (by decide)]; rfl
      · show gi (T2 j) 6 = gi (T1 j) 6
        rw [hxT2 6 (by decide)]; rfl
      · show eqI (gi (D2 j) 6) 1 = eqI (gi (D1 j) 6) 1
        rw [hyT2 6 (by decide)]; rfl
      · show gi (T2 j) 7 = gi (T1 j) 7
        rw [hxT2 7 (by decide)]; rfl
      · show eqI (gi (D2 j) 7) 1 = eqI (gi (D1 j) 7) 1
        rw [hyT2 7 (by decide)]; rfl
    · have a1 := (fun j hj => by rw [hT2o j hj, hT1o j hj] : ∀ j, j ≠ k → T2 j = T1 j) j e
      have a2 := (fun j hj => by rw [hD2o j hj, hD1o j hj] : ∀ j, j ≠ k → D2 j = D1 j) j e
      refine ⟨⟨rfl, ?_⟩, ?_, ⟨rfl, ?_⟩, ?_, ⟨rfl, ?_⟩, ?_, ⟨rfl, ?_⟩, ?_, ⟨rfl, ?_⟩, ?_, ⟨rfl, ?_⟩, ?_, ⟨rfl, ?_⟩, ?_, ⟨rfl, ?_⟩, ?_, ⟨rfl, rfl⟩, trivial⟩
      · show gi (T2 j) 0 = gi (T1 j) 0
        rw [a1]
      · show eqI (gi (D2 j) 0) 1 = eqI (gi (D1 j) 0) 1
        rw [a2]
      · show gi (T2 j) 1 = gi (T1 j) 1
        rw [a1]
      · show eqI (gi (D2 j) 1) 1 = eqI (gi (D1 j) 1) 1
        rw [a2]
      · show gi (T2 j) 2 = gi (T1 j) 2
        rw [a1]
      · show eqI (gi (D2 j) 2) 1 = eqI (gi (D1 j) 2) 1
        rw [a2]
      · show gi (T2 j) 3 = gi (T1 j) 3
        rw [a1]
      · show eqI (gi (D2 j) 3) 1 = eqI (gi (D1 j) 3) 1
        rw [a2]
      · show gi (T2 j) 4 = gi (T1 j) 4
        rw [a1]
      · show eqI (gi (D2 j) 4) 1 = eqI (gi (D1 j) 4) 1
        rw [a2]
      · show gi (T2 j) 5 = gi (T1 j) 5
        rw [a1]
      · show eqI (gi (D2 j) 5) 1 = eqI (gi (D1 j) 5) 1
        rw [a2]
      · show gi (T2 j) 6 = gi (T1 j) 6
        rw [a1]
      · show eqI (gi (D2 j) 6) 1 = eqI (gi (D1 j) 6) 1
        rw [a2]
      · show gi (T2 j) 7 = gi (T1 j) 7
        rw [a1]
      · show eqI (gi (D2 j) 7) 1 = eqI (gi (D1 j) 7) 1
        rw [a2]
  | 3, _ =>
    refine OkCall.args (args' := [.p 0 (.row 3 k 17 0), .i .i64 (.lit 3), .agg [.i .u32 (.ex t), .b (.ex d)]]) ⟨⟨rfl, rfl⟩, ⟨rfl, hz.symm⟩, ⟨⟨rfl, rfl⟩, rfl, trivial⟩, trivial⟩ ?_
    refine into Im67ok 6 ?_
    conv => cbv
    refine XOpN.copyR rfl rfl u182 z128 rfl 3 (by decide) (.lit 3) rfl [.i .i64 (.ex S), .i .i64 (.ex W), .i .i64 (.ex L), .rows 17 (.lit 256) (rowS T1 D1 M)] ?_ ?_
    · conv => cbv
      refine ⟨nLt.mk hk, nLt.mk hk, ?_⟩
      conv => cbv
      refine ⟨fun j hj => ?_, trivial⟩
      have hxT1 := hT1k
      have hyT1 := hD1k
      refine upd_leL (fun e => ?_) (fun e => ?_)
      · subst e
        refine ⟨⟨rfl, ?_⟩, ?_, ⟨rfl, ?_⟩, ?_, ⟨rfl, ?_⟩, ?_, ⟨rfl, ?_⟩, ?_, ⟨rfl, ?_⟩, ?_, ⟨rfl, ?_⟩, ?_, ⟨rfl, ?_⟩, ?_, ⟨rfl, ?_⟩, ?_, ⟨rfl, rfl⟩, trivial⟩
        · show gi (T1 j) 0 = gi (T j) 0
          rw [hxT1 0 (by decide)]; rfl
        · show eqI (gi (D1 j) 0) 1 = eqI (gi (D j) 0) 1
          rw [hyT1 0 (by decide)]; rfl
        · show gi (T1 j) 1 = gi (T j) 0
          rw [hxT1 1 (by decide)]; rfl
        · show eqI (gi (D1 j) 1) 1 = eqI (gi (D j) 0) 1
          rw [hyT1 1 (by decide)]; rfl
        · show gi (T1 j) 2 = gi (T j) 1
          rw [hxT1 2 (by decide)]; rfl
        · show eqI (gi (D1 j) 2) 1 = eqI (gi (D j) 1) 1
          rw [hyT1 2 (by decide)]; rfl
        · show gi (T1 j) 3 = gi (T j) 2
          rw [hxT1 3 (by decide)]; rfl
        · show eqI (gi (D1 j) 3) 1 = eqI (gi (D j) 2) 1
          rw [hyT1 3 (by decide)]; rfl
        · show gi (T1 j) 4 = gi (T j) 4
          rw [hxT1 4 (by decide)]; rfl
        · show eqI (gi (D1 j) 4) 1 = eqI (gi (D j) 4) 1
          rw [hyT1 4 (by decide)]; rfl
        · show gi (T1 j) 5 = gi (T j) 5
          rw [hxT1 5 (by decide)]; rfl
        · show eqI (gi (D1 j) 5) 1 = eqI (gi (D j) 5) 1
          rw [hyT1 5 (by decide)]; rfl
        · show gi (T1 j) 6 = gi (T j) 6
          rw [hxT1 6 (by decide)]; rfl
        · show eqI (gi (D1 j) 6) 1 = eqI (gi (D j) 6) 1
          rw [hyT1 6 (by decide)]; rfl
        · show gi (T1 j) 7 = gi (T j) 7
          rw [hxT1 7 (by decide)]; rfl
        · show eqI (gi (D1 j) 7) 1 = eqI (gi (D j) 7) 1
          rw [hyT1 7 (by decide)]; rfl
      · have a1 := hT1o j e
        have a2 := hD1o j e
        refine ⟨⟨rfl, ?_⟩, ?_, ⟨rfl, ?_⟩, ?_, ⟨rfl, ?_⟩, ?_, ⟨rfl, ?_⟩, ?_, ⟨rfl, ?_⟩, ?_, ⟨rfl, ?_⟩, ?_, ⟨rfl, ?_⟩, ?_, ⟨rfl, ?_⟩, ?_, ⟨rfl, rfl⟩, trivial⟩
        · show gi (T1 j) 0 = gi (T j) 0
          rw [a1]
        · show eqI (gi (D1 j) 0) 1 = eqI (gi (D j) 0) 1
          rw [a2]
        · show gi (T1 j) 1 = gi (T j) 1
          rw [a1]
        · show eqI (gi (D1 j) 1) 1 = eqI (gi (D j) 1) 1
          rw [a2]
        · show gi (T1 j) 2 = gi (T j) 2
          rw [a1]
        · show eqI (gi (D1 j) 2) 1 = eqI (gi (D j) 2) 1
          rw [a2]
        · show gi (T1 j) 3 = gi (T j) 3
          rw [a1]
        · show eqI (gi (D1 j) 3) 1 = eqI (gi (D j) 3) 1
          rw [a2]
        · show gi (T1 j) 4 = gi (T j) 4
          rw [a1]
        · show eqI (gi (D1 j) 4) 1 = eqI (gi (D j) 4) 1
          rw [a2]
        · show gi (T1 j) 5 = gi (T j) 5
          rw [a1]
        · show eqI (gi (D1 j) 5) 1 = eqI (gi (D j) 5) 1
          rw [a2]
        · show gi (T1 j) 6 = gi (T j) 6
          rw [a1]
        · show eqI (gi (D1 j) 6) 1 = eqI (gi (D j) 6) 1
          rw [a2]
        · show gi (T1 j) 7 = gi (T j) 7
          rw [a1]
        · show eqI (gi (D1 j) 7) 1 = eqI (gi (D j) 7) 1
          rw [a2]
    conv => cbv
    refine ⟨nLt.mk hk, (LeOut.mk' [0, 1] (by decide) (by rfl) (by decide) (by cbv) ?_).two⟩
    conv => cbv
    refine ⟨⟨fun j hj => ?_, trivial⟩, trivial⟩
    have hxT2 : ∀ i, i < 8 → gi (T2 k) i = if i = 0 then t else gi (T1 k) i := fun i hi => by
      by_cases h0 : i = 0
      · rw [if_pos h0, hT2k i hi, if_pos h0]
      · rw [if_neg h0, h12 i hi h0]
    have hyT2 : ∀ i, i < 8 → gi (D2 k) i = if i = 0 then (if d = true then 1 else 0) else gi (D1 k) i := fun i hi => by
      by_cases h0 : i = 0
      · rw [if_pos h0, hD2k i hi, if_pos h0]
      · rw [if_neg h0, g12 i hi h0]
    refine upd_leL (fun e => ?_) (fun e => ?_)
    · subst e
      refine ⟨⟨rfl, ?_⟩, ?_, ⟨rfl, ?_⟩, ?_, ⟨rfl, ?_⟩, ?_, ⟨rfl, ?_⟩, ?_, ⟨rfl, ?_⟩, ?_, ⟨rfl, ?_⟩, ?_, ⟨rfl, ?_⟩, ?_, ⟨rfl, ?_⟩, ?_, ⟨rfl, rfl⟩, trivial⟩
      · show gi (T2 j) 0 = t
        rw [hxT2 0 (by decide)]; rfl
      · show eqI (gi (D2 j) 0) 1 = d
        exact hd.symm
      · show gi (T2 j) 1 = gi (T1 j) 1
        rw [hxT2 1 (by decide)]; rfl
      · show eqI (gi (D2 j) 1) 1 = eqI (gi (D1 j) 1) 1
        rw [hyT2 1 (by decide)]; rfl
      · show gi (T2 j) 2 = gi (T1 j) 2
        rw [hxT2 2 (by decide)]; rfl
      · show eqI (gi (D2 j) 2) 1 = eqI (gi (D1 j) 2) 1
        rw [hyT2 2 (by decide)]; rfl
      · show gi (T2 j) 3 = gi (T1 j) 3
        rw [hxT2 3 (by decide)]; rfl
      · show eqI (gi (D2 j) 3) 1 = eqI (gi (D1 j) 3) 1
        rw [hyT2 3 (by decide)]; rfl
      · show gi (T2 j) 4 = gi (T1 j) 4
        rw [hxT2 4 (by decide)]; rfl
      · show eqI (gi (D2 j) 4) 1 = eqI (gi (D1 j) 4) 1
        rw [hyT2 4 (by decide)]; rfl
      · show gi (T2 j) 5 = gi (T1 j) 5
        rw [hxT2 5 (by decide)]; rfl
      · show eqI (gi (D2 j) 5) 1 = eqI (gi (D1 j) 5) 1
        rw [hyT2 5 (by decide)]; rfl
      · show gi (T2 j) 6 = gi (T1 j) 6
        rw [hxT2 6 (by decide)]; rfl
      · show eqI (gi (D2 j) 6) 1 = eqI (gi (D1 j) 6) 1
        rw [hyT2 6 (by decide)]; rfl
      · show gi (T2 j) 7 = gi (T1 j) 7
        rw [hxT2 7 (by decide)]; rfl
      · show eqI (gi (D2 j) 7) 1 = eqI (gi (D1 j) 7) 1
        rw [hyT2 7 (by decide)]; rfl
    · have a1 := (fun j hj => by rw [hT2o j hj, hT1o j hj] : ∀ j, j ≠ k → T2 j = T1 j) j e
      have a2 := (fun j hj => by rw [hD2o j hj, hD1o j hj] : ∀ j, j ≠ k → D2 j = D1 j) j e
      refine ⟨⟨rfl, ?_⟩, ?_, ⟨rfl, ?_⟩, ?_, ⟨rfl, ?_⟩, ?_, ⟨rfl, ?_⟩, ?_, ⟨rfl, ?_⟩, ?_, ⟨rfl, ?_⟩, ?_, ⟨rfl, ?_⟩, ?_, ⟨rfl, ?_⟩, ?_, ⟨rfl, rfl⟩, trivial⟩
      · show gi (T2 j) 0 = gi (T1 j) 0
        rw [a1]
      · show eqI (gi (D2 j) 0) 1 = eqI (gi (D1 j) 0) 1
        rw [a2]
      · show gi (T2 j) 1 = gi (T1 j) 1
        rw [a1]
      · show eqI (gi (D2 j) 1) 1 = eqI (gi (D1 j) 1) 1
        rw [a2]
      · show gi (T2 j) 2 = gi (T1 j) 2
        rw [a1]
      · show eqI (gi (D2 j) 2) 1 = eqI (gi (D1 j) 2) 1
        rw [a2]
      · show gi (T2 j) 3 = gi (T1 j) 3
        rw [a1]
      · show eqI (gi (D2 j) 3) 1 = eqI (gi (D1 j) 3) 1
        rw [a2]
      · show gi (T2 j) 4 = gi (T1 j) 4
        rw [a1]
      · show eqI (gi (D2 j) 4) 1 = eqI (gi (D1 j) 4) 1
        rw [a2]
      · show gi (T2 j) 5 = gi (T1 j) 5
        rw [a1]
      · show eqI (gi (D2 j) 5) 1 = eqI (gi (D1 j) 5) 1
        rw [a2]
      · show gi (T2 j) 6 = gi (T1 j) 6
        rw [a1]
      · show eqI (gi (D2 j) 6) 1 = eqI (gi (D1 j) 6) 1
        rw [a2]
      · show gi (T2 j) 7 = gi (T1 j) 7
        rw [a1]
      · show eqI (gi (D2 j) 7) 1 = eqI (gi (D1 j) 7) 1
        rw [a2]
  | 4, _ =>
    refine OkCall.args (args' := [.p 0 (.row 3 k 17 0), .i .i64 (.lit 4), .agg [.i .u32 (.ex t), .b (.ex d)]]) ⟨⟨rfl, rfl⟩, ⟨rfl, hz.symm⟩, ⟨⟨rfl, rfl⟩, rfl, trivial⟩, trivial⟩ ?_
    refine into Im67ok 6 ?_
    conv => cbv
    refine XOpN.copyR rfl rfl u182 z128 rfl 4 (by decide) (.lit 4) rfl [.i .i64 (.ex S), .i .i64 (.ex W), .i .i64 (.ex L), .rows 17 (.lit 256) (rowS T1 D1 M)] ?_ ?_
    · conv => cbv
      refine ⟨nLt.mk hk, nLt.mk hk, ?_⟩
      conv => cbv
      refine ⟨fun j hj => ?_, trivial⟩
      have hxT1 := hT1k
      have hyT1 := hD1k
      refine upd_leL (fun e => ?_) (fun e => ?_)
      · subst e
        refine ⟨⟨rfl, ?_⟩, ?_, ⟨rfl, ?_⟩, ?_, ⟨rfl, ?_⟩, ?_, ⟨rfl, ?_⟩, ?_, ⟨rfl, ?_⟩, ?_, ⟨rfl, ?_⟩, ?_, ⟨rfl, ?_⟩, ?_, ⟨rfl, ?_⟩, ?_, ⟨rfl, rfl⟩, trivial⟩
        · show gi (T1 j) 0 = gi (T j) 0
          rw [hxT1 0 (by decide)]; rfl
        · show eqI (gi (D1 j) 0) 1 = eqI (gi (D j) 0) 1
          rw [hyT1 0 (by decide)]; rfl
        · show gi (T1 j) 1 = gi (T j) 0
          rw [hxT1 1 (by decide)]; rfl
        · show eqI (gi (D1 j) 1) 1 = eqI (gi (D j) 0) 1
          rw [hyT1 1 (by decide)]; rfl
        · show gi (T1 j) 2 = gi (T j) 1
          rw [hxT1 2 (by decide)]; rfl
        · show eqI (gi (D1 j) 2) 1 = eqI (gi (D j) 1) 1
          rw [hyT1 2 (by decide)]; rfl
        · show gi (T1 j) 3 = gi (T j) 2
          rw [hxT1 3 (by decide)]; rfl
        · show eqI (gi (D1 j) 3) 1 = eqI (gi (D j) 2) 1
          rw [hyT1 3 (by decide)]; rfl
        · show gi (T1 j) 4 = gi (T j) 3
          rw [hxT1 4 (by decide)]; rfl
        · show eqI (gi (D1 j) 4) 1 = eqI (gi (D j) 3) 1
          rw [hyT1 4 (by decide)]; rfl
        · show gi (T1 j) 5 = gi (T j) 5
          rw [hxT1 5 (by decide)]; rfl
        · show eqI (gi (D1 j) 5) 1 = eqI (gi (D j) 5) 1
          rw [hyT1 5 (by decide)]; rfl
        · show gi (T1 j) 6 = gi (T j) 6
          rw [hxT1 6 (by decide)]; rfl
        · show eqI (gi (D1 j) 6) 1 = eqI (gi (D j) 6) 1
          rw [hyT1 6 (by decide)]; rfl
        · show gi (T1 j) 7 = gi (T j) 7
          rw [hxT1 7 (by decide)]; rfl
        · show eqI (gi (D1 j) 7) 1 = eqI (gi (D j) 7) 1
          rw [hyT1 7 (by decide)]; rfl
      · have a1 := hT1o j e
        have a2 := hD1o j e
        refine ⟨⟨rfl, ?_⟩, ?_, ⟨rfl, ?_⟩, ?_, ⟨rfl, ?_⟩, ?_, ⟨rfl, ?_⟩, ?_, ⟨rfl, ?_⟩, ?_, ⟨rfl, ?_⟩, ?_, ⟨rfl, ?_⟩, ?_, ⟨rfl, ?_⟩, ?_, ⟨rfl, rfl⟩, trivial⟩
        · show gi (T1 j) 0 = gi (T j) 0
          rw [a1]
        · show eqI (gi (D1 j) 0) 1 = eqI (gi (D j) 0) 1
          rw [a2]
        · show gi (T1 j) 1 = gi (T j) 1
          rw [a1]
        · show eqI (gi (D1 j) 1) 1 = eqI (gi (D j) 1) 1
          rw [a2]
        · show gi (T1 j) 2 = gi (T j) 2
          rw [a1]
        · show eqI (gi (D1 j) 2) 1 = eqI (gi (D j) 2) 1
          rw [a2]
        · show gi (T1 j) 3 = gi (T j) 3
          rw [a1]
        · show eqI (gi (D1 j) 3) 1 = eqI (gi (D j) 3) 1
          rw [a2]
        · show gi (T1 j) 4 = gi (T j) 4
          rw [a1]
        · show eqI (gi (D1 j) 4) 1 = eqI (gi (D j) 4) 1
          rw [a2]
        · show gi (T1 j) 5 = gi (T j) 5
          rw [a1]
        · show eqI (gi (D1 j) 5) 1 = eqI (gi (D j) 5) 1
          rw [a2]
        · show gi (T1 j) 6 = gi (T j) 6
          rw [a1]
        · show eqI (gi (D1 j) 6) 1 = eqI (gi (D j) 6) 1
          rw [a2]
        · show gi (T1 j) 7 = gi (T j) 7
          rw [a1]
        · show eqI (gi (D1 j) 7) 1 = eqI (gi (D j) 7) 1
          rw [a2]
    conv => cbv
    refine ⟨nLt.mk hk, (LeOut.mk' [0, 1] (by decide) (by rfl) (by decide) (by cbv) ?_).two⟩
    conv => cbv
    refine ⟨⟨fun j hj => ?_, trivial⟩, trivial⟩
    have hxT2 : ∀ i, i < 8 → gi (T2 k) i = if i = 0 then t else gi (T1 k) i := fun i hi => by
      by_cases h0 : i = 0
      · rw [if_pos h0, hT2k i hi, if_pos h0]
      · rw [if_neg h0, h12 i hi h0]
    have hyT2 : ∀ i, i < 8 → gi (D2 k) i = if i = 0 then (if d = true then 1 else 0) else gi (D1 k) i := fun i hi => by
      by_cases h0 : i = 0
      · rw [if_pos h0, hD2k i hi, if_pos h0]
      · rw [if_neg h0, g12 i hi h0]
    refine upd_leL (fun e => ?_) (fun e => ?_)
    · subst e
      refine ⟨⟨rfl, ?_⟩, ?_, ⟨rfl, ?_⟩, ?_, ⟨rfl, ?_⟩, ?_, ⟨rfl, ?_⟩, ?_, ⟨rfl, ?_⟩, ?_, ⟨rfl, ?_⟩, ?_, ⟨rfl, ?_⟩, ?_, ⟨rfl, ?_⟩, ?_, ⟨rfl, rfl⟩, trivial⟩
      · show gi (T2 j) 0 = t
        rw [hxT2 0 (by decide)]; rfl
      · show eqI (gi (D2 j) 0) 1 = d
        exact hd.symm
      · show gi (T2 j) 1 = gi (T1 j) 1
        rw [hxT2 1 (by decide)]; rfl
      · show eqI (gi (D2 j) 1) 1 = eqI (gi (D1 j) 1) 1
        rw [hyT2 1 (by decide)]; rfl
      · show gi (T2 j) 2 = gi (T1 j) 2
        rw [hxT2 2 (by decide)]; rfl
      · show eqI (gi (D2 j) 2) 1 = eqI (gi (D1 j) 2) 1
        rw [hyT2 2 (by decide)]; rfl
      · show gi (T2 j) 3 = gi (T1 j) 3
        rw [hxT2 3 (by decide)]; rfl
      · show eqI (gi (D2 j) 3) 1 = eqI (gi (D1 j) 3) 1
        rw [hyT2 3 (by decide)]; rfl
      · show gi (T2 j) 4 = gi (T1 j) 4
        rw [hxT2 4 (by decide)]; rfl
      · show eqI (gi (D2 j) 4) 1 = eqI (gi (D1 j) 4) 1
        rw [hyT2 4 (by decide)]; rfl
      · show gi (T2 j) 5 = gi (T1 j) 5
        rw [hxT2 5 (by decide)]; rfl
      · show eqI (gi (D2 j) 5) 1 = eqI (gi (D1 j) 5) 1
        rw [hyT2 5 (by decide)]; rfl
      · show gi (T2 j) 6 = gi (T1 j) 6
        rw [hxT2 6 (by decide)]; rfl
      · show eqI (gi (D2 j) 6) 1 = eqI (gi (D1 j) 6) 1
        rw [hyT2 6 (by decide)]; rfl
      · show gi (T2 j) 7 = gi (T1 j) 7
        rw [hxT2 7 (by decide)]; rfl
      · show eqI (gi (D2 j) 7) 1 = eqI (gi (D1 j) 7) 1
        rw [hyT2 7 (by decide)]; rfl
    · have a1 := (fun j hj => by rw [hT2o j hj, hT1o j hj] : ∀ j, j ≠ k → T2 j = T1 j) j e
      have a2 := (fun j hj => by rw [hD2o j hj, hD1o j hj] : ∀ j, j ≠ k → D2 j = D1 j) j e
      refine ⟨⟨rfl, ?_⟩, ?_, ⟨rfl, ?_⟩, ?_, ⟨rfl, ?_⟩, ?_, ⟨rfl, ?_⟩, ?_, ⟨rfl, ?_⟩, ?_, ⟨rfl, ?_⟩, ?_, ⟨rfl, ?_⟩, ?_, ⟨rfl, ?_⟩, ?_, ⟨rfl, rfl⟩, trivial⟩
      · show gi (T2 j) 0 = gi (T1 j) 0
        rw [a1]
      · show eqI (gi (D2 j) 0) 1 = eqI (gi (D1 j) 0) 1
        rw [a2]
      · show gi (T2 j) 1 = gi (T1 j) 1
        rw [a1]
      · show eqI (gi (D2 j) 1) 1 = eqI (gi (D1 j) 1) 1
        rw [a2]
      · show gi (T2 j) 2 = gi (T1 j) 2
        rw [a1]
      · show eqI (gi (D2 j) 2) 1 = eqI (gi (D1 j) 2) 1
        rw [a2]
      · show gi (T2 j) 3 = gi (T1 j) 3
        rw [a1]
      · show eqI (gi (D2 j) 3) 1 = eqI (gi (D1 j) 3) 1
        rw [a2]
      · show gi (T2 j) 4 = gi (T1 j) 4
        rw [a1]
      · show eqI (gi (D2 j) 4) 1 = eqI (gi (D1 j) 4) 1
        rw [a2]
      · show gi (T2 j) 5 = gi (T1 j) 5
        rw [a1]
      · show eqI (gi (D2 j) 5) 1 = eqI (gi (D1 j) 5) 1
        rw [a2]
      · show gi (T2 j) 6 = gi (T1 j) 6
        rw [a1]
      · show eqI (gi (D2 j) 6) 1 = eqI (gi (D1 j) 6) 1
        rw [a2]
      · show gi (T2 j) 7 = gi (T1 j) 7
        rw [a1]
      · show eqI (gi (D2 j) 7) 1 = eqI (gi (D1 j) 7) 1
        rw [a2]
  | 5, _ =>
    refine OkCall.args (args' := [.p 0 (.row 3 k 17 0), .i .i64 (.lit 5), .agg [.i .u32 (.ex t), .b (.ex d)]]) ⟨⟨rfl, rfl⟩, ⟨rfl, hz.symm⟩, ⟨⟨rfl, rfl⟩, rfl, trivial⟩, trivial⟩ ?_
    refine into Im67ok 6 ?_
    conv => cbv
    refine XOpN.copyR rfl rfl u182 z128 rfl 5 (by decide) (.lit 5) rfl [.i .i64 (.ex S), .i .i64 (.ex W), .i .i64 (.ex L), .rows 17 (.lit 256) (rowS T1 D1 M)] ?_ ?_
    · conv => cbv
      refine ⟨nLt.mk hk, nLt.mk hk, ?_⟩
      conv => cbv
      refine ⟨fun j hj => ?_, trivial⟩
      have hxT1 := hT1k
      have hyT1 := hD1k
      refine upd_leL (fun e => ?_) (fun e => ?_)
      · subst e
        refine ⟨⟨rfl, ?_⟩, ?_, ⟨rfl, ?_⟩, ?_, ⟨rfl, ?_⟩, ?_, ⟨rfl, ?_⟩, ?_, ⟨rfl, ?_⟩, ?_, ⟨rfl, ?_⟩, ?_, ⟨rfl, ?_⟩, ?_, ⟨rfl, ?_⟩, ?_, ⟨rfl, rfl⟩, trivial⟩
        · show gi (T1 j) 0 = gi (T j) 0
          rw [hxT1 0 (by decide)]; rfl
        · show eqI (gi (D1 j) 0) 1 = eqI (gi (D j) 0) 1
          rw [hyT1 0 (by decide)]; rfl
        · show gi (T1 j) 1 = gi (T j) 0
          rw [hxT1 1 (by decide)]; rfl
        · show eqI (gi (D1 j) 1) 1 = eqI (gi (D j) 0) 1
          rw [hyT1 1 (by decide)]; rfl
        · show gi (T1 j) 2 = gi (T j) 1
          rw [hxT1 2 (by decide)]; rfl
        · show eqI (gi (D1 j) 2) 1 = eqI (gi (D j) 1) 1
          rw [hyT1 2 (by decide)]; rfl
        · show gi (T1 j) 3 = gi (T j) 2
          rw [hxT1 3 (by decide)]; rfl
        · show eqI (gi (D1 j) 3) 1 = eqI (gi (D j) 2) 1
          rw [hyT1 3 (by decide)]; rfl
        · show gi (T1 j) 4 = gi (T j) 3
          rw [hxT1 4 (by decide)]; rfl
        · show eqI (gi (D1 j) 4) 1 = eqI (gi (D j) 3) 1
          rw [hyT1 4 (by decide)]; rfl
        · show gi (T1 j) 5 = gi (T j) 4
          rw [hxT1 5 (by decide)]; rfl
        · show eqI (gi (D1 j) 5) 1 = eqI (gi (D j) 4) 1
          rw [hyT1 5 (by decide)]; rfl
        · show gi (T1 j) 6 = gi (T j) 6
          rw [hxT1 6 (by decide)]; rfl
        · show eqI (gi (D1 j) 6) 1 = eqI (gi (D j) 6) 1
          rw [hyT1 6 (by decide)]; rfl
        · show gi (T1 j) 7 = gi (T j) 7
          rw [hxT1 7 (by decide)]; rfl
        · show eqI (gi (D1 j) 7) 1 = eqI (gi (D j) 7) 1
          rw [hyT1 7 (by decide)]; rfl
      · have a1 := hT1o j e
        have a2 := hD1o j e
        refine ⟨⟨rfl, ?_⟩, ?_, ⟨rfl, ?_⟩, ?_, ⟨rfl, ?_⟩, ?_, ⟨rfl, ?_⟩, ?_, ⟨rfl, ?_⟩, ?_, ⟨rfl, ?_⟩, ?_, ⟨rfl, ?_⟩, ?_, ⟨rfl, ?_⟩, ?_, ⟨rfl, rfl⟩, trivial⟩
        · show gi (T1 j) 0 = gi (T j) 0
          rw [a1]
        · show eqI (gi (D1 j) 0) 1 = eqI (gi (D j) 0) 1
          rw [a2]
        · show gi (T1 j) 1 = gi (T j) 1
          rw [a1]
        · show eqI (gi (D1 j) 1) 1 = eqI (gi (D j) 1) 1
          rw [a2]
        · show gi (T1 j) 2 = gi (T j) 2
          rw [a1]
        · show eqI (gi (D1 j) 2) 1 = eqI (gi (D j) 2) 1
          rw [a2]
        · show gi (T1 j) 3 = gi (T j) 3
          rw [a1]
        · show eqI (gi (D1 j) 3) 1 = eqI (gi (D j) 3) 1
          rw [a2]
        · show gi (T1 j) 4 = gi (T j) 4
          rw [a1]
        · show eqI (gi (D1 j) 4) 1 = eqI (gi (D j) 4) 1
          rw [a2]
        · show gi (T1 j) 5 = gi (T j) 5
          rw [a1]
        · show eqI (gi (D1 j) 5) 1 = eqI (gi (D j) 5) 1
          rw [a2]
        · show gi (T1 j) 6 = gi (T j) 6
          rw [a1]
        · show eqI (gi (D1 j) 6) 1 = eqI (gi (D j) 6) 1
          rw [a2]
        · show gi (T1 j) 7 = gi (T j) 7
          rw [a1]
        · show eqI (gi (D1 j) 7) 1 = eqI (gi (D j) 7) 1
          rw [a2]
    conv => cbv
    refine ⟨nLt.mk hk, (LeOut.mk' [0, 1] (by decide) (by rfl) (by decide) (by cbv) ?_).two⟩
    conv => cbv
    refine ⟨⟨fun j hj => ?_, trivial⟩, trivial⟩
    have hxT2 : ∀ i, i < 8 → gi (T2 k) i = if i = 0 then t else gi (T1 k) i := fun i hi => by
      by_cases h0 : i = 0
      · rw [if_pos h0, hT2k i hi, if_pos h0]
      · rw [if_neg h0, h12 i hi h0]
    have hyT2 : ∀ i, i < 8 → gi (D2 k) i = if i = 0 then (if d = true then 1 else 0) else gi (D1 k) i := fun i hi => by
      by_cases h0 : i = 0
      · rw [if_pos h0, hD2k i hi, if_pos h0]
      · rw [if_neg h0, g12 i hi h0]
    refine upd_leL (fun e => ?_) (fun e => ?_)
    · subst e
      refine ⟨⟨rfl, ?_⟩, ?_, ⟨rfl, ?_⟩, ?_, ⟨rfl, ?_⟩, ?_, ⟨rfl, ?_⟩, ?_, ⟨rfl, ?_⟩, ?_, ⟨rfl, ?_⟩, ?_, ⟨rfl, ?_⟩, ?_, ⟨rfl, ?_⟩, ?_, ⟨rfl, rfl⟩, trivial⟩
      · show gi (T2 j) 0 = t
        rw [hxT2 0 (by decide)]; rfl
      · show eqI (gi (D2 j) 0) 1 = d
        exact hd.symm
      · show gi (T2 j) 1 = gi (T1 j) 1
        rw [hxT2 1 (by decide)]; rfl
      · show eqI (gi (D2 j) 1) 1 = eqI (gi (D1 j) 1) 1
        rw [hyT2 1 (by decide)]; rfl
      · show gi (T2 j) 2 = gi (T1 j) 2
        rw [hxT2 2 (by decide)]; rfl
      · show eqI (gi (D2 j) 2) 1 = eqI (gi (D1 j) 2) 1
        rw [hyT2 2 (by decide)]; rfl
      · show gi (T2 j) 3 = gi (T1 j) 3
        rw [hxT2 3 (by decide)]; rfl
      · show eqI (gi (D2 j) 3) 1 = eqI (gi (D1 j) 3) 1
        rw [hyT2 3 (by decide)]; rfl
      · show gi (T2 j) 4 = gi (T1 j) 4
        rw [hxT2 4 (by decide)]; rfl
      · show eqI (gi (D2 j) 4) 1 = eqI (gi (D1 j) 4) 1
        rw [hyT2 4 (by decide)]; rfl
      · show gi (T2 j) 5 = gi (T1 j) 5
        rw [hxT2 5 (by decide)]; rfl
      · show eqI (gi (D2 j) 5) 1 = eqI (gi (D1 j) 5) 1
        rw [hyT2 5 (by decide)]; rfl
      · show gi (T2 j) 6 = gi (T1 j) 6
        rw [hxT2 6 (by decide)]; rfl
      · show eqI (gi (D2 j) 6) 1 = eqI (gi (D1 j) 6) 1
        rw [hyT2 6 (by decide)]; rfl
      · show gi (T2 j) 7 = gi (T1 j) 7
        rw [hxT2 7 (by decide)]; rfl
      · show eqI (gi (D2 j) 7) 1 = eqI (gi (D1 j) 7) 1
        rw [hyT2 7 (by decide)]; rfl
    · have a1 := (fun j hj => by rw [hT2o j hj, hT1o j hj] : ∀ j, j ≠ k → T2 j = T1 j) j e
      have a2 := (fun j hj => by rw [hD2o j hj, hD1o j hj] : ∀ j, j ≠ k → D2 j = D1 j) j e
      refine ⟨⟨rfl, ?_⟩, ?_, ⟨rfl, ?_⟩, ?_, ⟨rfl, ?_⟩, ?_, ⟨rfl, ?_⟩, ?_, ⟨rfl, ?_⟩, ?_, ⟨rfl, ?_⟩, ?_, ⟨rfl, ?_⟩, ?_, ⟨rfl, ?_⟩, ?_, ⟨rfl, rfl⟩, trivial⟩
      · show gi (T2 j) 0 = gi (T1 j) 0
        rw [a1]
      · show eqI (gi (D2 j) 0) 1 = eqI (gi (D1 j) 0) 1
        rw [a2]
      · show gi (T2 j) 1 = gi (T1 j) 1
        rw [a1]
      · show eqI (gi (D2 j) 1) 1 = eqI (gi (D1 j) 1) 1
        rw [a2]
      · show gi (T2 j) 2 = gi (T1 j) 2
        rw [a1]
      · show eqI (gi (D2 j) 2) 1 = eqI (gi (D1 j) 2) 1
        rw [a2]
      · show gi (T2 j) 3 = gi (T1 j) 3
        rw [a1]
      · show eqI (gi (D2 j) 3) 1 = eqI (gi (D1 j) 3) 1
        rw [a2]
      · show gi (T2 j) 4 = gi (T1 j) 4
        rw [a1]
      · show eqI (gi (D2 j) 4) 1 = eqI (gi (D1 j) 4) 1
        rw [a2]
      · show gi (T2 j) 5 = gi (T1 j) 5
        rw [a1]
      · show eqI (gi (D2 j) 5) 1 = eqI (gi (D1 j) 5) 1
        rw [a2]
      · show gi (T2 j) 6 = gi (T1 j) 6
        rw [a1]
      · show eqI (gi (D2 j) 6) 1 = eqI (gi (D1 j) 6) 1
        rw [a2]
      · show gi (T2 j) 7 = gi (T1 j) 7
        rw [a1]
      · show eqI (gi (D2 j) 7) 1 = eqI (gi (D1 j) 7) 1
        rw [a2]
  | 6, _ =>
    refine OkCall.args (args' := [.p 0 (.row 3 k 17 0), .i .i64 (.lit 6), .agg [.i .u32 (.ex t), .b (.ex d)]]) ⟨⟨rfl, rfl⟩, ⟨rfl, hz.symm⟩, ⟨⟨rfl, rfl⟩, rfl, trivial⟩, trivial⟩ ?_
    refine into Im67ok 6 ?_
    conv => cbv
    refine XOpN.copyR rfl rfl u182 z128 rfl 6 (by decide) (.lit 6) rfl [.i .i64 (.ex S), .i .i64 (.ex W), .i .i64 (.ex L), .rows 17 (.lit 256) (rowS T1 D1 M)] ?_ ?_
    · conv => cbv
      refine ⟨nLt.mk hk, nLt.mk hk, ?_⟩
      conv => cbv
      refine ⟨fun j hj => ?_, trivial⟩
      have hxT1 := hT1k
      have hyT1 := hD1k
      refine upd_leL (fun e => ?_) (fun e => ?_)
      · subst e
        refine ⟨⟨rfl, ?_⟩, ?_, ⟨rfl, ?_⟩, ?_, ⟨rfl, ?_⟩, ?_, ⟨rfl, ?_⟩, ?_, ⟨rfl, ?_⟩, ?_, ⟨rfl, ?_⟩, ?_, ⟨rfl, ?_⟩, ?_, ⟨rfl, ?_⟩, ?_, ⟨rfl, rfl⟩, trivial⟩
        · show gi (T1 j) 0 = gi (T j) 0
          rw [hxT1 0 (by decide)]; rfl
        · show eqI (gi (D1 j) 0) 1 = eqI (gi (D j) 0) 1
          rw [hyT1 0 (by decide)]; rfl
        · show gi (T1 j) 1 = gi (T j) 0
          rw [hxT1 1 (by decide)]; rfl
        · show eqI (gi (D1 j) 1) 1 = eqI (gi (D j) 0) 1
          rw [hyT1 1 (by decide)]; rfl
        · show gi (T1 j) 2 = gi (T j) 1
          rw [hxT1 2 (by decide)]; rfl
        · show eqI (gi (D1 j) 2) 1 = eqI (gi (D j) 1) 1
          rw [hyT1 2 (by decide)]; rfl
        · show gi (T1 j) 3 = gi (T j) 2
          rw [hxT1 3 (by decide)]; rfl
        · show eqI (gi (D1 j) 3) 1 = eqI (gi (D j) 2) 1
          rw [hyT1 3 (by decide)]; rfl
        · show gi (T1 j) 4 = gi (T j) 3
          rw [hxT1 4 (by decide)]; rfl
        · show eqI (gi (D1 j) 4) 1 = eqI (gi (D j) 3) 1
          rw [hyT1 4 (by decide)]; rfl
        · show gi (T1 j) 5 = gi (T j) 4
          rw [hxT1 5 (by decide)]; rfl
        · show eqI (gi (D1 j) 5) 1 = eqI (gi (D j) 4) 1
          rw [hyT1 5 (by decide)]; rfl
        · show gi (T1 j) 6 = gi (T j) 5
          rw [hxT1 6 (by decide)]; rfl
        · show eqI (gi (D1 j) 6) 1 = eqI (gi (D j) 5) 1
          rw [hyT1 6 (by decide)]; rfl
        · show gi (T1 j) 7 = gi (T j) 7
          rw [hxT1 7 (by decide)]; rfl
        · show eqI (gi (D1 j) 7) 1 = eqI (gi (D j) 7) 1
          rw [hyT1 7 (by decide)]; rfl
      · have a1 := hT1o j e
        have a2 := hD1o j e
        refine ⟨⟨rfl, ?_⟩, ?_, ⟨rfl, ?_⟩, ?_, ⟨rfl, ?_⟩, ?_, ⟨rfl, ?_⟩, ?_, ⟨rfl, ?_⟩, ?_, ⟨rfl, ?_⟩, ?_, ⟨rfl, ?_⟩, ?_, ⟨rfl, ?_⟩, ?_, ⟨rfl, rfl⟩, trivial⟩
        · show gi (T1 j) 0 = gi (T j) 0
          rw [a1]
        · show eqI (gi (D1 j) 0) 1 = eqI (gi (D j) 0) 1
          rw [a2]
        · show gi (T1 j) 1 = gi (T j) 1
          rw [a1]
        · show eqI (gi (D1 j) 1) 1 = eqI (gi (D j) 1) 1
          rw [a2]
        · show gi (T1 j) 2 = gi (T j) 2
          rw [a1]
        · show eqI (gi (D1 j) 2) 1 = eqI (gi (D j) 2) 1
          rw [a2]
        · show gi (T1 j) 3 = gi (T j) 3
          rw [a1]
        · show eqI (gi (D1 j) 3) 1 = eqI (gi (D j) 3) 1
          rw [a2]
        · show gi (T1 j) 4 = gi (T j) 4
          rw [a1]
        · show eqI (gi (D1 j) 4) 1 = eqI (gi (D j) 4) 1
          rw [a2]
        · show gi (T1 j) 5 = gi (T j) 5
          rw [a1]
        · show eqI (gi (D1 j) 5) 1 = eqI (gi (D j) 5) 1
          rw [a2]
        · show gi (T1 j) 6 = gi (T j) 6
          rw [a1]
        · show eqI (gi (D1 j) 6) 1 = eqI (gi (D j) 6) 1
          rw [a2]
        · show gi (T1 j) 7 = gi (T j) 7
          rw [a1]
        · show eqI (gi (D1 j) 7) 1 = eqI (gi (D j) 7) 1
          rw [a2]
    conv => cbv
    refine ⟨nLt.mk hk, (LeOut.mk' [0, 1] (by decide) (by rfl) (by decide) (by cbv) ?_).two⟩
    conv => cbv
    refine ⟨⟨fun j hj => ?_, trivial⟩, trivial⟩
    have hxT2 : ∀ i, i < 8 → gi (T2 k) i = if i = 0 then t else gi (T1 k) i := fun i hi => by
      by_cases h0 : i = 0
      · rw [if_pos h0, hT2k i hi, if_pos h0]
      · rw [if_neg h0, h12 i hi h0]
    have hyT2 : ∀ i, i < 8 → gi (D2 k) i = if i = 0 then (if d = true then 1 else 0) else gi (D1 k) i := fun i hi => by
      by_cases h0 : i = 0
      · rw [if_pos h0, hD2k i hi, if_pos h0]
      · rw [if_neg h0, g12 i hi h0]
    refine upd_leL (fun e => ?_) (fun e => ?_)
    · subst e
      refine ⟨⟨rfl, ?_⟩, ?_, ⟨rfl, ?_⟩, ?_, ⟨rfl, ?_⟩, ?_, ⟨rfl, ?_⟩, ?_, ⟨rfl, ?_⟩, ?_, ⟨rfl, ?_⟩, ?_, ⟨rfl, ?_⟩, ?_, ⟨rfl, ?_⟩, ?_, ⟨rfl, rfl⟩, trivial⟩
      · show gi (T2 j) 0 = t
        rw [hxT2 0 (by decide)]; rfl
      · show eqI (gi (D2 j) 0) 1 = d
        exact hd.symm
      · show gi (T2 j) 1 = gi (T1 j) 1
        rw [hxT2 1 (by decide)]; rfl
      · show eqI (gi (D2 j) 1) 1 = eqI (gi (D1 j) 1) 1
        rw [hyT2 1 (by decide)]; rfl
      · show gi (T2 j) 2 = gi (T1 j) 2
        rw [hxT2 2 (by decide)]; rfl
      · show eqI (gi (D2 j) 2) 1 = eqI (gi (D1 j) 2) 1
        rw [hyT2 2 (by decide)]; rfl
      · show gi (T2 j) 3 = gi (T1 j) 3
        rw [hxT2 3 (by decide)]; rfl
      · show eqI (gi (D2 j) 3) 1 = eqI (gi (D1 j) 3) 1
        rw [hyT2 3 (by decide)]; rfl
      · show gi (T2 j) 4 = gi (T1 j) 4
        rw [hxT2 4 (by decide)]; rfl
      · show eqI (gi (D2 j) 4) 1 = eqI (gi (D1 j) 4) 1
        rw [hyT2 4 (by decide)]; rfl
      · show gi (T2 j) 5 = gi (T1 j) 5
        rw [hxT2 5 (by decide)]; rfl
      · show eqI (gi (D2 j) 5) 1 = eqI (gi (D1 j) 5) 1
        rw [hyT2 5 (by decide)]; rfl
      · show gi (T2 j) 6 = gi (T1 j) 6
        rw [hxT2 6 (by decide)]; rfl
      · show eqI (gi (D2 j) 6) 1 = eqI (gi (D1 j) 6) 1
        rw [hyT2 6 (by decide)]; rfl
      · show gi (T2 j) 7 = gi (T1 j) 7
        rw [hxT2 7 (by decide)]; rfl
      · show eqI (gi (D2 j) 7) 1 = eqI (gi (D1 j) 7) 1
        rw [hyT2 7 (by decide)]; rfl
    · have a1 := (fun j hj => by rw [hT2o j hj, hT1o j hj] : ∀ j, j ≠ k → T2 j = T1 j) j e
      have a2 := (fun j hj => by rw [hD2o j hj, hD1o j hj] : ∀ j, j ≠ k → D2 j = D1 j) j e
      refine ⟨⟨rfl, ?_⟩, ?_, ⟨rfl, ?_⟩, ?_, ⟨rfl, ?_⟩, ?_, ⟨rfl, ?_⟩, ?_, ⟨rfl, ?_⟩, ?_, ⟨rfl, ?_⟩, ?_, ⟨rfl, ?_⟩, ?_, ⟨rfl, ?_⟩, ?_, ⟨rfl, rfl⟩, trivial⟩
      · show gi (T2 j) 0 = gi (T1 j) 0
        rw [a1]
      · show eqI (gi (D2 j) 0) 1 = eqI (gi (D1 j) 0) 1
        rw [a2]
      · show gi (T2 j) 1 = gi (T1 j) 1
        rw [a1]
      · show eqI (gi (D2 j) 1) 1 = eqI (gi (D1 j) 1) 1
        rw [a2]
      · show gi (T2 j) 2 = gi (T1 j) 2
        rw [a1]
      · show eqI (gi (D2 j) 2) 1 = eqI (gi (D1 j) 2) 1
        rw [a2]
      · show gi (T2 j) 3 = gi (T1 j) 3
        rw [a1]
      · show eqI (gi (D2 j) 3) 1 = eqI (gi (D1 j) 3) 1
        rw [a2]
      · show gi (T2 j) 4 = gi (T1 j) 4
        rw [a1]
      · show eqI (gi (D2 j) 4) 1 = eqI (gi (D1 j) 4) 1
        rw [a2]
      · show gi (T2 j) 5 = gi (T1 j) 5
        rw [a1]
      · show eqI (gi (D2 j) 5) 1 = eqI (gi (D1 j) 5) 1
        rw [a2]
      · show gi (T2 j) 6 = gi (T1 j) 6
        rw [a1]
      · show eqI (gi (D2 j) 6) 1 = eqI (gi (D1 j) 6) 1
        rw [a2]
      · show gi (T2 j) 7 = gi (T1 j) 7
        rw [a1]
      · show eqI (gi (D2 j) 7) 1 = eqI (gi (D1 j) 7) 1
        rw [a2]
  | 7, _ =>
    refine OkCall.args (args' := [.p 0 (.row 3 k 17 0), .i .i64 (.lit 7), .agg [.i .u32 (.ex t), .b (.ex d)]]) ⟨⟨rfl, rfl⟩, ⟨rfl, hz.symm⟩, ⟨⟨rfl, rfl⟩, rfl, trivial⟩, trivial⟩ ?_
    refine into Im67ok 6 ?_
    conv => cbv
    refine XOpN.copyR rfl rfl u182 z128 rfl 7 (by decide) (.lit 7) rfl [.i .i64 (.ex S), .i .i64 (.ex W), .i .i64 (.ex L), .rows 17 (.lit 256) (rowS T1 D1 M)] ?_ ?_
    · conv => cbv
      refine ⟨nLt.mk hk, nLt.mk hk, ?_⟩
      conv => cbv
      refine ⟨fun j hj => ?_, trivial⟩
      have hxT1 := hT1k
      have hyT1 := hD1k
      refine upd_leL (fun e => ?_) (fun e => ?_)
      · subst e
        refine ⟨⟨rfl, ?_⟩, ?_, ⟨rfl, ?_⟩, ?_, ⟨rfl, ?_⟩, ?_, ⟨rfl, ?_⟩, ?_, ⟨rfl, ?_⟩, ?_, ⟨rfl, ?_⟩, ?_, ⟨rfl, ?_⟩, ?_, ⟨rfl, ?_⟩, ?_, ⟨rfl, rfl⟩, trivial⟩
        · show gi (T1 j) 0 = gi (T j) 0
          rw [hxT1 0 (by decide)]; rfl
        · show eqI (gi (D1 j) 0) 1 = eqI (gi (D j) 0) 1
          rw [hyT1 0 (by decide)]; rfl
        · show gi (T1 j) 1 = gi (T j) 0
          rw [hxT1 1 (by decide)]; rfl
        · show eqI (gi (D1 j) 1) 1 = eqI (gi (D j) 0) 1
          rw [hyT1 1 (by decide)]; rfl
        · show gi (T1 j) 2 = gi (T j) 1
          rw [hxT1 2 (by decide)]; rfl
        · show eqI (gi (D1 j) 2) 1 = eqI (gi (D j) 1) 1
          rw [hyT1 2 (by decide)]; rfl
        · show gi (T1 j) 3 = gi (T j) 2
          rw [hxT1 3 (by decide)]; rfl
        · show eqI (gi (D1 j) 3) 1 = eqI (gi (D j) 2) 1
          rw [hyT1 3 (by decide)]; rfl
        · show gi (T1 j) 4 = gi (T j) 3
          rw [hxT1 4 (by decide)]; rfl
        · show eqI (gi (D1 j) 4) 1 = eqI (gi (D j) 3) 1
          rw [hyT1 4 (by decide)]; rfl
        · show gi (T1 j) 5 = gi (T j) 4
          rw [hxT1 5 (by decide)]; rfl
        · show eqI (gi (D1 j) 5) 1 = eqI (gi (D j) 4) 1
          rw [hyT1 5 (by decide)]; rfl
        · show gi (T1 j) 6 = gi (T j) 5
          rw [hxT1 6 (by decide)]; rfl
        · show eqI (gi (D1 j) 6) 1 = eqI (gi (D j) 5) 1
          rw [hyT1 6 (by decide)]; rfl
        · show gi (T1 j) 7 = gi (T j) 6
          rw [hxT1 7 (by decide)]; rfl
        · show eqI (gi (D1 j) 7) 1 = eqI (gi (D j) 6) 1
          rw [hyT1 7 (by decide)]; rfl
      · have a1 := hT1o j e
        have a2 := hD1o j e
        refine ⟨⟨rfl, ?_⟩, ?_, ⟨rfl, ?_⟩, ?_, ⟨rfl, ?_⟩, ?_, ⟨rfl, ?_⟩, ?_, ⟨rfl, ?_⟩, ?_, ⟨rfl, ?_⟩, ?_, ⟨rfl, ?_⟩, ?_, ⟨rfl, ?_⟩, ?_, ⟨rfl, rfl⟩, trivial⟩
        · show gi (T1 j) 0 = gi (T j) 0
          rw [a1]
        · show eqI (gi (D1 j) 0) 1 = eqI (gi (D j) 0) 1
          rw [a2]
        · show gi (T1 j) 1 = gi (T j) 1
          rw [a1]
        · show eqI (gi (D1 j) 1) 1 = eqI (gi (D j) 1) 1
          rw [a2]
        · show gi (T1 j) 2 = gi (T j) 2
          rw [a1]
        · show eqI (gi (D1 j) 2) 1 = eqI (gi (D j) 2) 1
          rw [a2]
        · show gi (T1 j) 3 = gi (T j) 3
          rw [a1]
        · show eqI (gi (D1 j) 3) 1 = eqI (gi (D j) 3) 1
          rw [a2]
        · show gi (T1 j) 4 = gi (T j) 4
          rw [a1]
        · show eqI (gi (D1 j) 4) 1 = eqI (gi (D j) 4) 1
          rw [a2]
        · show gi (T1 j) 5 = gi (T j) 5
          rw [a1]
        · show eqI (gi (D1 j) 5) 1 = eqI (gi (D j) 5) 1
          rw [a2]
        · show gi (T1 j) 6 = gi (T j) 6
          rw [a1]
        · show eqI (gi (D1 j) 6) 1 = eqI (gi (D j) 6) 1
          rw [a2]
        · show gi (T1 j) 7 = gi (T j) 7
          rw [a1]
        · show eqI (gi (D1 j) 7) 1 = eqI (gi (D j) 7) 1
          rw [a2]
    conv => cbv
    refine ⟨nLt.mk hk, (LeOut.mk' [0, 1] (by decide) (by rfl) (by decide) (by cbv) ?_).two⟩
    conv => cbv
    refine ⟨⟨fun j hj => ?_, trivial⟩, trivial⟩
    have hxT2 : ∀ i, i < 8 → gi (T2 k) i = if i = 0 then t else gi (T1 k) i := fun i hi => by
      by_cases h0 : i = 0
      · rw [if_pos h0, hT2k i hi, if_pos h0]
      · rw [if_neg h0, h12 i hi h0]
    have hyT2 : ∀ i, i < 8 → gi (D2 k) i = if i = 0 then (if d = true then 1 else 0) else gi (D1 k) i := fun i hi => by
      by_cases h0 : i = 0
      · rw [if_pos h0, hD2k i hi, if_pos h0]
      · rw [if_neg h0, g12 i hi h0]
    refine upd_leL (fun e => ?_) (fun e => ?_)
    · subst e
      refine ⟨⟨rfl, ?_⟩, ?_, ⟨rfl, ?_⟩, ?_, ⟨rfl, ?_⟩, ?_, ⟨rfl, ?_⟩, ?_, ⟨rfl, ?_⟩, ?_, ⟨rfl, ?_⟩, ?_, ⟨rfl, ?_⟩, ?_, ⟨rfl, ?_⟩, ?_, ⟨rfl, rfl⟩, trivial⟩
      · show gi (T2 j) 0 = t
        rw [hxT2 0 (by decide)]; rfl
      · show eqI (gi (D2 j) 0) 1 = d
        exact hd.symm
      · show gi (T2 j) 1 = gi (T1 j) 1
        rw [hxT2 1 (by decide)]; rfl
      · show eqI (gi (D2 j) 1) 1 = eqI (gi (D1 j) 1) 1
        rw [hyT2 1 (by decide)]; rfl
      · show gi (T2 j) 2 = gi (T1 j) 2
        rw [hxT2 2 (by decide)]; rfl
      · show eqI (gi (D2 j) 2) 1 = eqI (gi (D1 j) 2) 1
        rw [hyT2 2 (by decide)]; rfl
      · show gi (T2 j) 3 = gi (T1 j) 3
        rw [hxT2 3 (by decide)]; rfl
      · show eqI (gi (D2 j) 3) 1 = eqI (gi (D1 j) 3) 1
        rw [hyT2 3 (by decide)]; rfl
      · show gi (T2 j) 4 = gi (T1 j) 4
        rw [hxT2 4 (by decide)]; rfl
      · show eqI (gi (D2 j) 4) 1 = eqI (gi (D1 j) 4) 1
        rw [hyT2 4 (by decide)]; rfl
      · show gi (T2 j) 5 = gi (T1 j) 5
        rw [hxT2 5 (by decide)]; rfl
      · show eqI (gi (D2 j) 5) 1 = eqI (gi (D1 j) 5) 1
        rw [hyT2 5 (by decide)]; rfl
      · show gi (T2 j) 6 = gi (T1 j) 6
        rw [hxT2 6 (by decide)]; rfl
      · show eqI (gi (D2 j) 6) 1 = eqI (gi (D1 j) 6) 1
        rw [hyT2 6 (by decide)]; rfl
      · show gi (T2 j) 7 = gi (T1 j) 7
        rw [hxT2 7 (by decide)]; rfl
      · show eqI (gi (D2 j) 7) 1 = eqI (gi (D1 j) 7) 1
        rw [hyT2 7 (by decide)]; rfl
    · have a1 := (fun j hj => by rw [hT2o j hj, hT1o j hj] : ∀ j, j ≠ k → T2 j = T1 j) j e
      have a2 := (fun j hj => by rw [hD2o j hj, hD1o j hj] : ∀ j, j ≠ k → D2 j = D1 j) j e
      refine ⟨⟨rfl, ?_⟩, ?_, ⟨rfl, ?_⟩, ?_, ⟨rfl, ?_⟩, ?_, ⟨rfl, ?_⟩, ?_, ⟨rfl, ?_⟩, ?_, ⟨rfl, ?_⟩, ?_, ⟨rfl, ?_⟩, ?_, ⟨rfl, ?_⟩, ?_, ⟨rfl, rfl⟩, trivial⟩
      · show gi (T2 j) 0 = gi (T1 j) 0
        rw [a1]
      · show eqI (gi (D2 j) 0) 1 = eqI (gi (D1 j) 0) 1
        rw [a2]
      · show gi (T2 j) 1 = gi (T1 j) 1
        rw [a1]
      · show eqI (gi (D2 j) 1) 1 = eqI (gi (D1 j) 1) 1
        rw [a2]
      · show gi (T2 j) 2 = gi (T1 j) 2
        rw [a1]
      · show eqI (gi (D2 j) 2) 1 = eqI (gi (D1 j) 2) 1
        rw [a2]
      · show gi (T2 j) 3 = gi (T1 j) 3
        rw [a1]
      · show eqI (gi (D2 j) 3) 1 = eqI (gi (D1 j) 3) 1
        rw [a2]
      · show gi (T2 j) 4 = gi (T1 j) 4
        rw [a1]
      · show eqI (gi (D2 j) 4) 1 = eqI (gi (D1 j) 4) 1
        rw [a2]
      · show gi (T2 j) 5 = gi (T1 j) 5
        rw [a1]
      · show eqI (gi (D2 j) 5) 1 = eqI (gi (D1 j) 5) 1
        rw [a2]
      · show gi (T2 j) 6 = gi (T1 j) 6
        rw [a1]
      · show eqI (gi (D2 j) 6) 1 = eqI (gi (D1 j) 6) 1
        rw [a2]
      · show gi (T2 j) 7 = gi (T1 j) 7
        rw [a1]
      · show eqI (gi (D2 j) 7) 1 = eqI (gi (D1 j) 7) 1
        rw [a2]
end Go.Proofs.YtafhmkedblpdlaaDoor
end

/-
  cache: where an address lies.
-/
section
namespace Go.Proofs.YtafhmkedblpdlaaDoor
open Go Go.Vex
set_option maxRecDepth 20000
set_option maxHeartbeats 4000000
def tz64 : List Int := [0, 1, 56, 2, 57, 49, 28, 3, 61, 58, 42, 50, 38, 29, 17, 4, 62, 47, 59, 36, 45, 43, 51, 22, 53, 39, 33, 30, 24, 18, 12, 5, 63, 55, 48, 27, 60, 41, 37, 16, 46, 35, 44, 21, 52, 32, 23, 11, 54, 26, 40, 15, 34, 20, 31, 10, 25, 14, 19, 9, 13, 8, 7, 6]
abbrev tzB : Blk := .glob 1 [.ints .u8 (.lit 64) tz64]
noncomputable def Im75 : FnT := [(75, fi Tryd.f75 ⟨[], 0⟩), (81, fi Tryd.f81 ⟨[], 0⟩)]
theorem Im75ok : FnsOk kit Im75 := ⟨fo75 _, fo81 _, trivial⟩
theorem tz_spec (e : Nat) (x : Int) (he : e ≤ 8) (hx : x = 2 ^ e) {r : Int} (hr : r = e) : Spec1 kit 75 [.i .u64 (.ex x)] [tzB] true (.i .i64 (.ex r)) [tzB] [] := by
  refine Spec1.mk2 rfl fun F => ?_
  match e, he with
  | 0, _ =>
    refine OkCall.args (args' := [.i .u64 (.lit 1)]) ⟨⟨rfl, by rw [hx]; rfl⟩, trivial⟩ ?_
    refine into Im75ok 6 ?_
    conv => cbv
    refine (LeOut.mk' [0, 1] (by decide) (by rfl) (by decide) ?_ (by cbv)).two
    conv => cbv
    show r = convI .i64 (gi tz64 0)
    rw [hr, gi_eq, convI_eq]; rfl
  | 1, _ =>
    refine OkCall.args (args' := [.i .u64 (.lit 2)]) ⟨⟨rfl, by rw [hx]; rfl⟩, trivial⟩ ?_
    refine into Im75ok 6 ?_
    conv => cbv
    refine (LeOut.mk' [0, 1] (by decide) (by rfl) (by decide) ?_ (by cbv)).two
    conv => cbv
    show r = convI .i64 (gi tz64 1)
    rw [hr, gi_eq, convI_eq]; rfl
  | 2, _ =>
    refine OkCall.args (args' := [.i .u64 (.lit 4)]) ⟨⟨rfl, by rw [hx]; rfl⟩, trivial⟩ ?_
    refine into Im75ok 6 ?_
    conv => cbv
    refine (LeOut.mk' [0, 1] (by decide) (by rfl) (by decide) ?_ (by cbv)).two
    conv => cbv
    show r = convI .i64 (gi tz64 3)
    rw [hr, gi_eq, convI_eq]; rfl
  | 3, _ =>
    refine OkCall.args (args' := [.i .u64 (.lit 8)]) ⟨⟨rfl, by rw [hx]; rfl⟩, trivial⟩ ?_
    refine into Im75ok 6 ?_
    conv => cbv
    refine (LeOut.mk' [0, 1] (by decide) (by rfl) (by decide) ?_ (by cbv)).two
    conv => cbv
    show r = convI .i64 (gi tz64 7)
    rw [hr, gi_eq, convI_eq]; rfl
  | 4, _ =>
    refine OkCall.args (args' := [.i .u64 (.lit 16)]) ⟨⟨rfl, by rw [hx]; rfl⟩, trivial⟩ ?_
    refine into Im75ok 6 ?_
    conv => cbv
    refine (LeOut.mk' [0, 1] (by decide) (by rfl) (by decide) ?_ (by cbv)).two
    conv => cbv
    show r = convI .i64 (gi tz64 15)
    rw [hr, gi_eq, convI_eq]; rfl
  | 5, _ =>
    refine OkCall.args (args' := [.i .u64 (.lit 32)]) ⟨⟨rfl, by rw [hx]; rfl⟩, trivial⟩ ?_
    refine into Im75ok 6 ?_
    conv => cbv
    refine (LeOut.mk' [0, 1] (by decide) (by rfl) (by decide) ?_ (by cbv)).two
    conv => cbv
    show r = convI .i64 (gi tz64 31)
    rw [hr, gi_eq, convI_eq]; rfl
  | 6, _ =>
    refine OkCall.args (args' := [.i .u64 (.lit 64)]) ⟨⟨rfl, by rw [hx]; rfl⟩, trivial⟩ ?_
    refine into Im75ok 6 ?_
    conv => cbv
    refine (LeOut.mk' [0, 1] (by decide) (by rfl) (by decide) ?_ (by cbv)).two
    conv => cbv
    show r = convI .i64 (gi tz64 63)
    rw [hr, gi_eq, convI_eq]; rfl
  | 7, _ =>
    refine OkCall.args (args' := [.i .u64 (.lit 128)]) ⟨⟨rfl, by rw [hx]; rfl⟩, trivial⟩ ?_
    refine into Im75ok 6 ?_
    conv => cbv
    refine (LeOut.mk' [0, 1] (by decide) (by rfl) (by decide) ?_ (by cbv)).two
    conv => cbv
    show r = convI .i64 (gi tz64 62)
    rw [hr, gi_eq, convI_eq]; rfl
  | 8, _ =>
    refine OkCall.args (args' := [.i .u64 (.lit 256)]) ⟨⟨rfl, by rw [hx]; rfl⟩, trivial⟩ ?_
    refine into Im75ok 6 ?_
    conv => cbv
    refine (LeOut.mk' [0, 1] (by decide) (by rfl) (by decide) ?_ (by cbv)).two
    conv => cbv
    show r = convI .i64 (gi tz64 61)
    rw [hr, gi_eq, convI_eq]; rfl
theorem mask_i64 {a : Int} (k : Nat) (hk : k ≤ 32) (h0 : 0 ≤ a) (h1 : a < 4294967296) : andI .i64 a (2 ^ k - 1) = a % 2 ^ k := by
  have e0 : ((2 ^ k - 1 : Nat) : Int) = (2 : Int) ^ k - 1 := by
    have : 1 ≤ 2 ^ k := Nat.one_le_two_pow
    rw [Int.natCast_sub this]; simp
  obtain ⟨n, rfl⟩ := Int.eq_ofNat_of_zero_le h0
  rw [← e0, andI_eq]
  show IntKind.i64.wrap ((BitVec.ofInt 64 (n : Int) &&& BitVec.ofInt 64 ((2 ^ k - 1 : Nat) : Int)).toNat : Int) = _
  rw [BitVec.ofInt_natCast, BitVec.ofInt_natCast, BitVec.toNat_and, BitVec.toNat_ofNat, BitVec.toNat_ofNat]
  have hb : 2 ^ k - 1 < 2 ^ 32 := Nat.lt_of_lt_of_le (Nat.sub_lt (Nat.two_pow_pos k) (by decide)) (Nat.pow_le_pow_right (by decide) hk)
  rw [Nat.mod_eq_of_lt (show n < 2 ^ 64 by omega), Nat.mod_eq_of_lt (show 2 ^ k - 1 < 2 ^ 64 by omega), Nat.and_two_pow_sub_one_eq_mod]
  have := Nat.mod_le n (2 ^ k)
  rw [IntWalk.i64_in _ (by omega)]
  simp
noncomputable def Im65 : FnT := [(65, fi Tryd.f65 ⟨[], 0⟩)]
theorem Im65ok : FnsOk kit Im65 := ⟨fo65 _, trivial⟩
theorem place_spec' (a b : Nat) (S W L addr : Int) (ha : a ≤ 8) (hb : b ≤ 8) (hS : S = 2 ^ a) (hL : L = 2 ^ b) (had : 0 ≤ addr ∧ addr < 4294967296) {k t : Int} (hk : k = addr / L % S) (ht : t = addr / L / S) :
    Spec1 kit 65 [.agg [.i .i64 (.ex S), .i .i64 (.ex W), .i .i64 (.ex L)], .i .u32 (.ex addr)] [tzB] false (.tup [.i .i64 (.ex k), .i .u32 (.ex t)]) [tzB] [] := by
  obtain ⟨a1, ha1⟩ : ∃ x : Int, x = a := ⟨_, rfl⟩
  obtain ⟨b1, hb1⟩ : ∃ x : Int, x = b := ⟨_, rfl⟩
  have h2 : ∀ n : Nat, n ≤ 8 → (1 : Int) ≤ 2 ^ n ∧ (2 : Int) ^ n ≤ 256 := fun n hn => by
    match n, hn with
    | 0, _ => decide
    | 1, _ => decide
    | 2, _ => decide
    | 3, _ => decide
    | 4, _ => decide
    | 5, _ => decide
    | 6, _ => decide
    | 7, _ => decide
    | 8, _ => decide
  have hSb := h2 a ha
  have hLb := h2 b hb
  rw [← hS] at hSb
  rw [← hL] at hLb
  refine Spec1.mk2 rfl fun F => ?_
  refine into Im65ok 6 ?_
  conv => cbv
  refine OkCall.by_spec (tz_spec b L hb hL hb1) [0] (by decide) ?_ (by cbv) ?_
  · conv => cbv
    refine ⟨?_, trivial⟩
    show L = convI .u64 L
    rw [convI_eq, wrap_u64]; omega
  conv => cbv
  refine ⟨geZ.mk (by omega), QCall.of_call (.i .i64 (.ex a1)) rfl (OkCall.by_spec (tz_spec a S ha hS ha1) [0] (by decide) ?_ (by cbv) ?_) ?_⟩
  · conv => cbv
    refine ⟨?_, trivial⟩
    show S = convI .u64 S
    rw [convI_eq, wrap_u64]; omega
  · conv => cbv
    trivial
  conv => cbv
  have hq : shrI .u32 addr b1 = addr / L := by
    rw [shrI_eq, hL, hb1, show (b : Int).toNat = b by omega, show min b (IntKind.u32.bits) = b by show min b 32 = b; omega]
    exact Int.fdiv_eq_ediv_of_nonneg _ (by omega)
  have hqb : 0 ≤ addr / L ∧ addr / L < 4294967296 := ⟨Int.ediv_nonneg had.1 (by omega), by
    have := Int.ediv_le_self L had.1; omega⟩
  have hq2 : shrI .u32 (addr / L) a1 = addr / L / S := by
    rw [shrI_eq, hS, ha1, show (a : Int).toNat = a by omega, show min a (IntKind.u32.bits) = a by show min a 32 = a; omega]
    exact Int.fdiv_eq_ediv_of_nonneg _ (by omega)
  refine ⟨geZ.mk (by omega), (LeOut.mk' [0, 1] (by decide) (by rfl) (by decide) ?_ (by cbv)).two⟩
  conv => cbv
  refine ⟨?_, ?_, trivial⟩
  · show k = andI .i64 (convI .i64 (shrI .u32 addr b1)) (subI .i64 S 1)
    rw [hq, convI_eq, IntWalk.i64_in _ (by omega), subI_eq, IntWalk.i64_in _ (by omega), hk, hS]
    exact (mask_i64 a (by omega) (by omega) (by omega)).symm
  · show t = shrI .u32 (shrI .u32 addr b1) a1
    rw [hq, hq2, ht]
end Go.Proofs.YtafhmkedblpdlaaDoor
end

/-
  What is laid for the laws of the MMU: the tables of math/bits.
-/
section
namespace Go.Proofs.YtafhmkedblpdlaaDoor
open Go Go.Vex
set_option maxRecDepth 100000
theorem own : ownKnob Tryd.prog.godebug = none := by kernel_rfl
theorem laidOut : laidOutB Tryd.prog = true := by kernel_rfl
theorem laid_rest {P : Program} {x : String × DataW Unit} {r : List (String × DataW Unit)} {W : World} (h : laidMet P (x :: r) W) : laidMet P r W := by
  obtain ⟨n, d⟩ := x
  obtain ⟨ps, ⟨g, t, cs, fuel, p, q, _, _, _, _, h1, rfl⟩, hnd, hc⟩ := h
  exact ⟨q, h1, (List.nodup_append.1 hnd).2.1, fun b off hb => hc b off (List.mem_append_right _ hb)⟩
def tz32 : List Int := [0, 1, 28, 2, 29, 14, 24, 3, 30, 22, 20, 15, 25, 17, 4, 8, 31, 27, 13, 23, 21, 19, 16, 7, 26, 12, 18, 6, 11, 5, 10, 9]
theorem glob_init {W : World} (h : laidMetH Tryd.prog Rows.mMULongRow.laid W) : InitSat [some (1, 0)] [tzB] W := by
  have hf : (Rows.mMULongRow.laid.filter fun x => x.2.handleName?.isSome) = [] := by kernel_rfl
  unfold laidMetH at h
  rw [hf] at h
  have h := laid_rest h
  have hv : W.var? Tryd.prog "math/bits.deBruijn64tab" = some (tz64.map (Value.int .u8)).toArray :=
    laid_cells (name := "math/bits.deBruijn64tab") (rest := []) (g := 1) (t := 194) (n := 9) (ks := List.replicate 64 (some .u8)) (by kernel_rfl) (by kernel_rfl) (by kernel_rfl) (by kernel_rfl) h
  have hg : Tryd.prog.globalNamed "math/bits.deBruijn64tab" = some 1 := by kernel_rfl
  unfold World.var? at hv
  rw [hg] at hv
  simp only [Option.bind_some] at hv
  split at hv
  · rename_i cs T fz hh
    cases hv
    refine InitSat.push (InitSat.nil W) (see := [1]) ⟨tz64.map (Value.int .u8), _, T, fz, .cons _ [] (by simp) (.ints rfl rfl) (.nil rfl), rfl, rfl, hh, fun j c hj => by simpa using hj⟩ ?_
    intro b hb
    simp at hb; subst hb
    exact (Array.getElem?_eq_some_iff.1 hh).1
  · cases hv
def lay64 : Obj → Obj
  | .cells _ t frozen => .cells (tz64.map (Value.int .u8)).toArray t frozen
  | o => o
def lay32 : Obj → Obj
  | .cells _ t frozen => .cells (tz32.map (Value.int .u8)).toArray t frozen
  | o => o
noncomputable def laidWorld (os : Os) : World :=
  { World.holding Tryd.prog os ⟨#[], #[], []⟩ with heap := ((World.holding Tryd.prog os ⟨#[], #[], []⟩).heap.modify 1 lay64).modify 0 lay32 }
open Go.ChangeShapes Go.WideShapes Go.ChangeAt Go.RowKit in
theorem trodAll_len {H : Type} {enc : TypeId × Value → H} {P : Program} {W : World} {base : Nat} {sp : Nat → Bool} {held : Bool} : ∀ {ts : List Nat} {vals : List Value} {ds : List (DataW H)} {ps : List MemPlace},
    DataW.TrodAll enc P W base sp held ts vals ds ps → ds.length = ts.length
  | [], vals, ds, ps, h => by obtain ⟨_, e, _⟩ := trodAll_nil h; rw [e]; rfl
  | t :: ts, vals, ds, ps, h => by
    obtain ⟨v0, vs0, d0, ds0, p0, q0, _, e0, _, _, r0⟩ := trodAll_cons h
    rw [e0]; simp [trodAll_len r0]
end Go.Proofs.YtafhmkedblpdlaaDoor
end

/-
  memory: words loaded and stored, pages filled.
-/
section
namespace Go.Proofs.YtafhmkedblpdlaaDoor
open Go Go.Vex
set_option maxRecDepth 20000
set_option maxHeartbeats 4000000
theorem mt135 : MapT kit 114 22 113 (.int .u32) (.pointer none) := ⟨by rw [kit_P]; kernel_rfl, by rw [kit_P]; kernel_rfl, by rw [kit_P]; kernel_rfl⟩
theorem ku27 : KeyT kit 22 (Value.int .u32) := KeyT.int (k' := .u32) (by rw [kit_P]; kernel_rfl)
theorem u175 : kit.P.underlying 63 = some (.slice 5) := by rw [kit_P]; kernel_rfl
theorem s5 : (kit.P.info? 5).map (·.size) = some 1 := by rw [kit_P]; kernel_rfl
/-- The byte at an address. -/
def bytesOf (kvs : List (Int × List Int)) (a : Int) : Int :=
  match pidx (a / 4096) kvs 0 with
  | none => 0
  | some j => ((kvs.getD j (0, [])).2).getD (a % 4096).toNat 0
def PgOk (kvs : List (Int × List Int)) : Prop := ∀ x ∈ kvs, x.2.length = 4096 ∧ ∀ z ∈ x.2, 0 ≤ z ∧ z < 256
def memSh (n : Int) (f : Int → Int) (l : List Blk) : Prop := ∃ kvs, PgOk kvs ∧ (∀ a, bytesOf kvs a = f a) ∧ l = [.cells 116 [.i .i64 (.ex n), .map 1], .abs (PM 118 kvs)]
abbrev memB (n : Int) (f : Int → Int) : Blk := .pk (memSh n f)
def wordErr (n at_ : Int) : Int := if at_ % 4 ≠ 0 then 21 else if n * 4096 - 4 < at_ then 22 else 0
def w32f (f : Int → Int) (at_ : Int) : Int := f at_ + 256 * f (at_ + 1) + 65536 * f (at_ + 2) + 16777216 * f (at_ + 3)
noncomputable def I37 : FnT := [(47, fi Tryd.f47 ⟨[], 5⟩), (18, fi Tryd.f18 ⟨[], 0⟩), (43, fi Tryd.f43 ⟨[], 0⟩), (60, fi Tryd.f60 ⟨[], 0⟩), (44, fi Tryd.f44 ⟨[7, 8], 2⟩), (72, fi Tryd.f72 ⟨[], 0⟩)]
theorem I37ok : FnsOk kit I37 := ⟨fo47 _, fo18 _, fo43 _, fo60 _, fo44 _, fo72 _, trivial⟩
theorem PgOk.len {kvs : List (Int × List Int)} (h : PgOk kvs) : ∀ (i : Nat) key l, kvs[i]? = some (key, l) → l.length = (S.lit 4096).val := fun i key l hi => (h _ (List.mem_of_getElem? hi)).1
theorem bytes_none {kvs : List (Int × List Int)} {k a : Int} (hk : a / 4096 = k) (h : pidx k kvs 0 = none) : bytesOf kvs a = 0 := by unfold bytesOf; rw [hk, h]
theorem bytes_some {kvs : List (Int × List Int)} {k a : Int} {i : Nat} {l : List Int} (hk : a / 4096 = k) (h : pidx k kvs 0 = some i) (hi : kvs[i]? = some (k, l)) : bytesOf kvs a = l.getD (a % 4096).toNat 0 := by
  unfold bytesOf; rw [hk, h]; simp [List.getD_eq_getElem?_getD, hi]
theorem take4 {l : List Int} {o : Nat} (h : o + 4 ≤ l.length) : (l.drop o).take 4 = [l.getD o 0, l.getD (o + 1) 0, l.getD (o + 2) 0, l.getD (o + 3) 0] := by
  apply List.ext_getElem?
  intro j
  by_cases hj : j < 4
  · rw [List.getElem?_take_of_lt hj, List.getElem?_drop]
    have : j = 0 ∨ j = 1 ∨ j = 2 ∨ j = 3 := by omega
    rcases this with rfl | rfl | rfl | rfl <;> simp only [List.getElem?_cons_zero, List.getElem?_cons_succ, List.getD_eq_getElem?_getD, Nat.add_zero] <;> rw [List.getElem?_eq_getElem (by omega)] <;> rfl
  · rw [List.getElem?_eq_none (by simp; omega), List.getElem?_eq_none (by simp; omega)]
theorem or_hi (k : Nat) (x c : Int) (hk : k ≤ 32) (h0 : 0 ≤ x) (h1 : x < (2 ^ k : Nat)) (c0 : 0 ≤ c) (hb : (2 ^ k : Nat) * c < 4294967296) : orI .u32 x ((2 ^ k : Nat) * c) = x + (2 ^ k : Nat) * c := by
  obtain ⟨n, rfl⟩ := Int.eq_ofNat_of_zero_le h0
  obtain ⟨m, rfl⟩ := Int.eq_ofNat_of_zero_le c0
  have hn : n < 2 ^ k := by omega
  have hm : 2 ^ k * m < 2 ^ 32 := by
    have : ((2 ^ k * m : Nat) : Int) < 4294967296 := by rw [Int.natCast_mul]; exact hb
    omega
  have h32 : n < 2 ^ 32 := Nat.lt_of_lt_of_le hn (Nat.pow_le_pow_right (by decide) hk)
  rw [← Int.natCast_mul, or_u32 h32 hm, Nat.or_comm, ← Nat.two_pow_add_eq_or_of_lt hn m]
  simp [Int.add_comm]
theorem w_of {b0 b1 b2 b3 : Int} (h0 : 0 ≤ b0 ∧ b0 < 256) (h1 : 0 ≤ b1 ∧ b1 < 256) (h2 : 0 ≤ b2 ∧ b2 < 256) (h3 : 0 ≤ b3 ∧ b3 < 256) :
    orI .u32 (orI .u32 (orI .u32 (orI .u32 0 (shlI .u32 (convI .u32 b0) 0)) (shlI .u32 (convI .u32 b1) 8)) (shlI .u32 (convI .u32 b2) 16)) (shlI .u32 (convI .u32 b3) 24) = b0 + 256 * b1 + 65536 * b2 + 16777216 * b3 := by
  have c : ∀ b : Int, 0 ≤ b ∧ b < 256 → convI .u32 b = b := fun b h => by rw [convI_eq, wrap_u32]; omega
  rw [c b0 h0, c b1 h1, c b2 h2, c b3 h3]
  have s0 : shlI .u32 b0 0 = ((2 ^ 0 : Nat) : Int) * b0 := by rw [shlI_eq, wrap_u32]; show b0 * 1 % _ = _; omega
  have s1 : shlI .u32 b1 8 = ((2 ^ 8 : Nat) : Int) * b1 := by rw [shlI_eq, wrap_u32]; show b1 * 256 % _ = _; omega
  have s2 : shlI .u32 b2 16 = ((2 ^ 16 : Nat) : Int) * b2 := by rw [shlI_eq, wrap_u32]; show b2 * 65536 % _ = _; omega
  have s3 : shlI .u32 b3 24 = ((2 ^ 24 : Nat) : Int) * b3 := by rw [shlI_eq, wrap_u32]; show b3 * 16777216 % _ = _; omega
  rw [s0, s1, s2, s3, or_hi 0 0 b0 (by decide) (by omega) (by decide) (by omega) (by omega), or_hi 8 _ b1 (by decide) (by omega) (by omega) (by omega) (by omega), or_hi 16 _ b2 (by decide) (by omega) (by omega) (by omega) (by omega), or_hi 24 _ b3 (by decide) (by omega) (by omega) (by omega) (by omega)]
  omega
theorem load4_spec (n at_ : Int) (f : Int → Int) (hn : 1 ≤ n ∧ n ≤ 4096) (ha : 0 ≤ at_ ∧ at_ < 4294967296) {e v : Int} (he : e = wordErr n at_) (hv : v = if e = 0 then w32f f at_ else 0) :
    Spec1 kit 47 [.p 0 (.at 0), .i .u32 (.ex at_), .i .i64 (.lit 4)] [memB n f] false (.tup [.i .u32 (.ex v), .i .i64 (.ex e)]) [memB n f] [] := by
  refine Spec1.mk2 rfl fun F => OkCall.unfold 0 rfl (CallOk.of (fo47 ⟨[], 0⟩)) ?_
  rintro l ⟨kvs, hpg, hf, rfl⟩
  obtain ⟨k, hk⟩ : ∃ k, at_ / 4096 = k := ⟨_, rfl⟩
  obtain ⟨o, ho⟩ : ∃ o, at_ % 4096 = o := ⟨_, rfl⟩
  obtain ⟨t, ht⟩ : ∃ t, o + 4 = t := ⟨_, rfl⟩
  obtain ⟨b0, hb0⟩ : ∃ b, f at_ = b := ⟨_, rfl⟩
  obtain ⟨b1, hb1⟩ : ∃ b, f (at_ + 1) = b := ⟨_, rfl⟩
  obtain ⟨b2, hb2⟩ : ∃ b, f (at_ + 2) = b := ⟨_, rfl⟩
  obtain ⟨b3, hb3⟩ : ∃ b, f (at_ + 3) = b := ⟨_, rfl⟩
  obtain ⟨bs, hbs⟩ : ∃ bs, [b0, b1, b2, b3] = bs := ⟨_, rfl⟩
  refine into I37ok 6 ?_
  conv => cbv
  have hrem : remI at_ 4 = at_ % 4 := by rw [remI_eq]; exact Int.tmod_eq_emod_of_nonneg ha.1
  refine Br.mk (fun hc => ?_) (fun hc => ?_)
  · have h : notB (eqI (remI at_ 4) 0) = true := hc
    rw [notB_eq, eqI_eq, hrem] at h
    have h : at_ % 4 ≠ 0 := by simpa using h
    have he21 : e = 21 := by rw [he, wordErr, if_pos h]
    subst he21
    have hv0 : v = 0 := by rw [hv, if_neg (by decide)]
    subst hv0
    conv => cbv
    refine LeOut2.imp (HImp.fold (S := memSh n f) 0 [2] [.cells 116 [.i .i64 (.ex n), .map 1], .abs (PM 118 kvs)] (by decide) (by cbv) ⟨kvs, hpg, hf, rfl⟩) ?_
    exact (LeOut.mk' [0, 1] (by decide) rfl (by decide) (by cbv) (by cbv)).two
  · have h : notB (eqI (remI at_ 4) 0) = false := hc
    rw [notB_eq, eqI_eq, hrem] at h
    have h : at_ % 4 = 0 := by simpa using h
    have hm : mulI .i64 n 4096 = n * 4096 := by rw [mulI_eq, IntWalk.i64_in _ (by omega)]
    conv => cbv
    refine Br.no (by show ltI (mulI .i64 n 4096) 4 = false; rw [hm, ltI_eq, decide_eq_false_iff_not]; omega) ?_
    conv => cbv
    have hsub : subI .i64 (mulI .i64 n 4096) 4 = n * 4096 - 4 := by rw [hm, subI_eq, IntWalk.i64_in _ (by omega)]
    have hcv : convI .i64 at_ = at_ := by rw [convI_eq, IntWalk.i64_in _ (by omega)]
    refine Br.mk (fun hd => ?_) (fun hd => ?_)
    · have h2 : ltI (subI .i64 (mulI .i64 n 4096) 4) (convI .i64 at_) = true := hd
      rw [hsub, hcv, ltI_eq, decide_eq_true_eq] at h2
      have he22 : e = 22 := by rw [he, wordErr, if_neg (by omega), if_pos h2]
      subst he22
      have hv0 : v = 0 := by rw [hv, if_neg (by decide)]
      subst hv0
      conv => cbv
      refine LeOut2.imp (HImp.fold (S := memSh n f) 0 [2] [.cells 116 [.i .i64 (.ex n), .map 1], .abs (PM 118 kvs)] (by decide) (by cbv) ⟨kvs, hpg, hf, rfl⟩) ?_
      exact (LeOut.mk' [0, 1] (by decide) rfl (by decide) (by cbv) (by cbv)).two
    · have h2 : ltI (subI .i64 (mulI .i64 n 4096) 4) (convI .i64 at_) = false := hd
      rw [hsub, hcv, ltI_eq, decide_eq_false_iff_not] at h2
      have he0 : e = 0 := by rw [he, wordErr, if_neg (by omega), if_neg h2]
      subst he0
      rw [if_pos rfl] at hv
      have hquo : quoI .u32 at_ 4096 = k := by rw [quoI_eq, Int.tdiv_eq_ediv_of_nonneg ha.1, hk, wrap_u32]; omega
      have hre : convI .i64 (remI at_ 4096) = o := by rw [remI_eq, Int.tmod_eq_emod_of_nonneg ha.1, ho, convI_eq, IntWalk.i64_in _ (by omega)]
      have ho2 : 0 ≤ o ∧ o + 4 ≤ 4096 := by omega
      conv => cbv
      refine ⟨by show mkOk 4 4 1; rw [mkOk_eq]; decide, ?_⟩
      conv => cbv
      refine Obs.int (.ex k) hquo.symm ?_
      conv => cbv
      refine Obs.int (.ex o) hre.symm ?_
      conv => cbv
      have hsm : subI .i64 (addI .i64 o 4) 0 = o + 4 := by rw [addI_eq, IntWalk.i64_in _ (by omega), subI_eq, IntWalk.i64_in _ (by omega)]; omega
      refine XOpN.x (XOpN.min rfl rfl (.ex t) (by show t = if subI .i64 (addI .i64 o 4) 0 < 4096 then subI .i64 (addI .i64 o 4) 0 else 4096; rw [hsm]; split <;> omega) ?_)
      conv => cbv
      refine XOpN.x (XOpN.lookupPM mt135 ku27 rfl rfl rfl (.lit 4096) hpg.len (fun h0 => ?_) (fun i l h0 hi => ?_))
      · have h0 : pidx k kvs 0 = none := h0
        conv => cbv
        refine Br.no (by show ltI (addI .i64 0 (subI .i64 t o)) 4 = false; rw [subI_eq, IntWalk.i64_in _ (by omega), addI_eq, IntWalk.i64_in _ (by omega), ltI_eq, decide_eq_false_iff_not]; omega) ?_
        conv => cbv
        have z : ∀ j : Int, 0 ≤ j → j < 4 → f (at_ + j) = 0 := fun j hj hj2 => by rw [← hf]; exact bytes_none (by omega) h0
        have hv0 : v = 0 := by
          rw [hv, w32f, z 1 (by omega) (by omega), z 2 (by omega) (by omega), z 3 (by omega) (by omega)]
          have := z 0 (by omega) (by omega)
          rw [Int.add_zero] at this
          rw [this]; rfl
        have zz : ∀ i, gi (zerosI 4) i = 0 := fun i => by
          rw [gi_eq, zerosI_eq, List.getD_eq_getElem?_getD, List.getElem?_replicate]
          split <;> rfl
        refine LeOut2.imp (HImp.fold (S := memSh n f) 0 [2] [.cells 116 [.i .i64 (.ex n), .map 1], .abs (PM 118 kvs)] (by decide) (by cbv) ⟨kvs, hpg, hf, rfl⟩) ?_
        refine (LeOut.mk' [0, 1] (by decide) rfl (by decide) ?_ (by cbv)).two
        conv => cbv
        refine ⟨?_, trivial⟩
        show v = orI .u32 (orI .u32 (orI .u32 (orI .u32 0 (shlI .u32 (convI .u32 (gi (zerosI 4) 0)) 0)) (shlI .u32 (convI .u32 (gi (zerosI 4) 1)) 8)) (shlI .u32 (convI .u32 (gi (zerosI 4) 2)) 16)) (shlI .u32 (convI .u32 (gi (zerosI 4) 3)) 24)
        rw [zz, zz, zz, zz, w_of (by decide) (by decide) (by decide) (by decide), hv0]
        rfl
      · have h0 : pidx k kvs 0 = some i := h0
        have hi : kvs[i]? = some (k, l) := hi
        conv => cbv
        have hll : l.length = 4096 := hpg.len i k l hi
        have hu : ∀ j, 0 ≤ l.getD j 0 ∧ l.getD j 0 < 256 := fun j => by
          rw [List.getD_eq_getElem?_getD]
          cases e : l[j]? with
          | none => exact ⟨by decide, by decide⟩
          | some z => exact (hpg _ (List.mem_of_getElem? hi)).2 z (List.mem_of_getElem? e)
        have hb0' : b0 = l.getD o.toNat 0 := by rw [← hb0, ← hf, bytes_some hk h0 hi, ho]
        have hb1' : b1 = l.getD (o.toNat + 1) 0 := by rw [← hb1, ← hf, bytes_some (by omega) h0 hi]; congr 1; omega
        have hb2' : b2 = l.getD (o.toNat + 2) 0 := by rw [← hb2, ← hf, bytes_some (by omega) h0 hi]; congr 1; omega
        have hb3' : b3 = l.getD (o.toNat + 3) 0 := by rw [← hb3, ← hf, bytes_some (by omega) h0 hi]; congr 1; omega
        have hbz : bs = (zerosI 4).take 0 ++ ((l.drop (shN 4096 0 (toN o))).take 4 ++ (zerosI 4).drop (0 + 4)) := by
          rw [shN_eq, toN_eq, if_neg (by omega), Nat.zero_add, take4 (by omega), zerosI_eq, ← hbs, hb0', hb1', hb2', hb3']
          rfl
        refine ⟨by show nLe 4 4; rw [nLe_eq]; decide, by show leR t 4096; rw [leR_eq]; omega, by show leR o (toN t); rw [leR_eq, toN_eq]; omega, ?_⟩
        refine XOpN.copyI rfl rfl u175 s5 rfl rfl rfl 4 (by show 4 = min (subN (toN t) (toN o)) 4; rw [subN_eq, toN_eq, toN_eq]; omega) (by decide) (by decide) (by show shN 4096 0 (toN o) + 4 ≤ 4096; rw [shN_eq, toN_eq, if_neg (by omega)]; omega) bs hbz (.lit 4) rfl ?_
        conv => cbv
        refine Br.no (by show ltI (addI .i64 0 (subI .i64 t o)) 4 = false; rw [subI_eq, IntWalk.i64_in _ (by omega), addI_eq, IntWalk.i64_in _ (by omega), ltI_eq, decide_eq_false_iff_not]; omega) ?_
        conv => cbv
        refine LeOut2.imp (HImp.closePM' 2 6 rfl hi rfl) ?_
        refine LeOut2.imp (HImp.fold (S := memSh n f) 0 [2] [.cells 116 [.i .i64 (.ex n), .map 1], .abs (PM 118 kvs)] (by decide) (by cbv) ⟨kvs, hpg, hf, rfl⟩) ?_
        refine (LeOut.mk' [0, 1] (by decide) rfl (by decide) ?_ (by cbv)).two
        conv => cbv
        refine ⟨?_, trivial⟩
        show v = orI .u32 (orI .u32 (orI .u32 (orI .u32 0 (shlI .u32 (convI .u32 (gi bs 0)) 0)) (shlI .u32 (convI .u32 (gi bs 1)) 8)) (shlI .u32 (convI .u32 (gi bs 2)) 16)) (shlI .u32 (convI .u32 (gi bs 3)) 24)
        rw [← hbs]
        have g0 : gi [b0, b1, b2, b3] 0 = b0 := by rw [gi_eq]; rfl
        have g1 : gi [b0, b1, b2, b3] 1 = b1 := by rw [gi_eq]; rfl
        have g2 : gi [b0, b1, b2, b3] 2 = b2 := by rw [gi_eq]; rfl
        have g3 : gi [b0, b1, b2, b3] 3 = b3 := by rw [gi_eq]; rfl
        rw [g0, g1, g2, g3, w_of (by rw [hb0']; exact hu _) (by rw [hb1']; exact hu _) (by rw [hb2']; exact hu _) (by rw [hb3']; exact hu _), hv, w32f, hb0, hb1, hb2, hb3]
end Go.Proofs.YtafhmkedblpdlaaDoor
end

/-
  memory.write, within a page.
-/
section
namespace Go.Proofs.YtafhmkedblpdlaaDoor
open Go Go.Vex
set_option maxRecDepth 20000
set_option maxHeartbeats 4000000
def spliceF (f : Int → Int) (at_ : Int) (src : List Int) (a : Int) : Int := if at_ ≤ a ∧ a < at_ + src.length then src.getD (a - at_).toNat 0 else f a
theorem pidx_set {n k : Int} {l l' : List Int} : ∀ {kvs : List (Int × List Int)} {i : Nat} (j : Nat), kvs[i]? = some (k, l) → pidx n (kvs.set i (k, l')) j = pidx n kvs j
  | [], i, j, h => by simp at h
  | (a, u) :: r, 0, j, h => by
    simp at h
    obtain ⟨rfl, rfl⟩ := h
    simp [pidx]
  | (a, u) :: r, i + 1, j, h => by
    simp at h
    simp only [List.set_cons_succ, pidx]
    rw [pidx_set (j + 1) h]
theorem pidx_app {n k : Int} {l : List Int} : ∀ {kvs : List (Int × List Int)} (j : Nat), pidx n (kvs ++ [(k, l)]) j = match pidx n kvs j with
    | some i => some i
    | none => if k = n then some (j + kvs.length) else none
  | [], j => by simp [pidx]
  | (a, u) :: r, j => by
    simp only [List.cons_append, pidx]
    split
    · rfl
    · rw [pidx_app (j + 1)]
      simp only [List.length_cons]
      rw [show j + 1 + r.length = j + (r.length + 1) by omega]
theorem getD_splice {l src : List Int} {o m j : Nat} (hl : l.length = 4096) (hs : src.length = m) (hm : o + m ≤ 4096) : (l.take o ++ (src ++ l.drop (o + m))).getD j 0 = if o ≤ j ∧ j < o + m then src.getD (j - o) 0 else l.getD j 0 := by
  simp only [List.getD_eq_getElem?_getD]
  by_cases h1 : j < o
  · rw [if_neg (by omega), List.getElem?_append_left (by simp; omega), List.getElem?_take_of_lt h1]
  · rw [List.getElem?_append_right (by simp; omega), show j - (l.take o).length = j - o by simp; omega]
    by_cases h2 : j < o + m
    · rw [if_pos ⟨by omega, h2⟩, List.getElem?_append_left (by omega)]
    · rw [if_neg (by omega), List.getElem?_append_right (by omega), List.getElem?_drop, hs, show o + m + (j - o - m) = j by omega]
theorem splice_ok {l src : List Int} {o m : Nat} (hl : l.length = 4096 ∧ ∀ z ∈ l, 0 ≤ z ∧ z < 256) (hs : src.length = m) (hu : ∀ z ∈ src, 0 ≤ z ∧ z < 256) (hm : o + m ≤ 4096) :
    (l.take o ++ (src ++ l.drop (o + m))).length = 4096 ∧ ∀ z ∈ l.take o ++ (src ++ l.drop (o + m)), 0 ≤ z ∧ z < 256 := by
  refine ⟨by simp; omega, fun z hz => ?_⟩
  simp only [List.mem_append] at hz
  rcases hz with hz | hz | hz
  · exact hl.2 z (List.mem_of_mem_take hz)
  · exact hu z hz
  · exact hl.2 z (List.mem_of_mem_drop hz)
theorem bytes_set {kvs : List (Int × List Int)} {k at_ : Int} {l src : List Int} {i o m : Nat} (hpg : PgOk kvs) (h0 : pidx k kvs 0 = some i) (hi : kvs[i]? = some (k, l)) (hk : at_ / 4096 = k) (ho : (at_ % 4096).toNat = o) (hs : src.length = m)
    (hu : ∀ z ∈ src, 0 ≤ z ∧ z < 256) (hm : o + m ≤ 4096) {l' : List Int} (hl' : l' = l.take o ++ (src ++ l.drop (o + m))) : PgOk (kvs.set i (k, l')) ∧ ∀ a, bytesOf (kvs.set i (k, l')) a = spliceF (bytesOf kvs) at_ src a := by
  have hl := hpg _ (List.mem_of_getElem? hi)
  have hil : i < kvs.length := (List.getElem?_eq_some_iff.1 hi).1
  subst hl'
  refine ⟨fun x hx => ?_, fun a => ?_⟩
  · rcases List.mem_or_eq_of_mem_set hx with hx | hx
    · exact hpg x hx
    · subst hx; exact splice_ok hl hs hu hm
  · unfold spliceF
    by_cases hak : a / 4096 = k
    · rw [bytes_some hak (by rw [pidx_set 0 hi]; exact h0) (List.getElem?_set_self hil), getD_splice hl.1 hs hm, bytes_some hak h0 hi]
      by_cases hc : at_ ≤ a ∧ a < at_ + src.length
      · rw [if_pos hc, if_pos (by omega)]; congr 1; omega
      · rw [if_neg hc, if_neg (by omega)]
    · rw [if_neg (by omega)]
      unfold bytesOf
      rw [pidx_set 0 hi]
      cases hq : pidx (a / 4096) kvs 0 with
      | none => rfl
      | some j =>
        obtain ⟨_, u, hj⟩ := pidx_some hq
        rw [Nat.sub_zero] at hj
        have hne : i ≠ j := by rintro rfl; rw [hi] at hj; cases hj; exact hak rfl
        simp only [List.getD_eq_getElem?_getD, List.getElem?_set_ne hne]
theorem bytes_new {kvs : List (Int × List Int)} {k at_ : Int} {l0 src : List Int} {o m : Nat} (hpg : PgOk kvs) (h0 : pidx k kvs 0 = none) (hk : at_ / 4096 = k) (ho : (at_ % 4096).toNat = o) (hs : src.length = m)
    (hu : ∀ z ∈ src, 0 ≤ z ∧ z < 256) (hm : o + m ≤ 4096) (hl0 : l0 = List.replicate 4096 0) {l' : List Int} (hl' : l' = l0.take o ++ (src ++ l0.drop (o + m))) : PgOk (kvs ++ [(k, l')]) ∧ ∀ a, bytesOf (kvs ++ [(k, l')]) a = spliceF (bytesOf kvs) at_ src a := by
  have hl : l0.length = 4096 ∧ ∀ z ∈ l0, 0 ≤ z ∧ z < 256 := by subst hl0; exact ⟨by simp, fun z hz => by rw [List.eq_of_mem_replicate hz]; decide⟩
  have hz : ∀ j, l0.getD j 0 = 0 := fun j => by subst hl0; rw [List.getD_eq_getElem?_getD, List.getElem?_replicate]; split <;> rfl
  subst hl'
  refine ⟨fun x hx => ?_, fun a => ?_⟩
  · simp only [List.mem_append, List.mem_singleton] at hx
    rcases hx with hx | hx
    · exact hpg x hx
    · subst hx; exact splice_ok hl hs hu hm
  · unfold spliceF
    by_cases hak : a / 4096 = k
    · rw [bytes_some (l := l0.take o ++ (src ++ l0.drop (o + m))) hak (i := kvs.length) (by rw [pidx_app]; simp [h0]) (by simp), getD_splice hl.1 hs hm, bytes_none hak h0, hz]
      by_cases hc : at_ ≤ a ∧ a < at_ + src.length
      · rw [if_pos hc, if_pos (by omega)]; congr 1; omega
      · rw [if_neg hc, if_neg (by omega)]
    · rw [if_neg (by omega)]
      unfold bytesOf
      rw [pidx_app]
      cases hq : pidx (a / 4096) kvs 0 with
      | none => simp [Ne.symm hak]
      | some j =>
        obtain ⟨_, u, hj⟩ := pidx_some hq
        rw [Nat.sub_zero] at hj
        simp only [List.getD_eq_getElem?_getD, List.getElem?_append_left (List.getElem?_eq_some_iff.1 hj).1]
theorem insertPM' {C : Kit} {fr : Fr} {hp : List Blk} {K : SV → List Blk → Prop} {t kt et : Nat} {kd : TypeDesc} {z0 : Value} {m k y : Operand} {x z : Nat} {n : S Int} {T T' : TypeId} {L : List SV} {kvs : List (Int × List Int)} (l : List Int) {kv2 : List (Int × List Int)} (j : Nat) (hkv : kvs ++ [(n.val, l)] = kv2) (hj : kvs.length = j) (hT : MapT C t kt et kd z0) (hK : KeyT C kt (Value.int .u32))
    (em : ev fr hp m = some (.map x)) (ek : ev fr hp k = some (.i .u32 n)) (ey : ev fr hp y = some (.p z (.at 0))) (hx : hp[x]? = some (.abs (PM T kvs))) (hz : hp[z]? = some (.cells T' L)) (hn : pidx n.val kvs 0 = none)
    (hk : K (.raw undef) (hp.set x (.av [.p z (.at 0)] (PMo T kv2 j)))) : XOpN C (.mapUpdate t m k y) fr hp K := by
  subst hkv hj; exact XOpN.insertPM l hT hK em ek ey hx hz hn hk
noncomputable def I59 : FnT := [(19, fi Tryd.f19 ⟨[], 0⟩), (44, fi Tryd.f44 ⟨[7, 8], 2⟩), (45, fi Tryd.f45 ⟨[], 0⟩)]
theorem I59ok : FnsOk kit I59 := ⟨fo19 _, fo44 _, fo45 _, trivial⟩
theorem write_spec (n at_ : Int) (f : Int → Int) (src : List Int) (m cap : Nat) (hcap : m ≤ cap) (ha : 0 ≤ at_ ∧ at_ < 4294967296) (hs : src.length = m) (hm0 : 0 < m) (hm : at_ % 4096 + m ≤ 4096) (hu : ∀ z ∈ src, 0 ≤ z ∧ z < 256) :
    Spec1 kit 19 [.p 0 (.at 0), .i .u32 (.ex at_), .slc 1 0 1 (.lit 0) (.ex m) (.ex cap)] [memB n f, .ro [.ints .u8 (.ex m) src]] false (.tup []) [memB n (spliceF f at_ src), .ro [.ints .u8 (.ex m) src]] [] := by
  refine Spec1.mk2 rfl fun F => OkCall.unfold 0 rfl (CallOk.of (fo19 ⟨[], 0⟩)) ?_
  rintro l ⟨kvs, hpg, hf, rfl⟩
  obtain ⟨k, hk⟩ : ∃ k, at_ / 4096 = k := ⟨_, rfl⟩
  obtain ⟨o, ho⟩ : ∃ o, at_ % 4096 = o := ⟨_, rfl⟩
  obtain ⟨t, ht⟩ : ∃ t, o + m = t := ⟨_, rfl⟩
  obtain ⟨oN, hoN⟩ : ∃ x : Nat, o.toNat = x := ⟨_, rfl⟩
  refine into I59ok 6 ?_
  conv => cbv
  have hquo : quoI .u32 at_ 4096 = k := by rw [quoI_eq, Int.tdiv_eq_ediv_of_nonneg ha.1, hk, wrap_u32]; omega
  have hre : convI .i64 (remI at_ 4096) = o := by rw [remI_eq, Int.tmod_eq_emod_of_nonneg ha.1, ho, convI_eq, IntWalk.i64_in _ (by omega)]
  have ho2 : 0 ≤ o ∧ o + m ≤ 4096 := by omega
  refine Br.yes (by show ltI 0 (ofN m) = true; rw [ltI_eq, decide_eq_true_eq, ofN_eq]; omega) ?_
  conv => cbv
  refine Obs.int (.ex k) hquo.symm ?_
  conv => cbv
  refine Obs.int (.ex o) hre.symm ?_
  conv => cbv
  have hsm : subI .i64 (addI .i64 o (ofN m)) 0 = o + m := by rw [ofN_eq, addI_eq, IntWalk.i64_in _ (by omega), subI_eq, IntWalk.i64_in _ (by omega)]; omega
  refine XOpN.x (XOpN.min rfl rfl (.ex t) (by show t = if subI .i64 (addI .i64 o (ofN m)) 0 < 4096 then subI .i64 (addI .i64 o (ofN m)) 0 else 4096; rw [hsm]; split <;> omega) ?_)
  conv => cbv
  refine XOpN.x (XOpN.lookupPM mt135 ku27 rfl rfl rfl (.lit 4096) hpg.len (fun h0 => ?_) (fun i l h0 hi => ?_))
  · have h0 : pidx k kvs 0 = none := h0
    have hl0 : zerosI 4096 = List.replicate 4096 0 := zerosI_eq _
    obtain ⟨l0, hl0'⟩ : ∃ l0, zerosI 4096 = l0 := ⟨_, rfl⟩
    obtain ⟨l', hl'⟩ : ∃ l', l0.take oN ++ (src ++ l0.drop (oN + m)) = l' := ⟨_, rfl⟩
    obtain ⟨kv2, hkv2⟩ : ∃ x, kvs ++ [(k, l')] = x := ⟨_, rfl⟩
    obtain ⟨jN, hjN⟩ : ∃ x, kvs.length = x := ⟨_, rfl⟩
    conv => cbv
    refine XOpN.x (insertPM' l' jN hkv2 hjN mt135 ku27 rfl rfl rfl rfl rfl h0 ?_)
    conv => cbv
    refine ⟨by show leR t 4096; rw [leR_eq]; omega, by show leR o (toN t); rw [leR_eq, toN_eq]; omega, by show nLe m cap; rw [nLe_eq]; exact hcap, ?_⟩
    refine XOpN.copyI rfl rfl u175 s5 rfl rfl rfl m (by show m = min m (subN (toN t) (toN o)); rw [subN_eq, toN_eq, toN_eq]; omega) hm0 (by show shN 4096 0 (toN o) + m ≤ 4096; rw [shN_eq, toN_eq, if_neg (by omega)]; omega) (by show 0 + m ≤ m; omega) l' (by
      show l' = (zerosI 4096).take (shN 4096 0 (toN o)) ++ ((src.drop 0).take m ++ (zerosI 4096).drop (shN 4096 0 (toN o) + m))
      rw [shN_eq, toN_eq, if_neg (by omega), Nat.zero_add, hoN, hl0', ← hl', List.drop_zero, List.take_of_length_le (l := src) (by omega)]) (.ex m) rfl ?_
    conv => cbv
    have hmm : addI .i64 0 (subI .i64 t o) = m := by rw [subI_eq, IntWalk.i64_in _ (by omega), addI_eq, IntWalk.i64_in _ (by omega)]; omega
    have hlt : ltI (addI .i64 0 (subI .i64 t o)) (ofN m) = false := by rw [hmm, ltI_eq, decide_eq_false_iff_not, ofN_eq]; omega
    refine Br.no hlt ?_
    conv => cbv
    have hki : kv2[jN]? = some (k, l') := by rw [← hkv2, ← hjN]; simp
    refine LeOut2.imp (HImp.closePM' 3 6 rfl hki rfl) ?_
    obtain ⟨hpg', hf'⟩ := bytes_new hpg h0 hk (by rw [ho]; exact hoN) hs hu (by omega) (by rw [← hl0']; exact hl0) hl'.symm
    rw [hkv2] at hpg' hf'
    refine LeOut2.imp (HImp.fold (S := memSh n (spliceF f at_ src)) 0 [3] [.cells 116 [.i .i64 (.ex n), .map 1], .abs (PM 118 kv2)] (by decide) (by cbv) ⟨_, hpg', fun a => by rw [hf' a]; unfold spliceF; rw [hf a], rfl⟩) ?_
    refine (LeOut.mk' [0, 1, 2] (by decide) rfl (by decide) (by cbv) (by cbv)).two
  · have h0 : pidx k kvs 0 = some i := h0
    have hi : kvs[i]? = some (k, l) := hi
    obtain ⟨l', hl'⟩ : ∃ l', l.take oN ++ (src ++ l.drop (oN + m)) = l' := ⟨_, rfl⟩
    conv => cbv
    have hll : l.length = 4096 := hpg.len i k l hi
    refine ⟨by show leR t 4096; rw [leR_eq]; omega, by show leR o (toN t); rw [leR_eq, toN_eq]; omega, by show nLe m cap; rw [nLe_eq]; exact hcap, ?_⟩
    refine XOpN.copyI rfl rfl u175 s5 rfl rfl rfl m (by show m = min m (subN (toN t) (toN o)); rw [subN_eq, toN_eq, toN_eq]; omega) hm0 (by show shN 4096 0 (toN o) + m ≤ 4096; rw [shN_eq, toN_eq, if_neg (by omega)]; omega) (by show 0 + m ≤ m; omega) l' (by
      show l' = l.take (shN 4096 0 (toN o)) ++ ((src.drop 0).take m ++ l.drop (shN 4096 0 (toN o) + m))
      rw [shN_eq, toN_eq, if_neg (by omega), Nat.zero_add, hoN, ← hl', List.drop_zero, List.take_of_length_le (l := src) (by omega)]) (.ex m) rfl ?_
    conv => cbv
    have hmm : addI .i64 0 (subI .i64 t o) = m := by rw [subI_eq, IntWalk.i64_in _ (by omega), addI_eq, IntWalk.i64_in _ (by omega)]; omega
    have hlt : ltI (addI .i64 0 (subI .i64 t o)) (ofN m) = false := by rw [hmm, ltI_eq, decide_eq_false_iff_not, ofN_eq]; omega
    refine Br.no hlt ?_
    conv => cbv
    refine LeOut2.imp (HImp.closePM 3 6 rfl hi rfl) ?_
    obtain ⟨hpg', hf'⟩ := bytes_set hpg h0 hi hk (by rw [ho]; exact hoN) hs hu (by omega) hl'.symm
    refine LeOut2.imp (HImp.fold (S := memSh n (spliceF f at_ src)) 0 [3] [.cells 116 [.i .i64 (.ex n), .map 1], .abs (PM 118 (kvs.set i (k, l')))] (by decide) (by cbv) ⟨_, hpg', fun a => by rw [hf' a]; unfold spliceF; rw [hf a], rfl⟩) ?_
    refine (LeOut.mk' [0, 1, 2] (by decide) rfl (by decide) (by cbv) (by cbv)).two
end Go.Proofs.YtafhmkedblpdlaaDoor
end

/-
  memory.Store of a word; a page filled with 0; New.
-/
section
namespace Go.Proofs.YtafhmkedblpdlaaDoor
open Go Go.Vex
set_option maxRecDepth 20000
set_option maxHeartbeats 4000000
noncomputable def I25 : FnT := [(9, fi Tryd.f9 ⟨[], 0⟩), (18, fi Tryd.f18 ⟨[], 0⟩), (43, fi Tryd.f43 ⟨[], 0⟩)]
theorem I25ok : FnsOk kit I25 := ⟨fo9 _, fo18 _, fo43 _, trivial⟩
/-- A word's four bytes. -/
def b4 (v : Int) : List Int := [v % 256, v / 256 % 256, v / 65536 % 256, v / 16777216 % 256]
def storeF (f : Int → Int) (n at_ v : Int) : Int → Int := if wordErr n at_ = 0 then spliceF f at_ (b4 v) else f
theorem store4_spec (n at_ v : Int) (f : Int → Int) (hn : 1 ≤ n ∧ n ≤ 4096) (ha : 0 ≤ at_ ∧ at_ < 4294967296) (hv : 0 ≤ v ∧ v < 4294967296) {e : Int} (he : e = wordErr n at_) {g : Int → Int} (hg : g = storeF f n at_ v) :
    Spec1 kit 9 [.p 0 (.at 0), .i .u32 (.ex at_), .i .i64 (.lit 4), .i .u32 (.ex v)] [memB n f] false (.i .i64 (.ex e)) [memB n g] [] := by
  refine Spec1.mk2 rfl fun F => OkCall.unfold 0 rfl (CallOk.of (fo9 ⟨[], 0⟩)) ?_
  rintro l ⟨kvs, hpg, hf, rfl⟩
  refine into I25ok 6 ?_
  conv => cbv
  have hrem : remI at_ 4 = at_ % 4 := by rw [remI_eq]; exact Int.tmod_eq_emod_of_nonneg ha.1
  refine Br.mk (fun hc => ?_) (fun hc => ?_)
  · have h : notB (eqI (remI at_ 4) 0) = true := hc
    rw [notB_eq, eqI_eq, hrem] at h
    have h : at_ % 4 ≠ 0 := by simpa using h
    have he21 : e = 21 := by rw [he, wordErr, if_pos h]
    have hgf : g = f := by rw [hg, storeF, ← he, he21, if_neg (by decide)]
    subst he21 hgf
    conv => cbv
    refine LeOut2.imp (HImp.fold (S := memSh n g) 0 [2] [.cells 116 [.i .i64 (.ex n), .map 1], .abs (PM 118 kvs)] (by decide) (by cbv) ⟨kvs, hpg, hf, rfl⟩) ?_
    exact (LeOut.mk' [0, 1] (by decide) rfl (by decide) (by cbv) (by cbv)).two
  · have h : notB (eqI (remI at_ 4) 0) = false := hc
    rw [notB_eq, eqI_eq, hrem] at h
    have h : at_ % 4 = 0 := by simpa using h
    have hm : mulI .i64 n 4096 = n * 4096 := by rw [mulI_eq, IntWalk.i64_in _ (by omega)]
    conv => cbv
    refine Br.no (by show ltI (mulI .i64 n 4096) 4 = false; rw [hm, ltI_eq, decide_eq_false_iff_not]; omega) ?_
    conv => cbv
    have hsub : subI .i64 (mulI .i64 n 4096) 4 = n * 4096 - 4 := by rw [hm, subI_eq, IntWalk.i64_in _ (by omega)]
    have hcv : convI .i64 at_ = at_ := by rw [convI_eq, IntWalk.i64_in _ (by omega)]
    refine Br.mk (fun hd => ?_) (fun hd => ?_)
    · have h2 : ltI (subI .i64 (mulI .i64 n 4096) 4) (convI .i64 at_) = true := hd
      rw [hsub, hcv, ltI_eq, decide_eq_true_eq] at h2
      have he22 : e = 22 := by rw [he, wordErr, if_neg (by omega), if_pos h2]
      have hgf : g = f := by rw [hg, storeF, ← he, he22, if_neg (by decide)]
      subst he22 hgf
      conv => cbv
      refine LeOut2.imp (HImp.fold (S := memSh n g) 0 [2] [.cells 116 [.i .i64 (.ex n), .map 1], .abs (PM 118 kvs)] (by decide) (by cbv) ⟨kvs, hpg, hf, rfl⟩) ?_
      exact (LeOut.mk' [0, 1] (by decide) rfl (by decide) (by cbv) (by cbv)).two
    · have h2 : ltI (subI .i64 (mulI .i64 n 4096) 4) (convI .i64 at_) = false := hd
      rw [hsub, hcv, ltI_eq, decide_eq_false_iff_not] at h2
      have he0 : e = 0 := by rw [he, wordErr, if_neg (by omega), if_neg h2]
      have c8 : ∀ z, convI .u8 z = z % 256 := fun z => by rw [convI_eq, wrap_u8]
      have h8 : shrI .u32 v 8 = v / 256 := by rw [shrI_eq, Int.fdiv_eq_ediv_of_nonneg _ (by decide)]; rfl
      have h16 : shrI .u32 v 16 = v / 65536 := by rw [shrI_eq, Int.fdiv_eq_ediv_of_nonneg _ (by decide)]; rfl
      have h24 : shrI .u32 v 24 = v / 16777216 := by rw [shrI_eq, Int.fdiv_eq_ediv_of_nonneg _ (by decide)]; rfl
      have hb4 : [convI .u8 v, convI .u8 (shrI .u32 v 8), convI .u8 (shrI .u32 v 16), convI .u8 (shrI .u32 v 24)] = b4 v := by rw [h8, h16, h24]; simp only [c8]; rfl
      have hgs : g = spliceF f at_ [convI .u8 v, convI .u8 (shrI .u32 v 8), convI .u8 (shrI .u32 v 16), convI .u8 (shrI .u32 v 24)] := by rw [hb4, hg, storeF, ← he, he0, if_pos rfl]
      have hu : ∀ z ∈ [convI .u8 v, convI .u8 (shrI .u32 v 8), convI .u8 (shrI .u32 v 16), convI .u8 (shrI .u32 v 24)], 0 ≤ z ∧ z < 256 := by
        rw [hb4]; intro z hz; simp only [b4, List.mem_cons, List.not_mem_nil, or_false] at hz; omega
      subst he0 hgs
      conv => cbv
      refine ⟨by show nLe 4 4; rw [nLe_eq]; decide, ?_⟩
      refine OkCall.pre (HImp.fold (S := memSh n f) 0 [2] [.cells 116 [.i .i64 (.ex n), .map 1], .abs (PM 118 kvs)] (by decide) (by cbv) ⟨kvs, hpg, hf, rfl⟩) ?_
      refine OkCall.ext (HImp.toInts (k := .u8) 3 4 [.ex (convI .u8 v), .ex (convI .u8 (shrI .u32 v 8)), .ex (convI .u8 (shrI .u32 v 16)), .ex (convI .u8 (shrI .u32 v 24))] rfl rfl).ext ?_
      refine OkCall.by_spec (write_spec n at_ f _ 4 4 (by omega) ha rfl (by omega) (by omega) hu) [0, 3] (by decide) (by cbv) (by cbv) ?_
      conv => cbv
      refine (LeOut.mk' [0, 1] (by decide) rfl (by decide) (by cbv) (by cbv)).two
end Go.Proofs.YtafhmkedblpdlaaDoor
end

/-
  slices.Repeat of a zero byte; a page filled with 0.
-/
section
namespace Go.Proofs.YtafhmkedblpdlaaDoor
open Go Go.Vex
set_option maxRecDepth 20000
set_option maxHeartbeats 4000000
noncomputable def I95 : FnT := [(69, fi Tryd.f69 ⟨[], 0⟩), (78, fi Tryd.f78 ⟨[], 0⟩), (83, fi Tryd.f83 ⟨[], 0⟩)]
theorem I95ok : FnsOk kit I95 := ⟨fo69 _, fo78 _, fo83 _, trivial⟩
theorem zerosI_len (n : Nat) : (zerosI n).length = n := by rw [zerosI_eq]; simp
theorem zeros_copy {src : List Int} {n o m : Nat} (h : o + m ≤ n) (hs : src.length = m) (hz : ∀ z ∈ src, z = 0) : zerosI n = (zerosI n).take o ++ (src ++ (zerosI n).drop (o + m)) := by
  have : src = List.replicate m 0 := List.eq_replicate_iff.2 ⟨hs, hz⟩
  rw [zerosI_eq, this]
  simp only [List.take_replicate, List.drop_replicate, List.replicate_append_replicate]
  congr 1; omega
theorem zeros_part {n o m : Nat} (h : o + m ≤ n) : (((zerosI n).drop o).take m).length = m ∧ ∀ z ∈ ((zerosI n).drop o).take m, z = 0 := by
  rw [zerosI_eq]
  simp only [List.take_replicate, List.drop_replicate, List.length_replicate, List.mem_replicate]
  exact ⟨by omega, fun z hz => hz.2⟩
theorem repeat0_spec : Spec1 kit 69 [.slc 0 0 1 (.lit 0) (.lit 1) (.lit 1), .i .i64 (.lit 4096)] [.ro [.ints .u8 (.lit 1) [0]]] false (.slc 2 0 1 (.lit 0) (.lit 4096) (.lit 4096)) [.ro [.ints .u8 (.lit 1) [0]]] [.cells 5 [.ints .u8 (.lit 4096) (zerosI 4096)]] := by
  refine Spec1.mk2 rfl fun F => ?_
  refine into I95ok 6 ?_
  conv => cbv
  refine ⟨by show mkOk 4096 4096 1; rw [mkOk_eq]; decide, ?_⟩
  refine XOpN.x (XOpN.copyI rfl rfl u175 s5 rfl rfl rfl 1 (by decide) (by decide) (by decide) (by decide) (zerosI 4096) (zeros_copy (n := 4096) (o := 0) (m := 1) (by decide) rfl (by intro z hz; simpa using hz)) (.ex 1) rfl ?_)
  conv => cbv
  refine byInv I95ok 6 ⟨[], 0⟩ (fun z : Int => ⟨[(8, .i .i64 (.ex z)), (7, .slc 2 0 1 (.lit 0) (.lit 4096) (.lit 4096))], [.ro [.ints .u8 (.lit 1) [0]], .abs F, .cells 5 [.ints .u8 (.lit 4096) (zerosI 4096)]]⟩)
    (fun z => (4096 - z).toNat) (fun z => 1 ≤ z ∧ z ≤ 4096) false 1 (by kernel_rfl) (by omega) (LeSt.mk' [0, 1, 2] (by decide) (by rfl) (by decide) (by cbv) (by cbv)) ?_
  intro z hz
  conv => cbv
  refine Br.mk (fun hc => ?_) (fun hc => ?_)
  · have hc : ltI z 4096 = true := hc
    rw [ltI_eq, decide_eq_true_eq] at hc
    obtain ⟨nz, hnz⟩ : ∃ x : Nat, z.toNat = x := ⟨_, rfl⟩
    obtain ⟨mN, hmN⟩ : ∃ x, min nz (4096 - nz) = x := ⟨_, rfl⟩
    obtain ⟨z2, hz2⟩ : ∃ x : Int, z + mN = x := ⟨_, rfl⟩
    conv => cbv
    refine ⟨by show nLe 4096 4096; rw [nLe_eq]; decide, by show leR z 4096; rw [leR_eq]; omega, by show nLe 4096 4096; rw [nLe_eq]; decide, by show leR z 4096; rw [leR_eq]; omega, ?_⟩
    refine XOpN.copyI rfl rfl u175 s5 rfl rfl rfl mN (by show mN = min (toN z) (subN 4096 (toN z)); rw [subN_eq, toN_eq]; omega) (by omega) (by show shN 4096 0 (toN z) + mN ≤ 4096; rw [shN_eq, toN_eq, if_neg (by omega)]; omega) (by show 0 + mN ≤ 4096; omega) (zerosI 4096) (by
      show zerosI 4096 = (zerosI 4096).take (shN 4096 0 (toN z)) ++ (((zerosI 4096).drop 0).take mN ++ (zerosI 4096).drop (shN 4096 0 (toN z) + mN))
      obtain ⟨h1, h2⟩ := zeros_part (n := 4096) (o := 0) (m := mN) (by omega)
      exact zeros_copy (by rw [shN_eq, toN_eq, if_neg (by omega)]; omega) h1 h2) (.ex mN) rfl ?_
    conv => cbv
    refine ⟨z2, ⟨⟨by omega, by omega⟩, by omega⟩, _, (HImp.refl _).ext, LeSt.mk' [0, 1, 2] (by decide) (by rfl) (by decide) ?_ (by cbv)⟩
    conv => cbv
    refine ⟨?_, trivial⟩
    show z2 = addI .i64 z (mN : Int)
    rw [addI_eq, IntWalk.i64_in _ (by omega), ← hz2]
  · have hc : ltI z 4096 = false := hc
    conv => cbv
    exact (LeOut.mk' [0, 1, 2] (by decide) (by rfl) (by decide) (by cbv) (by cbv)).two

/-! ### A page filled with 0 -/
noncomputable def I76 : FnT := [(52, fi Tryd.f52 ⟨[], 0⟩), (43, fi Tryd.f43 ⟨[], 0⟩)]
theorem I76ok : FnsOk kit I76 := ⟨fo52 _, fo43 _, trivial⟩
def zeroF (f : Int → Int) (at_ : Int) (a : Int) : Int := if at_ ≤ a ∧ a < at_ + 4096 then 0 else f a
theorem splice_zero (f : Int → Int) (at_ : Int) : spliceF f at_ (zerosI 4096) = zeroF f at_ := by
  funext a
  unfold spliceF zeroF
  rw [zerosI_len]
  have e : ((4096 : Nat) : Int) = 4096 := rfl
  rw [e]
  by_cases h : at_ ≤ a ∧ a < at_ + 4096
  · rw [if_pos h, if_pos h, zerosI_eq, List.getD_eq_getElem?_getD, List.getElem?_replicate]; split <;> rfl
  · rw [if_neg h, if_neg h]
/-- A page of the memory, filled with 0. -/
theorem fill_spec (n at_ : Int) (f : Int → Int) (hn : 1 ≤ n ∧ n ≤ 4096) (ha : 0 ≤ at_) (h0 : at_ % 4096 = 0) (h1 : at_ + 4096 ≤ n * 4096) :
    Spec1 kit 52 [.p 0 (.at 0), .i .u32 (.ex at_), .i .i64 (.lit 4096), .i .u8 (.lit 0)] [memB n f] false (.i .i64 (.lit 0)) [memB n (zeroF f at_)] [] := by
  refine Spec1.mk2 rfl fun F => OkCall.unfold 0 rfl (CallOk.of (fo52 ⟨[], 0⟩)) ?_
  rintro l ⟨kvs, hpg, hf, rfl⟩
  refine into I76ok 6 ?_
  conv => cbv
  have hm : mulI .i64 n 4096 = n * 4096 := by rw [mulI_eq, IntWalk.i64_in _ (by omega)]
  have hsub : subI .i64 (mulI .i64 n 4096) 4096 = n * 4096 - 4096 := by rw [hm, subI_eq, IntWalk.i64_in _ (by omega)]
  have hcv : convI .i64 at_ = at_ := by rw [convI_eq, IntWalk.i64_in _ (by omega)]
  refine Br.no (by show ltI (mulI .i64 n 4096) 4096 = false; rw [hm, ltI_eq, decide_eq_false_iff_not]; omega) ?_
  conv => cbv
  refine Br.no (by show ltI (subI .i64 (mulI .i64 n 4096) 4096) (convI .i64 at_) = false; rw [hsub, hcv, ltI_eq, decide_eq_false_iff_not]; omega) ?_
  conv => cbv
  refine OkCall.ext (HImp.toInts (k := .u8) 3 1 [.lit 0] rfl rfl).ext ?_
  refine OkCall.by_spec repeat0_spec [3] (by decide) (by cbv) (by cbv) ?_
  conv => cbv
  refine OkCall.pre (HImp.fold (S := memSh n f) 0 [2] [.cells 116 [.i .i64 (.ex n), .map 1], .abs (PM 118 kvs)] (by decide) (by cbv) ⟨kvs, hpg, hf, rfl⟩) ?_
  refine OkCall.pre (HImp.toRo 5 rfl) ?_
  refine OkCall.by_spec (write_spec n at_ f (zerosI 4096) 4096 4096 (by omega) (by omega) (zerosI_len _) (by omega) (by omega) (fun z hz => by rw [zerosI_eq] at hz; rw [List.eq_of_mem_replicate hz]; decide)) [0, 5] (by decide) (by cbv) (by cbv) ?_
  rw [splice_zero]
  conv => cbv
  refine (LeOut.mk' [0, 1] (by decide) rfl (by decide) (by cbv) (by cbv)).two
end Go.Proofs.YtafhmkedblpdlaaDoor
end

/-
  memory.New, arena.New, arena.Take, tables.New.
-/
section
namespace Go.Proofs.YtafhmkedblpdlaaDoor
open Go Go.Vex
set_option maxRecDepth 20000
set_option maxHeartbeats 4000000
noncomputable def I23 : FnT := [(23, fi Tryd.f23 ⟨[], 0⟩)]
theorem I23ok : FnsOk kit I23 := ⟨fo23 _, trivial⟩
theorem new_spec (n : Int) (hn : 1 ≤ n ∧ n ≤ 4096) : Spec1 kit 23 [.i .i64 (.ex n)] [] false (.tup [.p 1 (.at 0), .i .i64 (.lit 0)]) [] [memB n (fun _ => 0)] := by
  refine Spec1.mk2 rfl fun F => ?_
  refine into I23ok 6 ?_
  conv => cbv
  refine Br.no (show ltI n 1 = false from ltI_f.2 (by omega)) ?_
  conv => cbv
  refine Br.no (show ltI 4096 n = false from ltI_f.2 (by omega)) ?_
  conv => cbv
  refine XOpN.x (XOpN.makeB (.abs (PM 118 [])) (makePM 118) ?_)
  conv => cbv
  refine LeOut2.imp (HImp.fold (S := memSh n (fun _ => 0)) 2 [1] [.cells 116 [.i .i64 (.ex n), .map 1], .abs (PM 118 [])] (by decide) (by cbv) ⟨[], by intro x hx; simp at hx, fun a => rfl, rfl⟩) ?_
  refine (LeOut.mk' [0, 2] (by decide) rfl (by decide) (by cbv) (by cbv)).two
/-- An arena. -/
abbrev arB (m : Nat) (base pages taken : Int) (sealed : Bool) : Blk := .cells 82 [.p m (.at 0), .i .u32 (.ex base), .i .i64 (.ex pages), .i .i64 (.ex taken), .b (.ex sealed)]
noncomputable def I45 : FnT := [(13, fi Tryd.f13 ⟨[], 0⟩), (27, fi Tryd.f27 ⟨[], 0⟩)]
theorem I45ok : FnsOk kit I45 := ⟨fo13 _, fo27 _, trivial⟩
theorem memUnf {f : Nat} {fn : Func} {args : List SV} {hp : List Blk} {K : Bool → SV → List Blk → Prop} {n : Int} {g : Int → Int} (x : Nat) (hx : hp[x]? = some (memB n g)) (hok : CallOk kit.P f)
    (h : ∀ kvs, PgOk kvs → (∀ a, bytesOf kvs a = g a) → OkCall kit f args (unf hp x [.cells 116 [.i .i64 (.ex n), .map 1], .abs (PM 118 kvs)]) K) : OkCall kit f args hp K := by
  refine OkCall.unfold x hx hok ?_
  rintro l ⟨kvs, hpg, hf, rfl⟩
  exact h kvs hpg hf
theorem arenaNew_spec (n base many : Int) (f : Int → Int) (hn : 1 ≤ n ∧ n ≤ 4096) (hb : 0 ≤ base ∧ base < 4294967296) (h0 : base % 4096 = 0) (hm : 0 ≤ many) (hs : base / 4096 + many ≤ n) :
    Spec1 kit 13 [.p 0 (.at 0), .i .u32 (.ex base), .i .i64 (.ex many)] [memB n f] false (.tup [.p 2 (.at 0), .i .i64 (.lit 0)]) [memB n f] [arB 0 base many 0 false] := by
  refine Spec1.mk2 rfl fun F => OkCall.unfold 0 rfl (CallOk.of (fo13 ⟨[], 0⟩)) ?_
  rintro l ⟨kvs, hpg, hf, rfl⟩
  refine into I45ok 6 ?_
  conv => cbv
  have hrem : remI base 4096 = 0 := by rw [remI_eq, Int.tmod_eq_emod_of_nonneg hb.1, h0]
  have hq : addI .i64 (convI .i64 (quoI .u32 base 4096)) many = base / 4096 + many := by
    have h1 : convI .i64 (quoI .u32 base 4096) = base / 4096 := by rw [quoI_eq, Int.tdiv_eq_ediv_of_nonneg hb.1, wrap_u32, convI_eq, IntWalk.i64_in _ (by omega)]; omega
    rw [h1, addI_eq, IntWalk.i64_in _ (by omega)]
  refine Br.no (show notB (eqI (remI base 4096) 0) = false from neI_f.2 hrem) ?_
  conv => cbv
  refine Br.no (show ltI many 0 = false from ltI_f.2 hm) ?_
  conv => cbv
  refine Br.no (show ltI n many = false from ltI_f.2 (by omega)) ?_
  conv => cbv
  refine Br.no (show ltI n (addI .i64 (convI .i64 (quoI .u32 base 4096)) many) = false from ltI_f.2 (by rw [hq]; exact hs)) ?_
  conv => cbv
  refine LeOut2.imp (HImp.fold (S := memSh n f) 0 [2] [.cells 116 [.i .i64 (.ex n), .map 1], .abs (PM 118 kvs)] (by decide) (by cbv) ⟨kvs, hpg, hf, rfl⟩) ?_
  refine (LeOut.mk' [0, 1, 3] (by decide) rfl (by decide) (by cbv) (by cbv)).two
/-! ### A page is given out -/
noncomputable def I43 : FnT := [(28, fi Tryd.f28 ⟨[4], 0⟩)]
theorem I43ok : FnsOk kit I43 := ⟨fo28 _, trivial⟩
def takeE (pages taken : Int) (sealed : Bool) : Int := if sealed = true then 62 else if taken = pages then 61 else 0
/-- An arena lies within its memory. -/
structure ArOk (n base pages taken : Int) : Prop where
  hn : 1 ≤ n ∧ n ≤ 4096
  hb : 0 ≤ base
  hb0 : base % 4096 = 0
  ht : 0 ≤ taken ∧ taken ≤ pages
  hs : base / 4096 + pages ≤ n
theorem take_no (n base pages taken : Int) (sealed : Bool) (f : Int → Int) (h : ArOk n base pages taken) {e : Int} (he : e = takeE pages taken sealed) (hne : e ≠ 0) :
    Spec1 kit 28 [.p 1 (.at 0)] [memB n f, arB 0 base pages taken sealed] false (.tup [.i .u32 (.lit 0), .i .i64 (.ex e)]) [memB n f, arB 0 base pages taken sealed] [] := by
  refine Spec1.mk2 rfl fun F => ?_
  refine into I43ok 6 ?_
  conv => cbv
  refine Br.mk (fun hc => ?_) (fun hc => ?_)
  · have he : e = 62 := by rw [he, takeE, if_pos hc]
    conv => cbv
    refine (LeOut.mk' [0, 1, 2] (by decide) rfl (by decide) ?_ (by cbv)).two
    conv => cbv
    exact ⟨he, trivial⟩
  · have hs : sealed = false := hc
    subst hs
    rw [takeE, if_neg (by decide)] at he
    conv => cbv
    refine Br.mk (fun hd => ?_) (fun hd => ?_)
    · have hd : taken = pages := eqI_t.1 hd
      have he : e = 61 := by rw [he, if_pos hd]
      conv => cbv
      refine (LeOut.mk' [0, 1, 2] (by decide) rfl (by decide) ?_ (by cbv)).two
      conv => cbv
      exact ⟨he, trivial⟩
    · have hd : taken ≠ pages := eqI_f.1 hd
      exact absurd (by rw [he, if_neg hd]) hne
theorem take_ok (n base pages taken : Int) (f : Int → Int) (h : ArOk n base pages taken) (ht : taken ≠ pages) {at_ tk : Int} (hat : at_ = base + 4096 * taken) (htk : tk = taken + 1) :
    Spec1 kit 28 [.p 1 (.at 0)] [memB n f, arB 0 base pages taken false] false (.tup [.i .u32 (.ex at_), .i .i64 (.lit 0)]) [memB n (zeroF f at_), arB 0 base pages tk false] [] := by
  obtain ⟨h1, h2, h3, h4, h5⟩ := h
  refine Spec1.mk2 rfl fun F => ?_
  refine into I43ok 6 ?_
  conv => cbv
  refine Br.no rfl ?_
  conv => cbv
  refine Br.no (show eqI taken pages = false from eqI_f.2 ht) ?_
  conv => cbv
  have e1 : at_ = addI .u32 base (mulI .u32 (convI .u32 taken) 4096) := by
    have h1 : mulI .u32 (convI .u32 taken) 4096 = taken * 4096 := by rw [mulI_eq, convI_eq, wrap_u32, wrap_u32]; omega
    rw [h1, addI_eq, wrap_u32]; omega
  refine Obs.int (.ex at_) e1 ?_
  conv => cbv
  have e2 : tk = addI .i64 taken 1 := by rw [addI_eq, IntWalk.i64_in _ (by omega)]; exact htk
  refine OkCall.by_spec (fill_spec n at_ f h1 (by omega) (by omega) (by omega)) [0] (by decide) (by cbv) (by cbv) ?_
  conv => cbv
  refine (LeOut.mk' [0, 1, 2] (by decide) rfl (by decide) (by cbv) ?_).two
  conv => cbv
  exact ⟨⟨e2, trivial⟩, trivial⟩
/-! ### A space is begun -/
noncomputable def I14 : FnT := [(14, fi Tryd.f14 ⟨[], 0⟩), (29, fi Tryd.f29 ⟨[], 0⟩)]
theorem I14ok : FnsOk kit I14 := ⟨fo14 _, fo29 _, trivial⟩
abbrev spB (a : Nat) (root : Int) : Blk := .cells 87 [.p a (.at 0), .i .u32 (.ex root)]
theorem tnew_nil : Spec1 kit 14 [.nilp] [] true (.tup [.nilp, .i .i64 (.lit 70)]) [] [] := by
  refine Spec1.mk2 rfl fun F => ?_
  refine into I14ok 6 ?_
  conv => cbv
  refine (LeOut.mk' [0] (by decide) rfl (by decide) (by cbv) (by cbv)).two
theorem tnew_ok (n base pages taken : Int) (f : Int → Int) (h : ArOk n base pages taken) (ht : taken ≠ pages) {at_ tk : Int} (hat : at_ = base + 4096 * taken) (htk : tk = taken + 1) :
    Spec1 kit 14 [.p 1 (.at 0)] [memB n f, arB 0 base pages taken false] false (.tup [.p 3 (.at 0), .i .i64 (.lit 0)]) [memB n (zeroF f at_), arB 0 base pages tk false] [spB 1 at_] := by
  refine Spec1.mk2 rfl fun F => ?_
  refine into I14ok 6 ?_
  conv => cbv
  refine OkCall.by_spec (take_ok n base pages taken f h ht hat htk) [0, 1] (by decide) (by cbv) (by cbv) ?_
  conv => cbv
  refine (LeOut.mk' [0, 1, 2, 4] (by decide) rfl (by decide) (by cbv) (by cbv)).two
theorem tnew_no (n base pages taken : Int) (sealed : Bool) (f : Int → Int) (h : ArOk n base pages taken) (hne : takeE pages taken sealed ≠ 0) {e : Int} (he : e = if sealed = true then 73 else 72) :
    Spec1 kit 14 [.p 1 (.at 0)] [memB n f, arB 0 base pages taken sealed] false (.tup [.nilp, .i .i64 (.ex e)]) [memB n f, arB 0 base pages taken sealed] [] := by
  refine Spec1.mk2 rfl fun F => ?_
  refine into I14ok 6 ?_
  conv => cbv
  obtain ⟨e0, he0⟩ : ∃ x, x = takeE pages taken sealed := ⟨_, rfl⟩
  refine OkCall.by_spec (take_no n base pages taken sealed f h he0 (by rw [he0]; exact hne)) [0, 1] (by decide) (by cbv) (by cbv) ?_
  conv => cbv
  refine Br.yes (show notB (eqI e0 0) = true from neI_t.2 (by rw [he0]; exact hne)) ?_
  conv => cbv
  refine Br.mk (fun hc => ?_) (fun hc => ?_)
  · have hc : e0 = 62 := eqI_t.1 hc
    have hs : sealed = true := by
      cases sealed with
      | true => rfl
      | false => rw [hc, takeE, if_neg (by decide)] at he0; split at he0 <;> omega
    rw [if_pos hs] at he
    conv => cbv
    refine (LeOut.mk' [0, 1, 2] (by decide) rfl (by decide) ?_ (by cbv)).two
    conv => cbv
    exact ⟨he, trivial⟩
  · have hc : e0 ≠ 62 := eqI_f.1 hc
    have hs : ¬ sealed = true := by
      intro hs; exact hc (by rw [he0, takeE, if_pos hs])
    rw [if_neg hs] at he
    conv => cbv
    refine (LeOut.mk' [0, 1, 2] (by decide) rfl (by decide) ?_ (by cbv)).two
    conv => cbv
    exact ⟨he, trivial⟩
end Go.Proofs.YtafhmkedblpdlaaDoor
end

/-
  tables: word, lies, lay, mayBe.
-/
section
namespace Go.Proofs.YtafhmkedblpdlaaDoor
open Go Go.Vex
set_option maxRecDepth 20000
set_option maxHeartbeats 4000000
def wAt (tb ix : Int) : Int := if 4294967292 < tb + 4 * ix then 0 else tb + 4 * ix
def wOk (n tb ix : Int) : Bool := decide (tb + 4 * ix ≤ 4294967292 ∧ wordErr n (tb + 4 * ix) = 0)
def wW (n : Int) (f : Int → Int) (tb ix : Int) : Int := if wOk n tb ix = true then w32f f (tb + 4 * ix) else 0
noncomputable def I50 : FnT := [(35, fi Tryd.f35 ⟨[], 0⟩)]
theorem I50ok : FnsOk kit I50 := ⟨fo35 _, trivial⟩
theorem word_spec (n : Int) (f : Int → Int) (tb ix : Int) (hn : 1 ≤ n ∧ n ≤ 4096) (ht : 0 ≤ tb ∧ tb < 4294967296) (hi : 0 ≤ ix ∧ ix < 4294967296) {a w : Int} {b : Bool} (ha : a = wAt tb ix) (hw : w = wW n f tb ix) (hb : b = wOk n tb ix) :
    Spec1 kit 35 [.p 0 (.at 0), .i .u32 (.ex tb), .i .u32 (.ex ix)] [memB n f] false (.tup [.i .u32 (.ex a), .i .u32 (.ex w), .b (.ex b)]) [memB n f] [] := by
  refine Spec1.mk2 rfl fun F => ?_
  have c1 : convI .u64 tb = tb := by rw [convI_eq, wrap_u64]; omega
  have c2 : convI .u64 ix = ix := by rw [convI_eq, wrap_u64]; omega
  have hat : addI .u64 (convI .u64 tb) (mulI .u64 4 (convI .u64 ix)) = tb + 4 * ix := by
    rw [c1, c2, mulI_eq, wrap_u64, addI_eq, wrap_u64]; omega
  refine into I50ok 6 ?_
  conv => cbv
  refine Br.mk (fun hc => ?_) (fun hc => ?_)
  · have hc : 4294967292 < addI .u64 (convI .u64 tb) (mulI .u64 4 (convI .u64 ix)) := ltI_t.1 hc
    rw [hat] at hc
    have hb0 : wOk n tb ix = false := by rw [wOk, decide_eq_false_iff_not]; omega
    conv => cbv
    refine (LeOut.mk' [0, 1] (by decide) rfl (by decide) ?_ (by cbv)).two
    conv => cbv
    exact ⟨by rw [ha, wAt, if_pos hc], by rw [hw, wW, if_neg (by rw [hb0]; decide)], by rw [hb, hb0], trivial⟩
  · have hc : addI .u64 (convI .u64 tb) (mulI .u64 4 (convI .u64 ix)) ≤ 4294967292 := ltI_f.1 hc
    rw [hat] at hc
    obtain ⟨t, htt⟩ : ∃ x, tb + 4 * ix = x := ⟨_, rfl⟩
    rw [htt] at hat hc
    have hct : convI .u32 (addI .u64 (convI .u64 tb) (mulI .u64 4 (convI .u64 ix))) = t := by rw [hat, convI_eq, wrap_u32]; omega
    obtain ⟨e, he⟩ : ∃ x, x = wordErr n t := ⟨_, rfl⟩
    obtain ⟨w0, hw0⟩ : ∃ x, x = if e = 0 then w32f f t else 0 := ⟨_, rfl⟩
    have hbe : wOk n tb ix = decide (e = 0) := by rw [wOk, htt, he]; by_cases h : wordErr n t = 0 <;> simp [h, hc]
    conv => cbv
    refine OkCall.by_spec (load4_spec n t f hn (by omega) he hw0) [0] (by decide) ?_ (by cbv) ?_
    · conv => cbv
      exact ⟨hct.symm, trivial⟩
    conv => cbv
    refine (LeOut.mk' [0, 1] (by decide) rfl (by decide) ?_ (by cbv)).two
    conv => cbv
    refine ⟨?_, ?_, ?_, trivial⟩
    · show a = convI .u32 (addI .u64 (convI .u64 tb) (mulI .u64 4 (convI .u64 ix)))
      rw [hct, ha, wAt, htt, if_neg (by omega)]
    · rw [hw, wW, hbe, htt, hw0]
      by_cases h : e = 0 <;> simp [h]
    · show b = eqI e 0
      rw [hb, hbe, eqI_eq]; rfl
theorem word_nil (tb ix : Int) : Spec1 kit 35 [.nilp, .i .u32 (.ex tb), .i .u32 (.ex ix)] [] false (.tup [.i .u32 (.lit 0), .i .u32 (.lit 0), .b (.lit false)]) [] [] := by
  refine Spec1.mk2 rfl fun F => ?_
  refine into I50ok 6 ?_
  conv => cbv
  refine (LeOut.mk' [0] (by decide) rfl (by decide) (by cbv) (by cbv)).two
/-! ### lies -/
noncomputable def I52 : FnT := [(37, fi Tryd.f37 ⟨[], 0⟩), (27, fi Tryd.f27 ⟨[], 0⟩)]
theorem I52ok : FnsOk kit I52 := ⟨fo37 _, fo27 _, trivial⟩
theorem lies_spec (n : Int) (f : Int → Int) (fr : Int) (hf : 0 ≤ fr ∧ fr < 4294967296) {b : Bool} (hb : b = decide (fr < n)) : Spec1 kit 37 [.p 0 (.at 0), .i .u32 (.ex fr)] [memB n f] false (.b (.ex b)) [memB n f] [] := by
  refine Spec1.mk2 rfl fun F => OkCall.unfold 0 rfl (CallOk.of (fo37 ⟨[], 0⟩)) ?_
  rintro l ⟨kvs, hpg, hff, rfl⟩
  refine into I52ok 6 ?_
  conv => cbv
  refine LeOut2.imp (HImp.fold (S := memSh n f) 0 [2] [.cells 116 [.i .i64 (.ex n), .map 1], .abs (PM 118 kvs)] (by decide) (by cbv) ⟨kvs, hpg, hff, rfl⟩) ?_
  refine (LeOut.mk' [0, 1] (by decide) rfl (by decide) ?_ (by cbv)).two
  conv => cbv
  show b = ltI (convI .i64 fr) n
  rw [hb, ltI_eq, convI_eq, IntWalk.i64_in _ (by omega)]
/-! ### lay -/
noncomputable def I55 : FnT := [(41, fi Tryd.f41 ⟨[], 0⟩)]
theorem I55ok : FnsOk kit I55 := ⟨fo41 _, trivial⟩
def layF (n : Int) (f : Int → Int) (tb ix k p fr : Int) : Int → Int := storeF f n (IntKind.u32.wrap (tb + 4 * ix)) (encW k p fr)
theorem encW_u32 {k p f : Int} (hp : 0 ≤ p ∧ p < 256) (hf : 0 ≤ f) : 0 ≤ encW k p f ∧ encW k p f < 4294967296 := by
  unfold encW
  by_cases h : encE k p f = 0
  · rw [if_neg (by simp [h])]
    by_cases h0 : k = 0
    · rw [if_pos h0]; omega
    · rw [if_neg h0]
      rw [encE, if_neg h0] at h
      have hf2 : ¬ 4095 < f := by
        intro h4
        simp only [h4, if_true] at h
        split at h <;> split at h <;> first | omega | (split at h <;> omega)
      split <;> omega
  · rw [if_pos h]; omega
theorem lay_spec (n : Int) (f : Int → Int) (tb ix k p fr : Int) (hn : 1 ≤ n ∧ n ≤ 4096) (hp : 0 ≤ p ∧ p < 256) (hf : 0 ≤ fr ∧ fr < 4294967296) {g : Int → Int} (hg : g = layF n f tb ix k p fr) :
    Spec1 kit 41 [.p 0 (.at 0), .i .u32 (.ex tb), .i .u32 (.ex ix), .agg [.i .i64 (.ex k), .i .u8 (.ex p), .i .u32 (.ex fr)]] [memB n f] false (.tup []) [memB n g] [] := by
  refine Spec1.mk2 rfl fun F => ?_
  obtain ⟨e, he⟩ : ∃ x, x = encE k p fr := ⟨_, rfl⟩
  obtain ⟨w, hw⟩ : ∃ x, x = encW k p fr := ⟨_, rfl⟩
  have hwu := encW_u32 (k := k) hp hf.1
  rw [← hw] at hwu
  have hat : addI .u32 tb (mulI .u32 4 ix) = IntKind.u32.wrap (tb + 4 * ix) := by rw [mulI_eq, addI_eq, wrap_u32, wrap_u32, wrap_u32]; omega
  obtain ⟨t, htt⟩ : ∃ x, x = addI .u32 tb (mulI .u32 4 ix) := ⟨_, rfl⟩
  have htr : 0 ≤ t ∧ t < 4294967296 := by rw [htt, hat, wrap_u32]; omega
  obtain ⟨e2, he2⟩ : ∃ x, x = wordErr n t := ⟨_, rfl⟩
  have hg2 : g = storeF f n t w := by rw [hg, layF, htt, hat, hw]
  refine into I55ok 6 ?_
  conv => cbv
  refine OkCall.by_spec (enc_spec k p fr hp hf he hw) [] (by decide) (by cbv) trivial ?_
  conv => cbv
  refine OkCall.by_spec (store4_spec n t w f hn htr hwu he2 hg2) [0] (by decide) ?_ (by cbv) ?_
  · conv => cbv
    exact ⟨htt, trivial⟩
  conv => cbv
  refine (LeOut.mk' [0, 1] (by decide) rfl (by decide) (by cbv) (by cbv)).two
/-! ### mayBe -/
noncomputable def I39 : FnT := [(32, fi Tryd.f32 ⟨[], 0⟩), (55, fi Tryd.f55 ⟨[], 0⟩)]
theorem I39ok : FnsOk kit I39 := ⟨fo32 _, fo55 _, trivial⟩
/-- May a range be? -/
def mayB (v ph g p : Int) : Bool := decide (encE 1 p (ph / 4096) = 0 ∧ v % 4096 = 0 ∧ ph % 4096 = 0 ∧ 1 ≤ g ∧ g ≤ 1048576 - v / 4096 ∧ g ≤ 4096 - ph / 4096)
theorem may_spec (v ph g p : Int) (hv : 0 ≤ v ∧ v < 4294967296) (hph : 0 ≤ ph ∧ ph < 4294967296) (hp : 0 ≤ p ∧ p < 256) {b : Bool} (hb : b = mayB v ph g p) :
    Spec1 kit 32 [.agg [.i .u32 (.ex v), .i .u32 (.ex ph), .i .i64 (.ex g), .i .u8 (.ex p)]] [] false (.b (.ex b)) [] [] := by
  refine Spec1.mk2 rfl fun F => ?_
  refine into I39ok 6 ?_
  conv => cbv
  have hfr : addI .u32 (shrI .u32 ph 12) 0 = ph / 4096 := by
    have := shrI_u32 ph 12 (by decide)
    rw [show ((12 : Nat) : Int) = 12 from rfl] at this
    rw [this, addI_eq, wrap_u32]
    show (ph / 4096 + 0) % _ = _
    omega
  obtain ⟨pf, hpf⟩ : ∃ x, ph / 4096 = x := ⟨_, rfl⟩
  obtain ⟨e, he⟩ : ∃ x, x = encE 1 p pf := ⟨_, rfl⟩
  obtain ⟨w, hw⟩ : ∃ x, x = encW 1 p pf := ⟨_, rfl⟩
  refine OkCall.by_spec (enc_spec 1 p pf hp (by omega) he hw) [] (by decide) ?_ trivial ?_
  · conv => cbv
    exact ⟨⟨(hfr.trans hpf).symm, trivial⟩, trivial⟩
  conv => cbv
  have r1 : remI v 4096 = v % 4096 := by rw [remI_eq]; exact Int.tmod_eq_emod_of_nonneg hv.1
  have r2 : remI ph 4096 = ph % 4096 := by rw [remI_eq]; exact Int.tmod_eq_emod_of_nonneg hph.1
  have s1 : subI .i64 1048576 (convI .i64 (shrI .u32 v 12)) = 1048576 - v / 4096 := by
    have := shrI_u32 v 12 (by decide)
    rw [show ((12 : Nat) : Int) = 12 from rfl] at this
    rw [this, convI_eq, subI_eq, IntWalk.i64_in (v / 2 ^ 12) (by show _ ∧ _; omega), IntWalk.i64_in _ (by show _ ∧ _; omega)]
    rfl
  have s2 : subI .i64 4096 (convI .i64 (shrI .u32 ph 12)) = 4096 - ph / 4096 := by
    have := shrI_u32 ph 12 (by decide)
    rw [show ((12 : Nat) : Int) = 12 from rfl] at this
    rw [this, convI_eq, subI_eq, IntWalk.i64_in (ph / 2 ^ 12) (by show _ ∧ _; omega), IntWalk.i64_in _ (by show _ ∧ _; omega)]
    rfl
  -- what is left of b, once some of its parts have been seen
  have no : ¬ (encE 1 p (ph / 4096) = 0 ∧ v % 4096 = 0 ∧ ph % 4096 = 0 ∧ 1 ≤ g ∧ g ≤ 1048576 - v / 4096 ∧ g ≤ 4096 - ph / 4096) → b = false := fun h => by rw [hb, mayB, decide_eq_false_iff_not]; exact h
  refine Br.mk (fun h1 => ?_) (fun h1 => ?_)
  · have h1 : remI v 4096 = 0 := eqI_t.1 h1
    rw [r1] at h1
    conv => cbv
    refine Br.mk (fun h2 => ?_) (fun h2 => ?_)
    · have h2 : e = 0 := eqI_t.1 h2
      conv => cbv
      refine Br.mk (fun h3 => ?_) (fun h3 => ?_)
      · have h3 : remI ph 4096 = 0 := eqI_t.1 h3
        rw [r2] at h3
        conv => cbv
        refine Br.mk (fun h4 => ?_) (fun h4 => ?_)
        · have h4 : 1 ≤ g := leI_t.1 h4
          conv => cbv
          refine Br.mk (fun h5 => ?_) (fun h5 => ?_)
          · have h5 : g ≤ subI .i64 1048576 (convI .i64 (shrI .u32 v 12)) := leI_t.1 h5
            rw [s1] at h5
            conv => cbv
            refine (LeOut.mk' [0] (by decide) rfl (by decide) ?_ (by cbv)).two
            conv => cbv
            show b = leI g (subI .i64 4096 (convI .i64 (shrI .u32 ph 12)))
            rw [s2, leI_eq, hb, mayB]
            rw [hpf, ← he] at *
            simp only [h1, h2, h3, h4, h5, true_and]
          · have h5 : subI .i64 1048576 (convI .i64 (shrI .u32 v 12)) < g := leI_f.1 h5
            rw [s1] at h5
            have hb0 := no (fun h => by omega)
            conv => cbv
            refine (LeOut.mk' [0] (by decide) rfl (by decide) ?_ (by cbv)).two
            conv => cbv
            exact hb0
        · have h4 : g < 1 := leI_f.1 h4
          have hb0 := no (fun h => by omega)
          conv => cbv
          refine (LeOut.mk' [0] (by decide) rfl (by decide) ?_ (by cbv)).two
          conv => cbv
          exact hb0
      · have h3 : remI ph 4096 ≠ 0 := eqI_f.1 h3
        rw [r2] at h3
        have hb0 := no (fun h => h3 h.2.2.1)
        conv => cbv
        refine (LeOut.mk' [0] (by decide) rfl (by decide) ?_ (by cbv)).two
        conv => cbv
        exact hb0
    · have h2 : e ≠ 0 := eqI_f.1 h2
      have hb0 := no (fun h => h2 (by rw [he, ← hpf]; exact h.1))
      conv => cbv
      refine (LeOut.mk' [0] (by decide) rfl (by decide) ?_ (by cbv)).two
      conv => cbv
      exact hb0
  · have h1 : remI v 4096 ≠ 0 := eqI_f.1 h1
    rw [r1] at h1
    have hb0 := no (fun h => h1 h.2.1)
    conv => cbv
    refine Br.mk (fun h2 => ?_) (fun h2 => ?_)
    · skip
      conv => cbv
      refine (LeOut.mk' [0] (by decide) rfl (by decide) ?_ (by cbv)).two
      conv => cbv
      exact hb0
    · skip
      conv => cbv
      refine (LeOut.mk' [0] (by decide) rfl (by decide) ?_ (by cbv)).two
      conv => cbv
      exact hb0
end Go.Proofs.YtafhmkedblpdlaaDoor
end

/-
  tables.Walk.
-/
section
namespace Go.Proofs.YtafhmkedblpdlaaDoor
open Go Go.Vex
set_option maxRecDepth 20000
set_option maxHeartbeats 4000000
/-- Bytes. -/
def MemOk (f : Int → Int) : Prop := ∀ a, 0 ≤ f a ∧ f a < 256
theorem w32_u {f : Int → Int} (h : MemOk f) (a : Int) : 0 ≤ w32f f a ∧ w32f f a < 4294967296 := by
  have h0 := h a; have h1 := h (a + 1); have h2 := h (a + 2); have h3 := h (a + 3)
  unfold w32f; omega
theorem wW_u {f : Int → Int} (h : MemOk f) (n tb ix : Int) : 0 ≤ wW n f tb ix ∧ wW n f tb ix < 4294967296 := by
  unfold wW; split
  · exact w32_u h _
  · omega
theorem encE_f {k p f : Int} (hk : k = 1 ∨ k = 2) (h : encE k p f = 0) : f ≤ 4095 := by
  rcases hk with rfl | rfl
  · simp only [encE] at h
    by_cases h4 : 4095 < f
    · simp [h4] at h
      split at h <;> omega
    · omega
  · simp only [encE] at h
    by_cases h4 : 4095 < f
    · simp [h4] at h
      split at h <;> omega
    · omega
theorem decF_u {w : Int} (hw : 0 ≤ w ∧ w < 4294967296) (h : decE w = 0) : 0 ≤ decF w ∧ decF w ≤ 4095 := by
  unfold decF
  rw [if_neg (by simp [h])]
  by_cases h0 : w = 0
  · subst h0; decide
  · rw [decE, if_neg h0] at h
    split at h
    · omega
    · split at h
      · omega
      · have := encE_f (by split <;> simp) h
        omega
theorem decP_u {w : Int} (hw : 0 ≤ w ∧ w < 4294967296) : 0 ≤ decP w ∧ decP w < 256 := by
  unfold decP; split <;> omega
noncomputable def I19 : FnT := [(63, fi Tryd.f63 ⟨[], 3⟩), (57, fi Tryd.f57 ⟨[], 0⟩)]
theorem I19ok : FnsOk kit I19 := ⟨fo63 _, fo57 _, trivial⟩
/-- Where an address is; what was read on the way; why it may not be. -/
def walkP (n : Int) (f : Int → Int) (root v a : Int) : Int × List (Int × Int) × Int :=
  let i1 := v / 4096 / 1024
  let i2 := v / 4096 % 1024
  if wOk n root i1 = false then (0, [], 2) else
  let w1 := wW n f root i1
  let s1 := (wAt root i1, w1)
  if decE w1 ≠ 0 then (0, [s1], 4) else if decK w1 = 0 then (0, [s1], 3) else if decK w1 ≠ 2 then (0, [s1], 4) else
  let t := decF w1 * 4096
  if wOk n t i2 = false then (0, [s1], 2) else
  let w2 := wW n f t i2
  let s2 := (wAt t i2, w2)
  if decE w2 ≠ 0 then (0, [s1, s2], 4) else if decK w2 = 0 then (0, [s1, s2], 3) else if decK w2 ≠ 1 then (0, [s1, s2], 4) else
  if allowB (decP w2) a = false then (0, [s1, s2], 5) else if n ≤ decF w2 then (0, [s1, s2], 2) else (decF w2 * 4096 + v % 4096, [s1, s2], 0)
noncomputable def stepG (A B : List Int) (j : Nat) : List SV := [.i .u32 (.ex (gi A j)), .i .u32 (.ex (gi B j))]
noncomputable abbrev stepF (l : List (Int × Int)) : Nat → List SV := stepG (l.map (·.1)) (l.map (·.2))
def stepsV (x : Nat) (l : List (Int × Int)) (cap : Nat) : SV := match l with
  | [] => .nilslc
  | _ :: _ => .slc x 0 2 (.lit 0) (.ex l.length) (.ex cap)
noncomputable def stepsB (l : List (Int × Int)) (cap : Nat) : List Blk := match l with
  | [] => []
  | _ :: _ => [.cells 161 [.rows 2 (.ex l.length) (stepF l), .junk 2 (.ex (cap - l.length))]]
theorem fin1 {σ : List Nat} {N : Nat} {x : Int × Int} {cap : Nat} : ((∀ (j : Nat), j < (S.lit 1).val → leL [.i .u32 (.ex x.1), .i .u32 (.ex x.2)] (renL (tau σ N) (stepF [x] j))) ∧ cap - 1 = subN cap 1 ∧ True) ∧ True := by
  refine ⟨⟨fun j hj => ?_, by rw [subN_eq], trivial⟩, trivial⟩
  have : j = 0 := by simpa using hj
  subst this; refine ⟨⟨rfl, ?_⟩, ⟨rfl, ?_⟩, trivial⟩ <;> (show gi _ _ = _; rw [gi_eq]; rfl)
theorem fin2 {σ : List Nat} {N : Nat} {x y : Int × Int} {cap : Nat} (hc : 2 ≤ cap) : ((∀ (j : Nat), j < (S.lit 2).val → leL (jn (fun _ => [.i .u32 (.ex x.1), .i .u32 (.ex x.2)]) (fun _ => [.i .u32 (.ex y.1), .i .u32 (.ex y.2)]) 1 j) (renL (tau σ N) (stepF [x, y] j))) ∧ cap - 2 = subN cap 2 ∧ True) ∧ True := by
  refine ⟨⟨fun j hj => ?_, by rw [subN_eq], trivial⟩, trivial⟩
  have : j = 0 ∨ j = 1 := by have : j < 2 := hj; omega
  rw [jn_eq]
  rcases this with rfl | rfl <;> refine ⟨⟨rfl, ?_⟩, ⟨rfl, ?_⟩, trivial⟩ <;> (show gi _ _ = _; rw [gi_eq]; rfl)
theorem walk_gen (n : Int) (f : Int → Int) (root v a : Int) (hn : 1 ≤ n ∧ n ≤ 4096) (hm : MemOk f) (hr : 0 ≤ root ∧ root < 4294967296) (hv : 0 ≤ v ∧ v < 4294967296) {R : Bool → SV → List Blk → List Blk → Prop}
    (hR : ∀ addr steps fault cap, walkP n f root v a = (addr, steps, fault) → steps.length ≤ cap → R false (.tup [.i .u32 (.ex addr), stepsV 2 steps cap, .i .i64 (.ex fault)]) [memB n f] (stepsB steps cap)) :
    SpecM kit 63 [.p 0 (.at 0), .i .u32 (.ex root), .i .u32 (.ex v), .i .i64 (.ex a)] [memB n f] R := by
  refine SpecM.mk2 fun F => ?_
  obtain ⟨i1, hi1⟩ : ∃ x, v / 4096 / 1024 = x := ⟨_, rfl⟩
  obtain ⟨i2, hi2⟩ : ∃ x, v / 4096 % 1024 = x := ⟨_, rfl⟩
  have e1 : i1 = quoI .u32 (shrI .u32 v 12) 1024 := by
    have := shrI_u32 v 12 (by decide)
    rw [show ((12 : Nat) : Int) = 12 from rfl] at this
    rw [this, quoI_eq, Int.tdiv_eq_ediv_of_nonneg (by show 0 ≤ v / 4096; omega), wrap_u32]
    show i1 = v / 4096 / 1024 % 4294967296; omega
  have e2 : i2 = remI (shrI .u32 v 12) 1024 := by
    have := shrI_u32 v 12 (by decide)
    rw [show ((12 : Nat) : Int) = 12 from rfl] at this
    rw [this, remI_eq, Int.tmod_eq_emod_of_nonneg (by show 0 ≤ v / 4096; omega)]
    exact hi2.symm
  obtain ⟨a1, ha1⟩ : ∃ x, x = wAt root i1 := ⟨_, rfl⟩
  obtain ⟨w1, hw1⟩ : ∃ x, x = wW n f root i1 := ⟨_, rfl⟩
  obtain ⟨b1, hb1⟩ : ∃ x, x = wOk n root i1 := ⟨_, rfl⟩
  obtain ⟨k1, hk1⟩ : ∃ x, x = decK w1 := ⟨_, rfl⟩
  obtain ⟨p1, hp1⟩ : ∃ x, x = decP w1 := ⟨_, rfl⟩
  obtain ⟨f1, hf1⟩ : ∃ x, x = decF w1 := ⟨_, rfl⟩
  obtain ⟨er1, he1⟩ : ∃ x, x = decE w1 := ⟨_, rfl⟩
  obtain ⟨t1, ht1⟩ : ∃ x, f1 * 4096 = x := ⟨_, rfl⟩
  obtain ⟨a2, ha2⟩ : ∃ x, x = wAt t1 i2 := ⟨_, rfl⟩
  obtain ⟨w2, hw2⟩ : ∃ x, x = wW n f t1 i2 := ⟨_, rfl⟩
  obtain ⟨b2, hb2⟩ : ∃ x, x = wOk n t1 i2 := ⟨_, rfl⟩
  obtain ⟨k2, hk2⟩ : ∃ x, x = decK w2 := ⟨_, rfl⟩
  obtain ⟨p2, hp2⟩ : ∃ x, x = decP w2 := ⟨_, rfl⟩
  obtain ⟨f2, hf2⟩ : ∃ x, x = decF w2 := ⟨_, rfl⟩
  obtain ⟨er2, he2⟩ : ∃ x, x = decE w2 := ⟨_, rfl⟩
  obtain ⟨ba, hba⟩ : ∃ x, x = allowB p2 a := ⟨_, rfl⟩
  obtain ⟨bl, hbl⟩ : ∃ x, x = decide (f2 < n) := ⟨_, rfl⟩
  have hw1u : 0 ≤ w1 ∧ w1 < 4294967296 := by rw [hw1]; exact wW_u hm _ _ _
  have hw2u : 0 ≤ w2 ∧ w2 < 4294967296 := by rw [hw2]; exact wW_u hm _ _ _
  have hfr : er1 = 0 → 0 ≤ f1 ∧ f1 ≤ 4095 := fun h => by rw [hf1]; exact decF_u hw1u (by rw [← he1]; exact h)
  have hfr2 : er2 = 0 → 0 ≤ f2 ∧ f2 ≤ 4095 := fun h => by rw [hf2]; exact decF_u hw2u (by rw [← he2]; exact h)
  have hsh : er1 = 0 → shlI .u32 f1 12 = t1 := fun h => by rw [shl12 (hfr h), ← ht1]; show 4096 * f1 = _; omega
  have ht1u : er1 = 0 → 0 ≤ t1 ∧ t1 < 4294967296 := fun h => by have := hfr h; omega
  have hp2u : 0 ≤ p2 ∧ p2 < 256 := by rw [hp2]; exact decP_u hw2u
  have hf2u : er2 = 0 → 0 ≤ f2 ∧ f2 < 4294967296 := fun h => by have := hfr2 h; omega
  have hres : er2 = 0 → f2 * 4096 + v % 4096 = addI .u32 (shlI .u32 f2 12) (remI v 4096) := fun h => by
    have h2 := hfr2 h
    rw [shl12 h2, remI_eq, Int.tmod_eq_emod_of_nonneg hv.1, addI_eq, wrap_u32]
    show _ = (4096 * f2 + v % 4096) % _
    omega
  refine into I19ok 6 ?_
  conv => cbv
  refine OkCall.by_spec (word_spec n f root i1 hn hr (by omega) ha1 hw1 hb1) [0] (by decide) ?_ (by cbv) ?_
  · conv => cbv
    exact ⟨e1, trivial⟩
  conv => cbv
  refine Br.mk (fun hc => ?_) (fun hc => ?_)
  · have hc : notB b1 = true := hc
    rw [notB_eq, Bool.not_eq_true'] at hc
    subst hc
    conv => cbv
    refine ⟨_, _, _, _, hR 0 [] 2 0 (by simp [walkP, hi1, ← hb1]) (by simp), rfl, (LeOut.mk' [0, 1] (by decide) rfl (by decide) ?_ ?_).two⟩
    · conv => cbv
      trivial
    · conv => cbv
      trivial
  · have hc : notB b1 = false := hc
    rw [notB_eq, Bool.not_eq_false'] at hc
    subst hc
    conv => cbv
    refine ⟨by show apOk 1 8; rw [apOk_eq]; decide, AllN.mk fun cap1 hcap1 => ?_⟩
    refine OkCall.by_spec (dec_spec w1 hw1u hk1 hp1 hf1 he1) [] (by decide) (by cbv) trivial ?_
    conv => cbv
    refine Br.mk (fun h1 => ?_) (fun h1 => ?_)
    · have h1 : er1 ≠ 0 := neI_t.1 h1
      conv => cbv
      refine ⟨_, _, _, _, hR 0 [(a1, w1)] 4 cap1 (by simp [walkP, hi1, hi2, ← hb1, ← hw1, ← ha1, ← he1, ← hk1, ← hf1, h1]) (by simpa using hcap1), rfl, (LeOut.mk' [0, 1, 6] (by decide) rfl (by decide) ?_ ?_).two⟩
      · conv => cbv
        trivial
      · conv => cbv
        exact fin1 (x := (a1, w1))
    · have h1 : er1 = 0 := neI_f.1 h1
      conv => cbv
      refine Br.mk (fun h2 => ?_) (fun h2 => ?_)
      · have h2 : k1 = 0 := eqI_t.1 h2
        conv => cbv
        refine ⟨_, _, _, _, hR 0 [(a1, w1)] 3 cap1 (by simp [walkP, hi1, hi2, ← hb1, ← hw1, ← ha1, ← he1, ← hk1, ← hf1, h1, h2]) (by simpa using hcap1), rfl, (LeOut.mk' [0, 1, 6] (by decide) rfl (by decide) ?_ ?_).two⟩
        · conv => cbv
          trivial
        · conv => cbv
          exact fin1 (x := (a1, w1))
      · have h2 : k1 ≠ 0 := eqI_f.1 h2
        conv => cbv
        refine Br.mk (fun h3 => ?_) (fun h3 => ?_)
        · have h3 : k1 ≠ 2 := neI_t.1 h3
          conv => cbv
          refine ⟨_, _, _, _, hR 0 [(a1, w1)] 4 cap1 (by simp [walkP, hi1, hi2, ← hb1, ← hw1, ← ha1, ← he1, ← hk1, ← hf1, h1, h2, h3]) (by simpa using hcap1), rfl, (LeOut.mk' [0, 1, 6] (by decide) rfl (by decide) ?_ ?_).two⟩
          · conv => cbv
            trivial
          · conv => cbv
            exact fin1 (x := (a1, w1))
        · have h3 : k1 = 2 := neI_f.1 h3
          conv => cbv
          refine OkCall.by_spec (word_spec n f t1 i2 hn (ht1u h1) (by omega) ha2 hw2 hb2) [0] (by decide) ?_ (by cbv) ?_
          · conv => cbv
            exact ⟨(hsh h1).symm, e2, trivial⟩
          conv => cbv
          refine Br.mk (fun hc => ?_) (fun hc => ?_)
          · have hc : notB b2 = true := hc
            rw [notB_eq, Bool.not_eq_true'] at hc
            subst hc
            conv => cbv
            refine ⟨_, _, _, _, hR 0 [(a1, w1)] 2 cap1 (by simp [walkP, hi1, hi2, ← hb1, ← hw1, ← ha1, ← he1, ← hk1, ← hf1, h1, h2, h3, ht1, ← hb2]) (by simpa using hcap1), rfl, (LeOut.mk' [0, 1, 6] (by decide) rfl (by decide) ?_ ?_).two⟩
            · conv => cbv
              trivial
            · conv => cbv
              exact fin1 (x := (a1, w1))
          · have hc : notB b2 = false := hc
            rw [notB_eq, Bool.not_eq_false'] at hc
            subst hc
            conv => cbv
            refine ⟨by show eqN 1 1; rw [eqN_eq], by show eqN (addN 1 (subN cap1 1)) cap1; rw [eqN_eq, addN_eq, subN_eq]; omega, by show apOk 2 8; rw [apOk_eq]; decide, AllN.mk fun cap2 hcap2 => ?_⟩
            conv => cbv
            refine OkCall.by_spec (dec_spec w2 hw2u hk2 hp2 hf2 he2) [] (by decide) (by cbv) trivial ?_
            conv => cbv
            refine Br.mk (fun h4 => ?_) (fun h4 => ?_)
            · have h4 : er2 ≠ 0 := neI_t.1 h4
              conv => cbv
              refine ⟨_, _, _, _, hR 0 [(a1, w1), (a2, w2)] 4 cap2 (by simp [walkP, hi1, hi2, ← hb1, ← hw1, ← ha1, ← he1, ← hk1, ← hf1, h1, h3, ht1, ← hb2, ← hw2, ← ha2, ← he2, ← hk2, ← hp2, ← hf2, ← hba, h4]) (by simpa using hcap2), rfl, (LeOut.mk' [0, 1, 11] (by decide) rfl (by decide) ?_ ?_).two⟩
              · conv => cbv
                trivial
              · conv => cbv
                exact fin2 (x := (a1, w1)) (y := (a2, w2)) hcap2
            · have h4 : er2 = 0 := neI_f.1 h4
              conv => cbv
              refine Br.mk (fun h5 => ?_) (fun h5 => ?_)
              · have h5 : k2 = 0 := eqI_t.1 h5
                conv => cbv
                refine ⟨_, _, _, _, hR 0 [(a1, w1), (a2, w2)] 3 cap2 (by simp [walkP, hi1, hi2, ← hb1, ← hw1, ← ha1, ← he1, ← hk1, ← hf1, h1, h3, ht1, ← hb2, ← hw2, ← ha2, ← he2, ← hk2, ← hp2, ← hf2, ← hba, h4, h5]) (by simpa using hcap2), rfl, (LeOut.mk' [0, 1, 11] (by decide) rfl (by decide) ?_ ?_).two⟩
                · conv => cbv
                  trivial
                · conv => cbv
                  exact fin2 (x := (a1, w1)) (y := (a2, w2)) hcap2
              · have h5 : k2 ≠ 0 := eqI_f.1 h5
                conv => cbv
                refine Br.mk (fun h6 => ?_) (fun h6 => ?_)
                · have h6 : k2 ≠ 1 := neI_t.1 h6
                  conv => cbv
                  refine ⟨_, _, _, _, hR 0 [(a1, w1), (a2, w2)] 4 cap2 (by simp [walkP, hi1, hi2, ← hb1, ← hw1, ← ha1, ← he1, ← hk1, ← hf1, h1, h3, ht1, ← hb2, ← hw2, ← ha2, ← he2, ← hk2, ← hp2, ← hf2, ← hba, h4, h5, h6]) (by simpa using hcap2), rfl, (LeOut.mk' [0, 1, 11] (by decide) rfl (by decide) ?_ ?_).two⟩
                  · conv => cbv
                    trivial
                  · conv => cbv
                    exact fin2 (x := (a1, w1)) (y := (a2, w2)) hcap2
                · have h6 : k2 = 1 := neI_f.1 h6
                  conv => cbv
                  refine OkCall.by_spec (allow_spec p2 a hp2u hba) [] (by decide) (by cbv) trivial ?_
                  conv => cbv
                  refine Br.mk (fun h7 => ?_) (fun h7 => ?_)
                  · have h7 : notB ba = true := h7
                    rw [notB_eq, Bool.not_eq_true'] at h7
                    subst h7
                    conv => cbv
                    refine ⟨_, _, _, _, hR 0 [(a1, w1), (a2, w2)] 5 cap2 (by simp [walkP, hi1, hi2, ← hb1, ← hw1, ← ha1, ← he1, ← hk1, ← hf1, h1, h3, ht1, ← hb2, ← hw2, ← ha2, ← he2, ← hk2, ← hp2, ← hf2, ← hba, h4, h6]) (by simpa using hcap2), rfl, (LeOut.mk' [0, 1, 11] (by decide) rfl (by decide) ?_ ?_).two⟩
                    · conv => cbv
                      trivial
                    · conv => cbv
                      exact fin2 (x := (a1, w1)) (y := (a2, w2)) hcap2
                  · have h7 : notB ba = false := h7
                    rw [notB_eq, Bool.not_eq_false'] at h7
                    subst h7
                    conv => cbv
                    refine OkCall.by_spec (lies_spec n f f2 (hf2u h4) hbl) [0] (by decide) (by cbv) (by cbv) ?_
                    conv => cbv
                    refine Br.mk (fun h8 => ?_) (fun h8 => ?_)
                    · have h8 : notB bl = true := h8
                      rw [notB_eq, Bool.not_eq_true'] at h8
                      rw [h8] at hbl
                      have h9 : n ≤ f2 := by have := of_decide_eq_false hbl.symm; omega
                      conv => cbv
                      refine ⟨_, _, _, _, hR 0 [(a1, w1), (a2, w2)] 2 cap2 (by simp [walkP, hi1, hi2, ← hb1, ← hw1, ← ha1, ← he1, ← hk1, ← hf1, h1, h3, ht1, ← hb2, ← hw2, ← ha2, ← he2, ← hk2, ← hp2, ← hf2, ← hba, h4, h6, h9]) (by simpa using hcap2), rfl, (LeOut.mk' [0, 1, 11] (by decide) rfl (by decide) ?_ ?_).two⟩
                      · conv => cbv
                        trivial
                      · conv => cbv
                        exact fin2 (x := (a1, w1)) (y := (a2, w2)) hcap2
                    · have h8 : notB bl = false := h8
                      rw [notB_eq, Bool.not_eq_false'] at h8
                      rw [h8] at hbl
                      have h9 : ¬ n ≤ f2 := by have := of_decide_eq_true hbl.symm; omega
                      conv => cbv
                      refine ⟨_, _, _, _, hR (f2 * 4096 + v % 4096) [(a1, w1), (a2, w2)] 0 cap2 (by simp [walkP, hi1, hi2, ← hb1, ← hw1, ← ha1, ← he1, ← hk1, ← hf1, h1, h3, ht1, ← hb2, ← hw2, ← ha2, ← he2, ← hk2, ← hp2, ← hf2, ← hba, h4, h6, h9]) (by simpa using hcap2), rfl, (LeOut.mk' [0, 1, 11] (by decide) rfl (by decide) ?_ ?_).two⟩
                      · conv => cbv
                        exact ⟨hres h4, trivial⟩
                      · conv => cbv
                        exact fin2 (x := (a1, w1)) (y := (a2, w2)) hcap2
end Go.Proofs.YtafhmkedblpdlaaDoor
end

/-
  tables: slices.Contains, slices.ContainsFunc of ranges that may not be.
-/
section
namespace Go.Proofs.YtafhmkedblpdlaaDoor
open Go Go.Vex
set_option maxRecDepth 20000
set_option maxHeartbeats 4000000
noncomputable def I53 : FnT := [(38, fi Tryd.f38 ⟨[], 0⟩), (58, fi Tryd.f58 ⟨[], 0⟩)]
theorem I53ok : FnsOk kit I53 := ⟨fo38 _, fo58 _, trivial⟩
theorem getD_nat {l : List Int} {z : Int} (h0 : 0 ≤ z) (h : z.toNat < l.length) : l.getD z.toNat 0 ∈ l := by
  rw [List.getD_eq_getElem?_getD, List.getElem?_eq_getElem h]; simp
noncomputable def I53n : FnT := [(38, fi Tryd.f38 ⟨[], 0⟩), (58, fi Tryd.f58 ⟨[], 1⟩)]
theorem I53nok : FnsOk kit I53n := ⟨fo38 _, fo58 _, trivial⟩
theorem contains_nil (v : Int) : Spec1 kit 38 [.nilslc, .i .u32 (.ex v)] [] true (.b (.lit false)) [] [] := by
  refine Spec1.mk2 rfl fun F => ?_
  refine into I53nok 6 ?_
  conv => cbv
  exact (LeOut.mk' [0] (by decide) (by rfl) (fun h => h) (by cbv) (by cbv)).two
theorem contains_spec (l : List Int) (m cap : Nat) (hm : l.length = m) (hm0 : m < 9223372036854775808) (v : Int) {b : Bool} (hb : b = decide (v ∈ l)) : Spec1 kit 38 [.slc 0 0 1 (.lit 0) (.ex m) (.ex cap), .i .u32 (.ex v)] [.ro [.ints .u32 (.ex m) l]] true (.b (.ex b)) [.ro [.ints .u32 (.ex m) l]] [] := by
  refine Spec1.mk2 rfl fun F => ?_
  refine into I53ok 6 ?_
  conv => cbv
  refine byInv I53ok 6 ⟨[], 0⟩ (fun z : Int => ⟨[(8, .i .i64 (.ex z)), (7, .i .i64 (.ex (ofN m))), (0, .slc 0 0 1 (.lit 0) (.ex m) (.ex cap)), (1, .i .u32 (.ex v))], [.ro [.ints .u32 (.ex m) l], .abs F]⟩)
    (fun z => (m - z).toNat) (fun z => 0 ≤ z ∧ z ≤ m ∧ ∀ j, j < z.toNat → l.getD j 0 ≠ v) true 0 (by kernel_rfl) ⟨by omega, by omega, fun j hj => by simp at hj⟩ (LeSt.mk' [0, 1] (by decide) (by rfl) (by decide) (by cbv) (by cbv)) ?_
  rintro z ⟨hz0, hz1, hz2⟩
  conv => cbv
  refine Br.mk (fun hc => ?_) (fun hc => ?_)
  · have hc : z < (m : Int) := by have h : z < ofN m := ltI_t.1 hc; rw [ofN_eq] at h; exact h
    obtain ⟨z1, hz1'⟩ : ∃ x, z + 1 = x := ⟨_, rfl⟩
    conv => cbv
    refine ⟨inR.mk hz0 hc, nLt.mk (by simp only [leafs]; omega), Br.mk (fun hd => ?_) (fun hd => ?_)⟩
    · have hd : v = gi l (toN z) := eqI_t.1 hd
      rw [gi_eq, toN_eq] at hd
      have hyes : b = true := by
        rw [hb, decide_eq_true_eq, hd]
        exact getD_nat hz0 (by omega)
      conv => cbv
      refine (LeOut.mk' [0, 1] (by decide) (by rfl) (fun h => h) ?_ (by cbv)).two
      conv => cbv
      rw [hyes]
      show true = leI 0 z
      rw [leI_eq]; simp [hz0]
    · have hd : v ≠ gi l (toN z) := eqI_f.1 hd
      rw [gi_eq, toN_eq] at hd
      conv => cbv
      refine ⟨z1, ⟨⟨by omega, by show z1 ≤ (m : Int); omega, fun j hj => ?_⟩, by show ((m : Int) - z1).toNat < ((m : Int) - z).toNat; omega⟩, _, (HImp.refl _).ext, LeSt.mk' [0, 1] (by decide) (by rfl) (by decide) ?_ (by cbv)⟩
      · by_cases hjz : j < z.toNat
        · exact hz2 j hjz
        · have : j = z.toNat := by omega
          rw [this]; exact Ne.symm hd
      · conv => cbv
        refine ⟨?_, trivial⟩
        show z1 = addI .i64 z 1
        rw [addI_eq, IntWalk.i64_in _ (by omega), hz1']
  · have hc : (m : Int) ≤ z := by have h : ofN m ≤ z := ltI_f.1 hc; rw [ofN_eq] at h; exact h
    have hno : b = false := by
      rw [hb, decide_eq_false_iff_not]
      intro hv
      obtain ⟨j, hj, e⟩ := List.getElem_of_mem hv
      refine hz2 j (by omega) ?_
      rw [List.getD_eq_getElem?_getD, List.getElem?_eq_getElem hj]; simpa using e
    conv => cbv
    refine (LeOut.mk' [0, 1] (by decide) (by rfl) (fun h => h) ?_ (by cbv)).two
    conv => cbv
    exact hno
theorem contains_spec2 (l : List Int) (m cap jc : Nat) (hm : l.length = m) (hm0 : m < 9223372036854775808) (v : Int) {b : Bool} (hb : b = decide (v ∈ l)) : Spec1 kit 38 [.slc 0 0 1 (.lit 0) (.ex m) (.ex cap), .i .u32 (.ex v)] [.cells 22 [.ints .u32 (.ex m) l, .junk 1 (.ex jc)]] true (.b (.ex b)) [.cells 22 [.ints .u32 (.ex m) l, .junk 1 (.ex jc)]] [] := by
  refine Spec1.mk2 rfl fun F => ?_
  refine into I53ok 6 ?_
  conv => cbv
  refine byInv I53ok 6 ⟨[], 0⟩ (fun z : Int => ⟨[(8, .i .i64 (.ex z)), (7, .i .i64 (.ex (ofN m))), (0, .slc 0 0 1 (.lit 0) (.ex m) (.ex cap)), (1, .i .u32 (.ex v))], [.cells 22 [.ints .u32 (.ex m) l, .junk 1 (.ex jc)], .abs F]⟩)
    (fun z => (m - z).toNat) (fun z => 0 ≤ z ∧ z ≤ m ∧ ∀ j, j < z.toNat → l.getD j 0 ≠ v) true 0 (by kernel_rfl) ⟨by omega, by omega, fun j hj => by simp at hj⟩ (LeSt.mk' [0, 1] (by decide) (by rfl) (by decide) (by cbv) (by cbv)) ?_
  rintro z ⟨hz0, hz1, hz2⟩
  conv => cbv
  refine Br.mk (fun hc => ?_) (fun hc => ?_)
  · have hc : z < (m : Int) := by have h : z < ofN m := ltI_t.1 hc; rw [ofN_eq] at h; exact h
    obtain ⟨z1, hz1'⟩ : ∃ x, z + 1 = x := ⟨_, rfl⟩
    conv => cbv
    refine ⟨inR.mk hz0 hc, nLt.mk (by simp only [leafs]; omega), Br.mk (fun hd => ?_) (fun hd => ?_)⟩
    · have hd : v = gi l (toN z) := eqI_t.1 hd
      rw [gi_eq, toN_eq] at hd
      have hyes : b = true := by
        rw [hb, decide_eq_true_eq, hd]
        exact getD_nat hz0 (by omega)
      conv => cbv
      refine (LeOut.mk' [0, 1] (by decide) (by rfl) (fun h => h) ?_ (by cbv)).two
      conv => cbv
      rw [hyes]
      show true = leI 0 z
      rw [leI_eq]; simp [hz0]
    · have hd : v ≠ gi l (toN z) := eqI_f.1 hd
      rw [gi_eq, toN_eq] at hd
      conv => cbv
      refine ⟨z1, ⟨⟨by omega, by show z1 ≤ (m : Int); omega, fun j hj => ?_⟩, by show ((m : Int) - z1).toNat < ((m : Int) - z).toNat; omega⟩, _, (HImp.refl _).ext, LeSt.mk' [0, 1] (by decide) (by rfl) (by decide) ?_ (by cbv)⟩
      · by_cases hjz : j < z.toNat
        · exact hz2 j hjz
        · have : j = z.toNat := by omega
          rw [this]; exact Ne.symm hd
      · conv => cbv
        refine ⟨?_, trivial⟩
        show z1 = addI .i64 z 1
        rw [addI_eq, IntWalk.i64_in _ (by omega), hz1']
  · have hc : (m : Int) ≤ z := by have h : ofN m ≤ z := ltI_f.1 hc; rw [ofN_eq] at h; exact h
    have hno : b = false := by
      rw [hb, decide_eq_false_iff_not]
      intro hv
      obtain ⟨j, hj, e⟩ := List.getElem_of_mem hv
      refine hz2 j (by omega) ?_
      rw [List.getD_eq_getElem?_getD, List.getElem?_eq_getElem hj]; simpa using e
    conv => cbv
    refine (LeOut.mk' [0, 1] (by decide) (by rfl) (fun h => h) ?_ (by cbv)).two
    conv => cbv
    exact hno
/-- Ranges: where they are seen, where they are, how many pages, what may be done. -/
structure Rgs where
  V : List Int
  PH : List Int
  G : List Int
  P : List Int
structure RgsOk (L : Rgs) (m : Nat) : Prop where
  v : ∀ j, 0 ≤ L.V.getD j 0 ∧ L.V.getD j 0 < 4294967296
  ph : ∀ j, 0 ≤ L.PH.getD j 0 ∧ L.PH.getD j 0 < 4294967296
  g : ∀ j, -9223372036854775808 ≤ L.G.getD j 0 ∧ L.G.getD j 0 < 9223372036854775808
  p : ∀ j, 0 ≤ L.P.getD j 0 ∧ L.P.getD j 0 < 256
  m : m < 4611686018427387904
noncomputable def rngF (V PH G P : List Int) (j : Nat) : List SV := [.i .u32 (.ex (gi V j)), .i .u32 (.ex (gi PH j)), .i .i64 (.ex (gi G j)), .i .u8 (.ex (gi P j))]
theorem rngF_le {V PH G P : List Int} (τ : Nat → Nat) (j : Nat) : leL (rngF V PH G P j) (renL τ (rngF V PH G P j)) := ⟨⟨rfl, rfl⟩, ⟨rfl, rfl⟩, ⟨rfl, rfl⟩, ⟨rfl, rfl⟩, trivial⟩
def badR (L : Rgs) (j : Nat) : Bool := !mayB (L.V.getD j 0) (L.PH.getD j 0) (L.G.getD j 0) (L.P.getD j 0)
noncomputable abbrev rngB (L : Rgs) (m : Nat) : Blk := .ro [.rows 4 (.ex m) (rngF L.V L.PH L.G L.P)]
noncomputable def I46 : FnT := [(30, fi Tryd.f30 ⟨[], 0⟩), (53, fi Tryd.f53 ⟨[], 0⟩), (31, fi Tryd.f31 ⟨[], 0⟩)]
theorem I46ok : FnsOk kit I46 := ⟨fo30 _, fo53 _, fo31 _, trivial⟩
theorem bad_spec (V PH G P : List Int) (m cap : Nat) (hL : RgsOk ⟨V, PH, G, P⟩ m) {b : Bool} (hb : b = (List.range m).any (badR ⟨V, PH, G, P⟩)) :
    Spec1 kit 30 [.slc 0 0 4 (.lit 0) (.ex m) (.ex cap), .fn (.func 31) [] []] [.ro [.rows 4 (.ex m) (rngF V PH G P)]] false (.b (.ex b)) [.ro [.rows 4 (.ex m) (rngF V PH G P)]] [] := by
  obtain ⟨h1, h2, h3, h4, h5⟩ := hL
  simp only at h1 h2 h3 h4
  refine Spec1.mk2 rfl fun F => ?_
  refine into I46ok 6 ?_
  conv => cbv
  refine byInv I46ok 6 ⟨[], 0⟩ (fun z : Int => ⟨[(8, .i .i64 (.ex z)), (7, .i .i64 (.ex (ofN m))), (0, .slc 0 0 4 (.lit 0) (.ex m) (.ex cap)), (1, .fn (.func 31) [] [])], [.ro [.rows 4 (.ex m) (rngF V PH G P)], .abs F]⟩)
    (fun z => (m - z).toNat) (fun z => 0 ≤ z ∧ z ≤ m ∧ ∀ j, j < z.toNat → badR ⟨V, PH, G, P⟩ j = false) false 0 (by kernel_rfl) ⟨by omega, by omega, fun j hj => by simp at hj⟩ (LeSt.mk' [0, 1] (by decide) (by rfl) (by decide) (by cbv) ?_) ?_
  · conv => cbv
    exact ⟨⟨fun j _ => rngF_le _ _, trivial⟩, trivial⟩
  rintro z ⟨hz0, hz1, hz2⟩
  obtain ⟨z1, hz1'⟩ : ∃ x, z + 1 = x := ⟨_, rfl⟩
  obtain ⟨k, hk⟩ : ∃ x : Nat, z.toNat = x := ⟨_, rfl⟩
  obtain ⟨vk, hvk⟩ : ∃ x, x = V.getD k 0 := ⟨_, rfl⟩
  obtain ⟨phk, hphk⟩ : ∃ x, x = PH.getD k 0 := ⟨_, rfl⟩
  obtain ⟨gk, hgk⟩ : ∃ x, x = G.getD k 0 := ⟨_, rfl⟩
  obtain ⟨pk, hpk⟩ : ∃ x, x = P.getD k 0 := ⟨_, rfl⟩
  obtain ⟨bm, hbm⟩ : ∃ x, x = mayB vk phk gk pk := ⟨_, rfl⟩
  conv => cbv
  refine Br.mk (fun hc => ?_) (fun hc => ?_)
  · have hc : z < (m : Int) := by have h : z < ofN m := ltI_t.1 hc; rw [ofN_eq] at h; exact h
    conv => cbv
    refine ⟨inR.mk hz0 hc, nLt.mk (by simp only [leafs]; omega), ?_⟩
    refine OkCall.by_spec (may_spec vk phk gk pk (hvk ▸ h1 k) (hphk ▸ h2 k) (hpk ▸ h4 k) hbm) [] (by decide) ?_ trivial ?_
    · conv => cbv
      refine ⟨⟨?_, ?_, ?_, ?_, trivial⟩, trivial⟩
      · show vk = gi V (toN z); rw [gi_eq, toN_eq, hk, hvk]
      · show phk = gi PH (toN z); rw [gi_eq, toN_eq, hk, hphk]
      · show gk = gi G (toN z); rw [gi_eq, toN_eq, hk, hgk]
      · show pk = gi P (toN z); rw [gi_eq, toN_eq, hk, hpk]
    conv => cbv
    refine Br.mk (fun hd => ?_) (fun hd => ?_)
    · have hd : notB bm = true := hd
      rw [notB_eq, Bool.not_eq_true'] at hd
      have hyes : b = true := by
        rw [hb, List.any_eq_true]
        exact ⟨k, List.mem_range.2 (by omega), by simp only [badR]; rw [← hvk, ← hphk, ← hgk, ← hpk, ← hbm, hd]; rfl⟩
      conv => cbv
      refine (LeOut.mk' [0, 1] (by decide) (by rfl) (by decide) ?_ ?_).two
      · conv => cbv
        rw [hyes]
        show true = leI 0 z
        rw [leI_eq]; simp [hz0]
      · conv => cbv
        exact ⟨⟨fun j _ => rngF_le _ _, trivial⟩, trivial⟩
    · have hd : notB bm = false := hd
      rw [notB_eq, Bool.not_eq_false'] at hd
      conv => cbv
      refine ⟨z1, ⟨⟨by omega, by show z1 ≤ (m : Int); omega, fun j hj => ?_⟩, by show ((m : Int) - z1).toNat < ((m : Int) - z).toNat; omega⟩, _, (HImp.refl _).ext, LeSt.mk' [0, 1] (by decide) (by rfl) (by decide) ?_ ?_⟩
      · by_cases hjz : j < z.toNat
        · exact hz2 j hjz
        · have : j = k := by omega
          subst this
          simp only [badR]; rw [← hvk, ← hphk, ← hgk, ← hpk, ← hbm, hd]; rfl
      · conv => cbv
        refine ⟨?_, trivial⟩
        show z1 = addI .i64 z 1
        rw [addI_eq, IntWalk.i64_in _ (by omega), hz1']
      · conv => cbv
        exact ⟨⟨fun j _ => rngF_le _ _, trivial⟩, trivial⟩
  · have hc : (m : Int) ≤ z := by have h : ofN m ≤ z := ltI_f.1 hc; rw [ofN_eq] at h; exact h
    have hno : b = false := by
      rw [hb, List.any_eq_false]
      intro x hx
      have := hz2 x (by have := List.mem_range.1 hx; omega)
      rw [this]; decide
    conv => cbv
    refine (LeOut.mk' [0, 1] (by decide) (by rfl) (by decide) ?_ ?_).two
    · conv => cbv
      exact hno
    · conv => cbv
      exact ⟨⟨fun j _ => rngF_le _ _, trivial⟩, trivial⟩
end Go.Proofs.YtafhmkedblpdlaaDoor
end
