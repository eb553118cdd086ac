/-
  core.Step.
-/
import Derived.Test.YtkljgpepogkgdaaDoorS4
set_option linter.unusedVariables false
set_option linter.unusedSimpArgs false
namespace Go.Proofs.YtkljgpepogkgdaaDoor
open Go Go.Vex
set_option maxRecDepth 20000
set_option maxHeartbeats 4000000
theorem tail_flt {s : RegS} {bd : BoardS} {F : Option (Nat × Nat) → Own → World → Prop} {w : Int} (cyc f : Int) (hs : RegOk s) (hf : f ≠ 0) (c' : Int) (hc' : c' = i64 (cyc + 1)) : TailOk s bd F w cyc (.ex f) (resFault c' f s.pc) s bd := by
  obtain ⟨r, pc, vec, back, on, hdl⟩ := s
  refine kcode I11ok 6 ⟨[], 0⟩ tail11_chk ?_
  conv => cbv
  refine Br.yes (by simp only [leafs]; simpa using hf) ?_
  conv => cbv
  refine (LeOut.mk' [0, 1, 2, 3] (by decide) rfl id ?_ ?_).two
  · conv => cbv
    exact ⟨by rw [hc']; show _ = addI .i64 cyc 1; rw [addI_eq]; rfl, (pcback hs.pc).symm, trivial⟩
  · conv => cbv
    exact ⟨⟨(pcback hs.pc).symm, trivial⟩, trivial⟩
theorem tail_bd {s : RegS} {bd : BoardS} {F : Option (Nat × Nat) → Own → World → Prop} {w : Int} (cyc : Int) (hs : RegOk s) (hb : DecBad w) (c' : Int) (hc' : c' = i64 (cyc + 1)) : TailOk s bd F w cyc (.lit 0) (resFault c' 6 s.pc) s bd := by
  obtain ⟨r, pc, vec, back, on, hdl⟩ := s
  obtain ⟨e, _, he, hsp⟩ := hb
  rcases he with rfl | rfl | rfl
  all_goals
    refine kcode I11ok 6 ⟨[], 0⟩ tail11_chk ?_
    conv => cbv
    refine OkCall.by_spec hsp [2] (by decide) (by cbv) (by cbv) ?_
    conv => cbv
    refine (LeOut.mk' [0, 1, 2, 3] (by decide) rfl id ?_ ?_).two
    · conv => cbv
      exact ⟨by rw [hc']; show _ = addI .i64 cyc 1; rw [addI_eq]; rfl, (pcback hs.pc).symm, trivial⟩
    · conv => cbv
      exact ⟨⟨(pcback hs.pc).symm, trivial⟩, trivial⟩
/-- What a step comes to once a word is fetched. -/
def tailF (s : RegS) (bd : BoardS) : Out :=
  let w := pick1 bd.words bd.nw
  let cyc := pick1 bd.cycles bd.nc
  let f := pick1 bd.faults bd.nf
  let bd' := fetchS bd s.pc
  if f ≠ 0 then ⟨resFault (i64 (cyc + 1)) f s.pc, s, bd'⟩
  else match decF w with
    | none => ⟨resFault (i64 (cyc + 1)) 6 s.pc, s, bd'⟩
    | some i => execF i.op i.d i.a i.b i.imm s bd' cyc
def zero0 (s : RegS) : RegS := { s with r := s.r.set 0 0 }
def takes (s : RegS) : Bool := s.on && !s.hd
def stepF (s : RegS) (bd : BoardS) : Out :=
  if takes s = true then
    if (irqR bd).2 = true then ⟨⟨6, 4, 0, 0, 0, (irqR bd).1, false, 0, false, 0⟩, { zero0 s with back := s.pc, pc := s.vec, hd := true, r := (s.r.set 0 0).set 14 (w32 (irqR bd).1) }, irqS bd⟩
    else tailF (zero0 s) (irqS bd)
  else tailF (zero0 s) bd
structure BdOkW (s : BoardS) : Prop where
  bnd : BBnd s
  log : s.lk.length < 999990
  time : 0 ≤ s.time ∧ s.time < 18446744073709551616
  values : ∀ z ∈ s.values, U32 z
  words : ∀ z ∈ s.words, U32 z
  cnt : s.nw < 999990 ∧ s.nv < 999990 ∧ s.nc < 999990 ∧ s.nf < 999990
theorem pickw_ok {bd : BoardS} (h : ∀ z ∈ bd.words, U32 z) : U32 (pick1 bd.words bd.nw) := by
  unfold pick1
  rw [List.getD_eq_getElem?_getD]
  cases e : bd.words[(nextV bd.nw bd.words.length).toNat]? with
  | none => simp [U32]
  | some z => simpa using h z (List.mem_of_getElem? e)
theorem fetch_ok {bd : BoardS} (h : BdOkW bd) (pc : Int) : BdOk (fetchS bd pc) := by
  obtain ⟨⟨a1, a2, a3, a4, a5, a6, a7, a8⟩, b1, b2, b3, b4, b5⟩ := h
  simp only [fetchS, costS, logS]
  split
  · exact ⟨⟨a1, a2, a3, a4, a5, a6, by simp only; omega, by simp only; omega⟩, by simp; omega, b2, b3⟩
  · exact ⟨⟨a1, a2, a3, a4, by simp only; omega, a6, by simp only; omega, by simp only; omega⟩, by simp; omega, b2, b3⟩
theorem irq_okW {bd : BoardS} (h : BdOkW bd) : BBnd (irqS bd) ∧ (irqS bd).lk.length < 1000000 ∧ BdOk (fetchS (irqS bd) 0) ∧ (∀ z ∈ (irqS bd).words, U32 z) := by
  obtain ⟨⟨a1, a2, a3, a4, a5, a6, a7, a8⟩, b1, b2, b3, b4, b5⟩ := h
  refine ⟨?_, ?_, ?_, ?_⟩
  · simp only [irqS, logS]; split <;> exact ⟨a1, a2, a3, a4, a5, a6, a7, a8⟩
  · simp only [irqS, logS]; split <;> simp <;> omega
  · simp only [irqS, fetchS, costS, logS]
    split
    all_goals
      split
      · exact ⟨⟨a1, a2, a3, a4, a5, a6, by simp only; omega, by simp only; omega⟩, by simp; omega, b2, b3⟩
      · exact ⟨⟨a1, a2, a3, a4, by simp only; omega, a6, by simp only; omega, by simp only; omega⟩, by simp; omega, b2, b3⟩
  · simp only [irqS, logS]; split <;> exact b4
theorem fetch_ok_pc {bd : BoardS} (pc : Int) (h : BdOk (fetchS bd 0)) : BdOk (fetchS bd pc) := by
  by_cases hw : bd.words.length = 0
  · simp only [fetchS, costS, logS, if_pos hw] at h ⊢
    exact ⟨⟨h.bnd.w, h.bnd.v, h.bnd.c, h.bnd.f, h.bnd.nw, h.bnd.nv, h.bnd.nc, h.bnd.nf⟩, h.log, h.time, h.values⟩
  · simp only [fetchS, costS, logS, if_neg hw] at h ⊢
    exact ⟨⟨h.bnd.w, h.bnd.v, h.bnd.c, h.bnd.f, h.bnd.nw, h.bnd.nv, h.bnd.nc, h.bnd.nf⟩, h.log, h.time, h.values⟩
noncomputable def I11s : FnT := [(11, fi Tryd.f11 ⟨[1000010], 0⟩)]
theorem I11sok : FnsOk kit I11s := ⟨fo11 _, trivial⟩
theorem zero0_ok {s : RegS} (h : RegOk s) : RegOk (zero0 s) := by
  refine ⟨by simp [zero0, h.len], fun z hz => ?_, h.pc, h.vec, h.back⟩
  simp only [zero0] at hz
  rcases List.mem_or_eq_of_mem_set hz with hz | hz
  · exact h.all z hz
  · subst hz; exact ⟨by decide, by decide⟩
theorem tail_main (s : RegS) (b1 : BoardS) (hs : RegOk s) (hb : BdOk (fetchS b1 s.pc)) (hw : ∀ z ∈ b1.words, U32 z) (F : Option (Nat × Nat) → Own → World → Prop) (o : Out) (ho : tailF s b1 = o) :
    TailOk s (fetchS b1 s.pc) F (pick1 b1.words b1.nw) (pick1 b1.cycles b1.nc) (.ex (pick1 b1.faults b1.nf)) o.res o.regs o.bd := by
  have hW := pickw_ok hw
  unfold tailF at ho
  simp only at ho
  by_cases hf : pick1 b1.faults b1.nf ≠ 0
  · rw [if_pos hf] at ho
    subst ho
    exact tail_flt _ _ hs hf _ rfl
  · rw [if_neg hf] at ho
    have hf0 : pick1 b1.faults b1.nf = 0 := by simpa using hf
    have weak : ∀ {o : Out}, TailOk s (fetchS b1 s.pc) F (pick1 b1.words b1.nw) (pick1 b1.cycles b1.nc) (.lit 0) o.res o.regs o.bd →
        TailOk s (fetchS b1 s.pc) F (pick1 b1.words b1.nw) (pick1 b1.cycles b1.nc) (.ex (pick1 b1.faults b1.nf)) o.res o.regs o.bd := by
      intro o h
      rw [hf0]
      generalize pick1 b1.words b1.nw = w at *
      generalize pick1 b1.cycles b1.nc = cyc at *
      generalize fetchS b1 s.pc = b2 at *
      obtain ⟨r, pc, vec, back, on, hdl⟩ := s
      exact Ok.weak (LeSt.mk' [0, 1, 2, 3, 4] (by decide) rfl id (by cbv) (by cbv)) h
    cases hd : decF (pick1 b1.words b1.nw) with
    | none =>
      rw [hd] at ho; subst ho
      exact weak (o := ⟨_, _, _⟩) (tail_bd _ hs (dec_bad hW.1 hW.2 hd) _ rfl)
    | some i =>
      rw [hd] at ho; subst ho
      exact weak (tail_all _ hs hb hW.1 hW.2 i hd)
theorem step_spec (s : RegS) (bd : BoardS) (hs : RegOk s) (hbd : BdOkW bd) (o : Out) (ho : stepF s bd = o) : Spec1 kit 11 [.p 0 (.at 0), .ifc 33 (.p 1 (.at 0))] [.cells 25 (regL s), boardB bd, .glob 0 layoutsL] false (.agg (resL o.res)) [.cells 25 (regL o.regs), boardB o.bd, .glob 0 layoutsL] [] := by
  refine Spec1.mk2 rfl fun F => ?_
  obtain ⟨r, pc, vec, back, on, hdl⟩ := s
  obtain ⟨⟨kind', cyc', num', flt', addr', line', loaded', value', read', clk'⟩, ⟨r', pc', vec', back', on', hdl'⟩, bd'⟩ := o
  refine into I11sok 6 ?_
  conv => cbv
  refine Br.mk (fun hon => ?_) (fun hon => ?_)
  · replace hon : on = true := hon
    subst hon
    conv => cbv
    refine Br.mk (fun hhd => ?_) (fun hhd => ?_)
    · replace hhd : notB hdl = true := hhd
      rw [notB_eq, Bool.not_eq_true'] at hhd
      subst hhd
      have htk : takes ⟨r, pc, vec, back, true, false⟩ = true := rfl
      rw [stepF, if_pos htk] at ho
      have hsi := irq_spec bd hbd.bnd (by have := hbd.log; omega)
      generalize hn : (irqR bd).1 = n at hsi ho
      generalize hq : (irqR bd).2 = q at hsi ho
      obtain ⟨g1, g2, g3, g4⟩ := irq_okW hbd
      generalize irqS bd = b1 at *
      conv => cbv
      refine OkCall.by_spec hsi [1] (by decide) (by cbv) (by cbv) ?_
      conv => cbv
      refine Br.mk (fun hok => ?_) (fun hok => ?_)
      · replace hok : q = true := hok
        rw [if_pos hok] at ho
        simp only [zero0, Out.mk.injEq, ResS.mk.injEq, RegS.mk.injEq] at ho
        obtain ⟨⟨rfl, rfl, rfl, rfl, rfl, rfl, rfl, rfl, rfl, rfl⟩, ⟨hr', rfl, rfl, rfl, rfl, rfl⟩, rfl⟩ := ho
        conv => cbv
        refine (LeOut.mk' [0, 1, 2, 3] (by decide) rfl (by decide) (by cbv) ?_).two
        conv => cbv
        exact ⟨⟨by show r' = setI (setI r 0 0) 14 (convI .u32 n); rw [setI_eq, setI_eq, conv_imm, hr'], trivial⟩, trivial⟩
      · replace hok : q = false := hok
        rw [if_neg (by rw [hok]; decide)] at ho
        conv => cbv
        have hsp := fetch_spec b1 pc g1 g2
        have htl := tail_main (zero0 ⟨r, pc, vec, back, true, false⟩) b1 (zero0_ok hs) (fetch_ok_pc pc g3) g4 F ⟨⟨kind', cyc', num', flt', addr', line', loaded', value', read', clk'⟩, ⟨r', pc', vec', back', on', hdl'⟩, bd'⟩ ho
        simp only [zero0] at htl
        generalize hw0 : pick1 (b1).words (b1).nw = w0 at hsp htl
        generalize hw1 : pick1 (b1).cycles (b1).nc = c0 at hsp htl
        generalize hw2 : pick1 (b1).faults (b1).nf = f0 at hsp htl
        generalize hw3 : fetchS (b1) pc = b2 at hsp htl
        refine OkCall.by_spec hsp [1] (by decide) (by cbv) (by cbv) ?_
        conv => cbv
        generalize hr0 : r.set 0 0 = r0 at htl
        refine Ok.conseq (Ok.weak (LeSt.mk' [0, 1, 2, 3, 4] (by decide) rfl (by decide) (by cbv) ?_) (show Ok kit _ 4 _ false _ _ from htl)) (fun q e s h => h)
        conv => cbv
        exact ⟨⟨by show r0 = setI r 0 0; rw [setI_eq, hr0], trivial⟩, trivial⟩
    · replace hhd : notB hdl = false := hhd
      rw [notB_eq, Bool.not_eq_false'] at hhd
      subst hhd
      have htk : takes ⟨r, pc, vec, back, true, true⟩ ≠ true := by simp [takes]
      rw [stepF, if_neg htk] at ho
      conv => cbv
      have hsp := fetch_spec bd pc hbd.bnd (by have := hbd.log; omega)
      have htl := tail_main (zero0 ⟨r, pc, vec, back, true, true⟩) bd (zero0_ok hs) (fetch_ok hbd pc) hbd.words F ⟨⟨kind', cyc', num', flt', addr', line', loaded', value', read', clk'⟩, ⟨r', pc', vec', back', on', hdl'⟩, bd'⟩ ho
      simp only [zero0] at htl
      generalize hw0 : pick1 (bd).words (bd).nw = w0 at hsp htl
      generalize hw1 : pick1 (bd).cycles (bd).nc = c0 at hsp htl
      generalize hw2 : pick1 (bd).faults (bd).nf = f0 at hsp htl
      generalize hw3 : fetchS (bd) pc = b2 at hsp htl
      refine OkCall.by_spec hsp [1] (by decide) (by cbv) (by cbv) ?_
      conv => cbv
      generalize hr0 : r.set 0 0 = r0 at htl
      refine Ok.conseq (Ok.weak (LeSt.mk' [0, 1, 2, 3, 4] (by decide) rfl (by decide) (by cbv) ?_) (show Ok kit _ 4 _ false _ _ from htl)) (fun q e s h => h)
      conv => cbv
      exact ⟨⟨by show r0 = setI r 0 0; rw [setI_eq, hr0], trivial⟩, trivial⟩
  · replace hon : on = false := hon
    subst hon
    have htk : takes ⟨r, pc, vec, back, false, hdl⟩ ≠ true := by unfold takes; simp
    rw [stepF, if_neg htk] at ho
    conv => cbv
    have hsp := fetch_spec bd pc hbd.bnd (by have := hbd.log; omega)
    have htl := tail_main (zero0 ⟨r, pc, vec, back, false, hdl⟩) bd (zero0_ok hs) (fetch_ok hbd pc) hbd.words F ⟨⟨kind', cyc', num', flt', addr', line', loaded', value', read', clk'⟩, ⟨r', pc', vec', back', on', hdl'⟩, bd'⟩ ho
    simp only [zero0] at htl
    generalize hw0 : pick1 (bd).words (bd).nw = w0 at hsp htl
    generalize hw1 : pick1 (bd).cycles (bd).nc = c0 at hsp htl
    generalize hw2 : pick1 (bd).faults (bd).nf = f0 at hsp htl
    generalize hw3 : fetchS (bd) pc = b2 at hsp htl
    refine OkCall.by_spec hsp [1] (by decide) (by cbv) (by cbv) ?_
    conv => cbv
    generalize hr0 : r.set 0 0 = r0 at htl
    refine Ok.conseq (Ok.weak (LeSt.mk' [0, 1, 2, 3, 4] (by decide) rfl (by decide) (by cbv) ?_) (show Ok kit _ 4 _ false _ _ from htl)) (fun q e s h => h)
    conv => cbv
    exact ⟨⟨by show r0 = setI r 0 0; rw [setI_eq, hr0], trivial⟩, trivial⟩
end Go.Proofs.YtkljgpepogkgdaaDoor
