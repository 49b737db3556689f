/- The abstract machine: regions that draw their order: the tail. -/
import Derived.Test.YtfmpoodienmieaaAm25
namespace Go.AM
variable {P : Program}
theorem place_none {op : Op} (h : Op.kindA op = 0) (ρ : Rho) : placeOf ρ op = none := by
  cases op <;> try rfl
  all_goals try (exfalso; revert h; simp only [Op.kindA]; omega)
  rename_i c
  obtain ⟨callee, args, ts⟩ := c
  cases callee <;> try rfl
  rename_i b
  cases b <;> try rfl
  all_goals (exfalso; revert h; simp only [Op.kindA]; omega)
theorem did_at {rec : Rec} {ops : List Oper} {b : Ev} (h : Did P rec ops b) (hk : Op.kindA b.o.op ≤ 1) {τ : St} (hp : ∀ p B, placeOf (rho b.l b.t) b.o.op = some p → b.σ.heap.get p = some B → τ.heap.get p = some B) :
    b.σ' = b.σ ∧ ∃ q, wantedA ops b.o b.l b.t = some q ∧ ((q = true ∧ stepA P rec b.o (rho b.l b.t) τ = some (b.v, τ)) ∨ (q = false ∧ b.v = undef ∧ τ = τ)) := by
  obtain ⟨q, hq, hc⟩ := h
  rcases hc with ⟨h1, h2⟩ | ⟨h1, h2, h3⟩
  · rw [stepA_op (by omega)] at h2
    obtain ⟨x1, x2⟩ := opA_place (τ := τ) hk h2 hp
    exact ⟨x1, q, hq, .inl ⟨h1, by rw [stepA_op (by omega)]; exact x2⟩⟩
  · exact ⟨h3, q, hq, .inr ⟨h1, h2, rfl⟩⟩
theorem TS.skip {ks rest : List (Ev × List Oper)} {p : Ev × List Oper} {τ σf : St} (h : TS τ (ks ++ p :: rest) σf) (hk : ∀ d ∈ ks, d.1.σ' = d.1.σ) : p.1.σ = τ ∧ TS p.1.σ' rest σf := by
  induction ks generalizing τ with
  | nil =>
    obtain ⟨b, rs⟩ := p
    cases h with
    | cons h => exact ⟨rfl, h⟩
  | cons d ks ih =>
    obtain ⟨c, rs⟩ := d
    cases h with
    | cons h =>
      have hc : c.σ' = c.σ := hk _ (List.mem_cons_self ..)
      rw [hc] at h
      exact ih h fun d hd => hk d (List.mem_cons_of_mem _ hd)
theorem TS.skipAll {ks : List (Ev × List Oper)} {τ σf : St} (h : TS τ ks σf) (hk : ∀ d ∈ ks, d.1.σ' = d.1.σ) : σf = τ := by
  induction ks generalizing τ with
  | nil => cases h; rfl
  | cons d ks ih =>
    obtain ⟨c, rs⟩ := d
    cases h with
    | cons h =>
      have hc : c.σ' = c.σ := hk _ (List.mem_cons_self ..)
      rw [hc] at h
      exact ih h fun d hd => hk d (List.mem_cons_of_mem _ hd)
section
variable {rec : Rec} {kept : Kept} {ops : List Oper} {ce : List Ev} {te : List (Ev × List Oper)} {t0 : Tr Value} {lf : Loc} {tf : Tr Value} {σ0 σm σf : St}
structure J2 (ops : List Oper) (ce : List Ev) (te : List (Ev × List Oper)) (t0 : Tr Value) (σ0 σf : St) (e0 : Env) (w0 : World) (S : Nat → Prop) (e : Env) (τ : St) (done todo : List (Ev × List Oper)) (a : Act) (w : World) : Prop where
  split : te = done ++ todo
  ts : TS τ todo σf
  doneS : ∀ p ∈ done, kd ops p.1.i ≠ 0 → S p.1.i
  todoS : ∀ p ∈ todo, kd ops p.1.i ≠ 0 → ¬ S p.1.i
  wr : WRel e τ w
  grow : Grow e0 σ0 w0 e τ w
  slots : SlotInv (ce ++ te.map (·.1)) S e0 t0 (fun b v => VRel e b.v v) a.tmps
  pend : ∀ b ∈ ce, ¬ S b.i → kd ops b.i ≤ 1 ∧ ∀ p B, placeOf (rho b.l b.t) b.o.op = some p → b.σ.heap.get p = some B → τ.heap.get p = some B
theorem J1.two (R : Reg P rec kept ops ce te t0 lf tf σ0 σm σf) {e0 : Env} {w0 : World} (hW0 : WRel e0 σ0 w0) {S : Nat → Prop} {e : Env} {a : Act} {w : World} (J : J1 ops ce te t0 σ0 σm e0 w0 S e a w)
    (hp : ∀ b ∈ ce, ¬ S b.i → kd ops b.i ≤ 1) : J2 ops ce te t0 σ0 σf e0 w0 S e σm [] te a w where
  split := rfl
  ts := R.ts
  doneS p hp := by cases hp
  todoS := J.loud
  wr := J.top
  grow := by
    refine ⟨J.env, J.old, R.memT.1, R.wall, J.size, J.os, J.tape, J.output, fun b hb _ => J.same b hb, ?_, fun i L hi => ?_, fun i _ hi => R.memT.2 i hi, fun i hi _ => R.memT.2 i hi, R.low⟩
    · rintro b hb ⟨i, L, B, hwall, hi, hB, hr, rfl⟩
      rcases J.fresh i L hi with h | h
      · have := (hW0.dom i L h).1
        exact ⟨i, L, B, by rw [← R.wall]; exact hwall, h, by rw [← R.memT.2 i this]; exact hB, hr, rfl⟩
      · omega
    · rcases J.fresh i L hi with h | h
      · exact .inl h
      · exact .inr (.inl h)
  slots := J.slots.mono fun _ _ _ _ h => h.1
  pend b hb hS := ⟨hp b hb hS, fun p B hpl hB => by
    have h1 := (J.mem b hb).bnd p B hB
    obtain ⟨_, m2, m3, _⟩ := R.mem b hb
    rw [(m2.trans m3).2 p h1]; exact hB⟩
theorem J2.quiet (hrec : RecOk P rec) (R : Reg P rec kept ops ce te t0 lf tf σ0 σm σf) {ops' : Array Oper} (ho : ops'.toList = ops) {e0 : Env} {w0 : World} {S S' : Nat → Prop} {e : Env} {τ : St} {done todo : List (Ev × List Oper)} {a : Act} {w : World}
    (J : J2 ops ce te t0 σ0 σf e0 w0 S e τ done todo a w) (hS : ClosedS ops S) {b : Ev} (hb : b ∈ ce ++ te.map (·.1)) (hbS : ¬ S b.i) (hp : ∀ j, Pr ops b.i j → S j) (hS' : ∀ i, S' i ↔ S i ∨ i = b.i) (hfit : fitsDst b.o.dst a.tmps.size)
    (hq : b ∈ ce ∨ kd ops b.i = 0) {r : Option Nat} {K : Act → World → Prop} {Q : Exit → Act → World → Prop}
    (hK : ∀ e' a' w', J2 ops ce te t0 σ0 σf e0 w0 S' e' τ done todo a' w' → a'.tmps.size = a.tmps.size → a'.defers = a.defers → K a' w') : wpOpIn (FR r) 0 P ops' Q b.i K a w := by
  obtain ⟨pre, post, hall⟩ := List.append_of_mem hb
  have hkd := kd_eq (R.opr b hb)
  have hk1 : Op.kindA b.o.op ≤ 1 ∧ ∀ p B, placeOf (rho b.l b.t) b.o.op = some p → b.σ.heap.get p = some B → τ.heap.get p = some B := by
    by_cases h0 : kd ops b.i = 0
    · rw [hkd] at h0
      exact ⟨by omega, fun p B h => by rw [place_none h0] at h; cases h⟩
    · rcases hq with h | h
      · obtain ⟨x1, x2⟩ := J.pend b h hbS
        exact ⟨by rw [← hkd]; exact x1, x2⟩
      · exact absurd h h0
  obtain ⟨hsame, q, hqw, hstep⟩ := did_at (R.did b hb) hk1.1 hk1.2
  have hrel : ∀ s, names ops b.o s → VRel e (slot s b.l b.t) (a.tmps.getD s undef) := fun s hs => by
    rcases R.slot_at hall hS hbS hp hs with ⟨c, hc, hSc, hd, heq⟩ | ⟨hno, heq⟩
    · rw [heq]; exact (J.slots s).1 c (by rw [hall]; simp [hc]) hSc hd
    · rw [heq]; exact ((J.slots s).2 hno).mono J.grow.env
  refine run_op hrec ho (R.opr b hb) J.wr hrel hqw hstep fun e' v' w' hW' hG hv => ?_
  refine hK e' _ w' ⟨J.split, J.ts, fun p hpm hk => (hS' _).2 (.inl (J.doneS p hpm hk)), fun p hpm hk hSp => ?_, hW', J.grow.trans hG, ?_, fun c hcm hcS => J.pend c hcm fun h => hcS ((hS' _).2 (.inl h))⟩ (put_tmps_size _ _ _) (put_defers _ _ _)
  · rcases (hS' _).1 hSp with h | h
    · exact J.todoS p hpm hk h
    · have hpt : p.1.i ∈ te.map (·.1.i) := List.mem_map.2 ⟨p, by rw [J.split]; exact List.mem_append_right _ hpm, rfl⟩
      rcases hq with h1 | h1
      · exact R.plan.one _ (List.mem_map.2 ⟨b, h1, rfl⟩) (h ▸ hpt)
      · exact hk (by rw [h]; exact h1)
  · exact R.slot_put (J.slots.mono fun c _ _ v hv => hv.mono hG.env) hb hS' hv hfit
end
end Go.AM
