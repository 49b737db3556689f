/- The abstract machine: regions that draw their order: the tail's stores and calls; the whole. -/
import Derived.Test.YtfmpoodienmieaaAm26
namespace Go.AM
variable {P : Program}
section
variable {rec : Rec} {kept : Kept} {ops : List Oper} {ce : List Ev} {te : List (Ev × List Oper)} {t0 : Tr Value} {lf : Loc} {tf : Tr Value} {σ0 σm σf : St}
/-- What a load that is open looks at is the same where the tail has come to. -/
theorem Reg.same_slot (R : Reg P rec kept ops ce te t0 lf tf σ0 σm σf) {c b : Ev} {x y z : List Ev} (hall : ce ++ te.map (·.1) = x ++ c :: (y ++ b :: z)) {s : Tmp}
    (hst : ∀ a ∈ ce ++ te.map (·.1), a.o.dst = some s → Pr ops c.i a.i) : slot s b.l b.t = slot s c.l c.t := by
  have hstr := R.str
  have hdis := R.dis
  have hord := R.order
  rw [hall] at hstr hdis hord
  obtain ⟨_, f2, f3⟩ := hstr.split.facts R.krel (List.pairwise_append.1 hdis).1
  have hall2 : x ++ c :: (y ++ b :: z) = (x ++ c :: y) ++ b :: z := by simp
  rw [hall2] at hstr hdis
  obtain ⟨_, g2, g3⟩ := hstr.split.facts R.krel (List.pairwise_append.1 hdis).1
  have hlater : ∀ a ∈ c :: y, a.o.dst ≠ some s := fun a ha hd => by
    have hm : a ∈ ce ++ te.map (·.1) := by
      rw [hall]
      rcases List.mem_cons.1 ha with h | h
      · simp [h]
      · simp [h]
    have hp := hst a hm hd
    have h2 := (List.pairwise_append.1 hord).2.1
    cases ha with
    | head =>
      have hc : c ∈ ce ++ te.map (·.1) := hm
      have := R.plan.lt c.i c.i (List.getElem?_eq_some_iff.1 (R.opr c hc)).1 hp
      omega
    | tail _ ha =>
      cases h2 with
      | cons h3 _ => exact (h3 a (List.mem_append_left _ ha)).1 hp
  by_cases h : ∃ a ∈ x, a.o.dst = some s
  · obtain ⟨a, ha, hd⟩ := h
    rw [f3 a ha s hd, g3 a (List.mem_append_left _ ha) s hd]
  · have hno : ∀ a ∈ x, a.o.dst ≠ some s := fun a ha hd => h ⟨a, ha, hd⟩
    rw [f2 s hno, g2 s fun a ha => ?_]
    rcases List.mem_append.1 ha with h1 | h1
    · exact hno a h1
    · exact hlater a h1
theorem J2.loud (hrec : RecOk P rec) (R : Reg P rec kept ops ce te t0 lf tf σ0 σm σf) {ops' : Array Oper} (ho : ops'.toList = ops) {e0 : Env} {w0 : World} {S S' : Nat → Prop} {e : Env} {τ : St} {done todo : List (Ev × List Oper)} {a : Act} {w : World}
    (J : J2 ops ce te t0 σ0 σf e0 w0 S e τ done todo a w) (hS : ClosedS ops S) {p0 : Ev × List Oper} (hb : p0 ∈ te) (hk : kd ops p0.1.i ≠ 0) (hbS : ¬ S p0.1.i) (hp : ∀ j, Pr ops p0.1.i j → S j) (hS' : ∀ i, S' i ↔ S i ∨ i = p0.1.i) (hfit : fitsDst p0.1.o.dst a.tmps.size)
    {r : Option Nat} {K : Act → World → Prop} {Q : Exit → Act → World → Prop}
    (hK : ∀ e' τ' done' todo' a' w', J2 ops ce te t0 σ0 σf e0 w0 S' e' τ' done' todo' a' w' → a'.tmps.size = a.tmps.size → a'.defers = a.defers → K a' w') : wpOpIn (FR r) 0 P ops' Q p0.1.i K a w := by
  have hbt : p0.1 ∈ te.map (·.1) := List.mem_map.2 ⟨p0, hb, rfl⟩
  have hmb : p0.1 ∈ ce ++ te.map (·.1) := List.mem_append_right _ hbt
  have htodo : p0 ∈ todo := by
    have h := hb
    rw [J.split] at h
    rcases List.mem_append.1 h with h | h
    · exact absurd (J.doneS p0 h hk) hbS
    · exact h
  obtain ⟨ks, rest, htd⟩ := List.append_of_mem htodo
  have hte : te = (done ++ ks) ++ p0 :: rest := by rw [J.split, htd]; simp
  have hks0 : ∀ d ∈ ks, kd ops d.1.i = 0 := fun d hd => by
    have hch := R.plan.chain
    rw [hte, List.map_append, List.map_cons, List.pairwise_append] at hch
    have := hch.2.2 d.1.i (List.mem_map.2 ⟨d, List.mem_append_right _ hd, rfl⟩) p0.1.i (List.mem_cons_self ..)
    rcases this with h | h | h
    · exact h
    · exact absurd h hk
    · by_cases h0 : kd ops d.1.i = 0
      · exact h0
      · exact absurd (hp _ h) (J.todoS d (by rw [htd]; exact List.mem_append_left _ hd) h0)
  have hksσ : ∀ d ∈ ks, d.1.σ' = d.1.σ := fun d hd => by
    have hm : d.1 ∈ ce ++ te.map (·.1) := List.mem_append_right _ (List.mem_map.2 ⟨d, by rw [hte]; simp [hd], rfl⟩)
    have h0 := hks0 d hd
    rw [kd_eq (R.opr _ hm)] at h0
    exact (did_at (τ := d.1.σ) (R.did _ hm) (by omega) (fun _ _ _ h => h)).1
  have hts := J.ts
  rw [htd] at hts
  obtain ⟨hτ, hts'⟩ := hts.skip hksσ
  obtain ⟨pre, post, hall⟩ := List.append_of_mem hmb
  have hrel : ∀ s, names ops p0.1.o s → VRel e (slot s p0.1.l p0.1.t) (a.tmps.getD s undef) := fun s hs => by
    rcases R.slot_at hall hS hbS hp hs with ⟨c, hc, hSc, hd, heq⟩ | ⟨hno, heq⟩
    · rw [heq]; exact (J.slots s).1 c (by rw [hall]; simp [hc]) hSc hd
    · rw [heq]; exact ((J.slots s).2 hno).mono J.grow.env
  obtain ⟨q, hqw, hstep⟩ := R.did p0.1 hmb
  have hstep' := hstep
  rw [hτ] at hstep
  refine run_op hrec ho (R.opr _ hmb) J.wr hrel hqw hstep fun e' v' w' hW' hG hv => ?_
  refine hK e' p0.1.σ' (done ++ ks ++ [p0]) rest _ w' ⟨by rw [hte]; simp, hts', fun p hpm hkp => ?_, fun p hpm hkp hSp => ?_, hW', J.grow.trans hG, ?_, fun c hcm hcS => ?_⟩ (put_tmps_size _ _ _) (put_defers _ _ _)
  · rcases List.mem_append.1 hpm with h | h
    · rcases List.mem_append.1 h with h | h
      · exact (hS' _).2 (.inl (J.doneS p h hkp))
      · exact absurd (hks0 p h) hkp
    · cases h with
      | head => exact (hS' _).2 (.inr rfl)
      | tail _ h => cases h
  · rcases (hS' _).1 hSp with h | h
    · exact J.todoS p (by rw [htd]; exact List.mem_append_right _ (List.mem_cons_of_mem _ hpm)) hkp h
    · have hsort := R.plan.sortT
      rw [hte, List.map_append, List.map_cons, List.pairwise_append] at hsort
      have h2 := hsort.2.1
      cases h2 with
      | cons h3 _ =>
        have := h3 p.1.i (List.mem_map.2 ⟨p, hpm, rfl⟩)
        omega
  · exact R.slot_put (J.slots.mono fun c _ _ v hv => hv.mono hG.env) hmb hS' hv hfit
  · have hcS0 : ¬ S c.i := fun h => hcS ((hS' _).2 (.inl h))
    obtain ⟨hk1, hpl⟩ := J.pend c hcm hcS0
    refine ⟨hk1, fun p B hpp hB => ?_⟩
    have hτB := hpl p B hpp hB
    have hmc : c ∈ ce ++ te.map (·.1) := List.mem_append_left _ hcm
    have hkc := kd_eq (R.opr c hmc)
    rcases R.plan.behind p0.1.i (List.mem_map.2 ⟨p0, hb, rfl⟩) with h0 | ⟨_, hbeh⟩
    · exact absurd h0 hk
    · rcases hbeh c.i (List.mem_map.2 ⟨c, hcm, rfl⟩) with h1 | h1 | ⟨h3, h4, h5⟩
      · rw [hkc] at h1; rw [place_none h1] at hpp; cases hpp
      · exact absurd (hp _ h1) hcS0
      · -- a load beside a store
        have hk3 : Op.kindA p0.1.o.op = 3 := by rw [← kd_eq (R.opr _ hmb)]; exact h3
        rcases hstep' with ⟨_, hs⟩ | ⟨_, _, hs⟩
        · rw [stepA_op (by omega)] at hs
          obtain ⟨g, hg, hoth⟩ := opA_store hk3 hs
          have hrace := R.race p0 hb
          have hri := R.raceI p0 hb
          have hcin : c.o ∈ p0.2 := by
            rw [hri, List.mem_filterMap]
            exact ⟨c.i, h5, R.opr c hmc⟩
          unfold raceOk at hrace
          rw [List.all_eq_true] at hrace
          have hr1 := hrace c.o hcin
          obtain ⟨x, y', hcsp⟩ := List.append_of_mem hcm
          obtain ⟨y2, z, htsp⟩ := List.append_of_mem hbt
          have hall2 : ce ++ te.map (·.1) = x ++ c :: ((y' ++ y2) ++ p0.1 :: z) := by rw [hcsp, htsp]; simp
          have hcong : placeOf (rho p0.1.l p0.1.t) c.o.op = placeOf (rho c.l c.t) c.o.op := placeOf_congr fun u hu => by
            cases u with
            | tmp s =>
              show slot s p0.1.l p0.1.t = slot s c.l c.t
              refine R.same_slot hall2 fun d hd hds => ?_
              rcases R.plan.steady p0.1.i (List.mem_map.2 ⟨p0, hb, rfl⟩) c.i h5 d.i d.o c.o (R.opr d hd) (R.opr c hmc) with h6 | h6
              · exact h6
              · exact absurd hu (h6 s hds)
            | _ => rfl
          rw [hcong, hpp, hg] at hr1
          have hne : p ≠ g := by
            have hr2 : (!Nat.beq p g) = true := hr1
            intro h
            subst h
            simp at hr2
          rw [hoth p hne, hτ]
          exact hτB
        · rw [hs, hτ]; exact hτB
/-- All have been taken. -/
theorem J2.done (R : Reg P rec kept ops ce te t0 lf tf σ0 σm σf) {e0 : Env} {w0 : World} {S : Nat → Prop} {e : Env} {τ : St} {done todo : List (Ev × List Oper)} {a : Act} {w : World}
    (J : J2 ops ce te t0 σ0 σf e0 w0 S e τ done todo a w) (hall : ∀ b ∈ ce ++ te.map (·.1), S b.i) : WRel e σf w ∧ Grow e0 σ0 w0 e σf w ∧ ERel e [] tf a.tmps ∧ ∀ i v, tf.get i = some v → kept i = true := by
  have hτ : σf = τ := J.ts.skipAll fun d hd => by
    have hdt : d ∈ te := by rw [J.split]; exact List.mem_append_right _ hd
    have hm : d.1 ∈ ce ++ te.map (·.1) := List.mem_append_right _ (List.mem_map.2 ⟨d, hdt, rfl⟩)
    have h0 : kd ops d.1.i = 0 := by
      by_cases h : kd ops d.1.i = 0
      · exact h
      · exact absurd (hall d.1 hm) (J.todoS d hd h)
    rw [kd_eq (R.opr _ hm)] at h0
    exact (did_at (τ := d.1.σ) (R.did _ hm) (by omega) (fun _ _ _ h => h)).1
  subst hτ
  obtain ⟨f1, f2, f3⟩ := R.str.facts R.krel R.dis
  have hE : ERel e lf tf a.tmps := fun s => by
    by_cases h : ∃ b ∈ ce ++ te.map (·.1), b.o.dst = some s
    · obtain ⟨b, hb, hd⟩ := h
      rw [f3 b hb s hd]
      exact (J.slots s).1 b hb (hall b hb) hd
    · have hno : ∀ b ∈ ce ++ te.map (·.1), b.o.dst ≠ some s := fun b hb hd => h ⟨b, hb, hd⟩
      rw [f2 s hno]
      exact ((J.slots s).2 fun b hb _ => hno b hb).mono J.grow.env
  exact ⟨J.wr, J.grow, erel_end hE f1, f1.1⟩
end
end Go.AM
