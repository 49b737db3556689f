/- The abstract machine: regions that draw their order: slots. -/
import Derived.Test.YtfmpoodienmieaaAm23
namespace Go.AM
variable {P : Program}
theorem pairwise_cases {α : Type} {R : α → α → Prop} : ∀ {l : List α}, l.Pairwise R → ∀ {a b : α}, a ∈ l → b ∈ l → a = b ∨ R a b ∨ R b a := by
  intro l
  induction l with
  | nil => intro _ a b h; cases h
  | cons x l ih =>
    intro h a b ha hb
    cases h with
    | cons h1 h2 =>
      cases ha with
      | head => cases hb with
        | head => exact .inl rfl
        | tail _ hb => exact .inr (.inl (h1 _ hb))
      | tail _ ha => cases hb with
        | head => exact .inr (.inr (h1 _ ha))
        | tail _ hb => exact ih h2 ha hb
/-- The record of a region, with all that the plan says of it. -/
structure Reg (P : Program) (rec : Rec) (kept : Kept) (ops : List Oper) (ce : List Ev) (te : List (Ev × List Oper)) (t0 : Tr Value) (lf : Loc) (tf : Tr Value) (σ0 σm σf : St) : Prop where
  plan : PlanOk ops (ce.map (·.i)) (te.map (·.1.i))
  opr : ∀ b ∈ ce ++ te.map (·.1), ops[b.i]? = some b.o
  did : ∀ b ∈ ce ++ te.map (·.1), Did P rec ops b
  str : STr kept [] t0 (ce ++ te.map (·.1)) lf tf
  krel : KRel kept [] t0
  mem : ∀ b ∈ ce, Later σ0 b.σ ∧ Later b.σ b.σ' ∧ Later b.σ' σm ∧ b.σ.wall = b.σ.next
  memT : Later σ0 σm
  memP : ce.Pairwise fun a b => Later a.σ' b.σ
  wall : σm.wall = σ0.wall
  low : σm.low ≤ σ0.low
  ts : TS σm te σf
  race : ∀ p ∈ te, raceOk (rho p.1.l p.1.t) p.1.o p.2 = true
  raceI : ∀ p ∈ te, p.2 = (racesOf (kindsA ops) (predsA ops) p.1.i).filterMap (ops[·]?)
section
variable {rec : Rec} {kept : Kept} {ops : List Oper} {ce : List Ev} {te : List (Ev × List Oper)} {t0 : Tr Value} {lf : Loc} {tf : Tr Value} {σ0 σm σf : St}
theorem Reg.order (R : Reg P rec kept ops ce te t0 lf tf σ0 σm σf) : (ce ++ te.map (·.1)).Pairwise fun a b => ¬ Pr ops a.i b.i ∧ a.i ≠ b.i := by
  have hl : ∀ b ∈ ce ++ te.map (·.1), b.i < ops.length := fun b hb => (List.getElem?_eq_some_iff.1 (R.opr b hb)).1
  rw [List.pairwise_append]
  refine ⟨?_, ?_, fun a ha b hb => ?_⟩
  · have := R.plan.sortC
    rw [List.pairwise_map] at this
    refine List.Pairwise.imp_of_mem ?_ this
    intro a b ha hb hab
    refine ⟨fun hp => ?_, by omega⟩
    have := R.plan.lt a.i b.i (hl a (List.mem_append_left _ ha)) hp
    omega
  · have := R.plan.sortT
    have h2 : (te.map (·.1)).Pairwise fun a b => a.i < b.i := by rw [List.pairwise_map]; rw [List.pairwise_map] at this; exact this
    refine List.Pairwise.imp_of_mem ?_ h2
    intro a b ha hb hab
    refine ⟨fun hp => ?_, by omega⟩
    have := R.plan.lt a.i b.i (hl a (List.mem_append_right _ ha)) hp
    omega
  · have hac : a.i ∈ ce.map (·.i) := List.mem_map.2 ⟨a, ha, rfl⟩
    have hbt : b.i ∈ te.map (·.1.i) := by
      obtain ⟨p, hp, rfl⟩ := List.mem_map.1 hb
      exact List.mem_map.2 ⟨p, hp, rfl⟩
    exact ⟨fun hp => R.plan.one _ (R.plan.closed _ hac _ hp) hbt, fun h => R.plan.one _ hac (h ▸ hbt)⟩
theorem Reg.dis (R : Reg P rec kept ops ce te t0 lf tf σ0 σm σf) : Dis (ce ++ te.map (·.1)) := by
  refine List.Pairwise.imp_of_mem ?_ R.order
  intro a b ha hb hab s hs
  exact R.plan.distinct a.i b.i a.o b.o s (R.opr a ha) (R.opr b hb) hab.2 hs
theorem Reg.dst_one (R : Reg P rec kept ops ce te t0 lf tf σ0 σm σf) {a b : Ev} (ha : a ∈ ce ++ te.map (·.1)) (hb : b ∈ ce ++ te.map (·.1)) {s : Tmp} (h1 : a.o.dst = some s) (h2 : b.o.dst = some s) : a = b := by
  rcases pairwise_cases R.dis ha hb with h | h | h
  · exact h
  · exact absurd h2 (h s h1)
  · exact absurd h1 (h s h2)
theorem Reg.inj (R : Reg P rec kept ops ce te t0 lf tf σ0 σm σf) {a b : Ev} (ha : a ∈ ce ++ te.map (·.1)) (hb : b ∈ ce ++ te.map (·.1)) (h : a.i = b.i) : a = b := by
  rcases pairwise_cases R.order ha hb with h1 | h1 | h1
  · exact h1
  · exact absurd h h1.2
  · exact absurd h.symm h1.2
/-- The operations that have been taken: with each all that come before it. -/
def ClosedS (ops : List Oper) (S : Nat → Prop) : Prop := ∀ i, i < ops.length → S i → ∀ j, Pr ops i j → S j
/-- What an operation's slots held when the machine carried it out: what those that have been taken wrote, or what was there at first. -/
theorem Reg.slot_at (R : Reg P rec kept ops ce te t0 lf tf σ0 σm σf) {pre post : List Ev} {b : Ev} (hall : ce ++ te.map (·.1) = pre ++ b :: post) {S : Nat → Prop} (hS : ClosedS ops S) (hb : ¬ S b.i) (hp : ∀ j, Pr ops b.i j → S j) {s : Tmp} (hs : names ops b.o s) :
    (∃ a ∈ pre, S a.i ∧ a.o.dst = some s ∧ slot s b.l b.t = a.v) ∨ ((∀ a ∈ ce ++ te.map (·.1), S a.i → a.o.dst ≠ some s) ∧ slot s b.l b.t = slot s [] t0) := by
  have hord := R.order
  have hdis := R.dis
  have hstr := R.str
  rw [hall] at hord hdis hstr
  have hmb : b ∈ ce ++ te.map (·.1) := by rw [hall]; simp
  have hob := R.opr b hmb
  have hpre := hstr.split
  have hpd : Dis pre := (List.pairwise_append.1 hdis).1
  obtain ⟨_, f2, f3⟩ := hpre.facts R.krel hpd
  have hop : ∀ a ∈ pre, ¬ Pr ops a.i b.i ∧ a.i ≠ b.i := fun a ha => (List.pairwise_append.1 hord).2.2 a ha b (List.mem_cons_self ..)
  have hop2 : ∀ a ∈ post, ¬ Pr ops b.i a.i ∧ b.i ≠ a.i := fun a ha => by
    have h2 := (List.pairwise_append.1 hord).2.1
    cases h2 with
    | cons h3 _ => exact h3 a ha
  by_cases h : ∃ a ∈ pre, a.o.dst = some s
  · obtain ⟨a, ha, hd⟩ := h
    refine .inl ⟨a, ha, ?_, hd, f3 a ha s hd⟩
    have hma : a ∈ ce ++ te.map (·.1) := by rw [hall]; simp [ha]
    have hoa := R.opr a hma
    obtain ⟨h1, h2⟩ := hop a ha
    rcases Nat.lt_or_ge a.i b.i with hlt | hge
    · rcases R.plan.apart b.i a.i b.o a.o hob hoa hlt with h3 | ⟨h3, _⟩
      · exact hp _ h3
      · exact absurd hs (h3 s hd)
    · rcases R.plan.apart a.i b.i a.o b.o hoa hob (by omega) with h3 | ⟨_, h3⟩
      · exact absurd h3 h1
      · exact absurd hs (h3 s hd)
  · have hno : ∀ a ∈ pre, a.o.dst ≠ some s := fun a ha hd => h ⟨a, ha, hd⟩
    refine .inr ⟨fun a ha hSa hd => ?_, f2 s hno⟩
    have hoa := R.opr a ha
    have ha' := ha
    rw [hall] at ha'
    rcases List.mem_append.1 ha' with h1 | h1
    · exact hno a h1 hd
    · cases h1 with
      | head => exact hb hSa
      | tail _ h1 =>
        obtain ⟨h2, h3⟩ := hop2 a h1
        rcases Nat.lt_or_ge a.i b.i with hlt | hge
        · rcases R.plan.apart b.i a.i b.o a.o hob hoa hlt with h4 | ⟨h4, _⟩
          · exact h2 h4
          · exact h4 s hd hs
        · rcases R.plan.apart a.i b.i a.o b.o hoa hob (by omega) with h4 | ⟨_, h4⟩
          · exact hb (hS a.i (List.getElem?_eq_some_iff.1 hoa).1 hSa _ h4)
          · exact h4 s hd hs
/-- The slots, at any time: each holds what its one writer wrote, if that has been taken, and what was there at first otherwise. 'G': how what is written is related. -/
def SlotInv (all : List Ev) (S : Nat → Prop) (e0 : Env) (t0 : Tr Value) (G : Ev → Value → Prop) (tmps : Array Value) : Prop :=
  ∀ s, (∀ b ∈ all, S b.i → b.o.dst = some s → G b (tmps.getD s undef)) ∧ ((∀ b ∈ all, S b.i → b.o.dst ≠ some s) → VRel e0 (slot s [] t0) (tmps.getD s undef))
theorem SlotInv.mono {all : List Ev} {S : Nat → Prop} {e0 : Env} {G G' : Ev → Value → Prop} {tmps : Array Value} (h : SlotInv all S e0 t0 G tmps) (hg : ∀ b ∈ all, S b.i → ∀ v, G b v → G' b v) : SlotInv all S e0 t0 G' tmps :=
  fun s => ⟨fun b hb hS hd => hg b hb hS _ ((h s).1 b hb hS hd), (h s).2⟩
theorem Reg.slot_put (R : Reg P rec kept ops ce te t0 lf tf σ0 σm σf) {S S' : Nat → Prop} {e0 : Env} {G : Ev → Value → Prop} {a : Act} (h : SlotInv (ce ++ te.map (·.1)) S e0 t0 G a.tmps) {b : Ev} (hb : b ∈ ce ++ te.map (·.1)) (hS' : ∀ i, S' i ↔ S i ∨ i = b.i)
    {v' : Value} (hv : G b v') (hf : fitsDst b.o.dst a.tmps.size) : SlotInv (ce ++ te.map (·.1)) S' e0 t0 G (a.put b.o.dst v').tmps := by
  intro s
  rw [put_getD a b.o.dst v' hf]
  by_cases hd : b.o.dst = some s
  · rw [if_pos hd]
    refine ⟨fun c hc hSc hdc => ?_, fun hno => absurd hd (hno b hb ((hS' _).2 (.inr rfl)))⟩
    have := R.dst_one hc hb hdc hd
    subst this
    exact hv
  · rw [if_neg hd]
    refine ⟨fun c hc hSc hdc => ?_, fun hno => (h s).2 fun c hc hSc => hno c hc ((hS' _).2 (.inl hSc))⟩
    rcases (hS' _).1 hSc with h1 | h1
    · exact (h s).1 c hc h1 hdc
    · have := R.inj hc hb h1
      subst this
      exact absurd hdc hd
/-- One operation is taken: in a memory in which the machine's step is the same. -/
theorem run_op {rec : Rec} (hrec : RecOk P rec) {ops' : Array Oper} (ho : ops'.toList = ops) {b : Ev} (hob : ops[b.i]? = some b.o) {E : Env} {τ τ' : St} {a : Act} {w : World} (hW : WRel E τ w) (hrel : ∀ s, names ops b.o s → VRel E (slot s b.l b.t) (a.tmps.getD s undef))
    {q : Bool} (hq : wantedA ops b.o b.l b.t = some q) (hstep : (q = true ∧ stepA P rec b.o (rho b.l b.t) τ = some (b.v, τ')) ∨ (q = false ∧ b.v = undef ∧ τ' = τ)) {r : Option Nat} {K : Act → World → Prop} {Q : Exit → Act → World → Prop}
    (hK : ∀ e' v' w', WRel e' τ' w' → Grow E τ w e' τ' w' → VRel e' b.v v' → K (a.put b.o.dst v') w') : wpOpIn (FR r) 0 P ops' Q b.i K a w := by
  have hob' : ops'[b.i]? = some b.o := by rw [← ho] at hob; simpa using hob
  unfold wpOpIn
  simp only [hob']
  rw [wanted_eq ho (fun g hg d hd => hrel d (.inr (.inr ⟨_, by unfold guardOf; rw [hg]; rfl, hd⟩))) hq]
  rcases hstep with ⟨rfl, hs⟩ | ⟨rfl, hv, rfl⟩
  · simp only [if_true]
    rw [stepA_congr (cutRho_eq b.o _)] at hs
    exact step_sound hrec hW (cutRho_rel (oper_rel hrel)) hs hK
  · simp only [Bool.false_eq_true, if_false]
    refine ⟨fun _ _ => trivial, ?_⟩
    have := hK E undef w hW (.refl _ _ _) (by rw [hv]; exact .undef E)
    exact this
end
end Go.AM
