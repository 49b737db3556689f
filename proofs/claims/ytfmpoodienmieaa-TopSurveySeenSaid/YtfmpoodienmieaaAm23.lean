/- The abstract machine: the record of a region that draws its order, as the machine carries it out. -/
import Derived.Test.YtfmpoodienmieaaAm22
namespace Go.AM
variable {P : Program}
structure Ev where
  i : Nat
  o : Oper
  l : Loc
  t : Tr Value
  σ : St
  v : Value
  σ' : St
def Did (P : Program) (rec : Rec) (ops : List Oper) (b : Ev) : Prop :=
  ∃ q, wantedA ops b.o b.l b.t = some q ∧ ((q = true ∧ stepA P rec b.o (rho b.l b.t) b.σ = some (b.v, b.σ')) ∨ (q = false ∧ b.v = undef ∧ b.σ' = b.σ))
theorem oneK_did {rec : Rec} {kept : Kept} {ops : List Oper} {o : Oper} {k : Cont} {l : Loc} {t : Tr Value} {σ : St} {res : Tr Value × St} (i : Nat) (h : oneK P rec kept ops o k l t σ = some res) :
    ∃ b : Ev, b.i = i ∧ b.o = o ∧ b.l = l ∧ b.t = t ∧ b.σ = σ ∧ Did P rec ops b ∧ k (putLT kept o.dst b.v l t).1 (putLT kept o.dst b.v l t).2 b.σ' = some res := by
  unfold oneK at h
  rw [ob_eq] at h; obtain ⟨q, hq, h⟩ := h
  rw [bc_eq] at h
  split at h
  · rename_i hq1
    rw [ob_eq] at h; obtain ⟨p, hp, h⟩ := h
    rw [putK_eq] at h
    exact ⟨⟨i, o, l, t, σ, p.1, p.2⟩, rfl, rfl, rfl, rfl, rfl, ⟨q, hq, .inl ⟨hq1, hp⟩⟩, h⟩
  · rename_i hq1
    rw [putK_eq] at h
    exact ⟨⟨i, o, l, t, σ, undef, σ⟩, rfl, rfl, rfl, rfl, rfl, ⟨q, hq, .inr ⟨by simpa using hq1, rfl, rfl⟩⟩, h⟩
/-- How the slots turn. -/
inductive STr (kept : Kept) : Loc → Tr Value → List Ev → Loc → Tr Value → Prop where
  | nil (l : Loc) (t : Tr Value) : STr kept l t [] l t
  | cons {b : Ev} {evs : List Ev} {lf : Loc} {tf : Tr Value} (h : STr kept (putLT kept b.o.dst b.v b.l b.t).1 (putLT kept b.o.dst b.v b.l b.t).2 evs lf tf) : STr kept b.l b.t (b :: evs) lf tf
theorem STr.append {kept : Kept} {l l1 lf : Loc} {t t1 tf : Tr Value} {a b : List Ev} (h : STr kept l t a l1 t1) (k : STr kept l1 t1 b lf tf) : STr kept l t (a ++ b) lf tf := by
  induction h with
  | nil => exact k
  | cons _ ih => exact .cons (ih k)
theorem STr.split {kept : Kept} {lf : Loc} {tf : Tr Value} : ∀ {pre : List Ev} {l : Loc} {t : Tr Value} {b : Ev} {post : List Ev}, STr kept l t (pre ++ b :: post) lf tf → STr kept l t pre b.l b.t := by
  intro pre
  induction pre with
  | nil => intro l t b post h; cases h; exact .nil _ _
  | cons a pre ih => intro l t b post h; cases h with | cons h => exact .cons (ih h)
/-- No two write one slot. -/
def Dis (evs : List Ev) : Prop := evs.Pairwise fun a b => ∀ s, a.o.dst = some s → b.o.dst ≠ some s
theorem STr.facts {kept : Kept} {l lf : Loc} {t tf : Tr Value} {evs : List Ev} (h : STr kept l t evs lf tf) : KRel kept l t → Dis evs →
    KRel kept lf tf ∧ (∀ s, (∀ a ∈ evs, a.o.dst ≠ some s) → slot s lf tf = slot s l t) ∧ ∀ a ∈ evs, ∀ s, a.o.dst = some s → slot s lf tf = a.v := by
  induction h with
  | nil l t => intro hk _; exact ⟨hk, fun _ _ => rfl, fun a ha => by cases ha⟩
  | @cons b evs lf tf h ih =>
    intro hk hd
    cases hd with
    | cons h1 h2 =>
      obtain ⟨g1, g2, g3⟩ := ih (krel_put hk _ _) h2
      refine ⟨g1, fun s hs => ?_, fun a ha s hs => ?_⟩
      · rw [g2 s (fun a ha => hs a (List.mem_cons_of_mem _ ha)), slot_put hk, if_neg (hs b (List.mem_cons_self ..))]
      · cases ha with
        | head => rw [g2 s (fun a ha => h1 a ha s hs), slot_put hk, if_pos hs]
        | tail _ ha => exact g3 a ha s hs
/-- The first part. -/
inductive CT (P : Program) (rec : Rec) (kept : Kept) (ops : List Oper) : List (Nat × Oper) → Loc → Tr Value → St → List Ev → Loc → Tr Value → St → Prop where
  | nil (l : Loc) (t : Tr Value) (σ : St) : CT P rec kept ops [] l t σ [] l t σ
  | cons {b : Ev} {σ σf : St} {evs : List Ev} {todo : List (Nat × Oper)} {lf : Loc} {tf : Tr Value} (hd : Did P rec ops b) (hb : b.σ = { σ with wall := σ.next })
      (h : CT P rec kept ops todo (putLT kept b.o.dst b.v b.l b.t).1 (putLT kept b.o.dst b.v b.l b.t).2 { b.σ' with wall := σ.wall } evs lf tf σf) : CT P rec kept ops ((b.i, b.o) :: todo) b.l b.t σ (b :: evs) lf tf σf
theorem calmK_ct {rec : Rec} {kept : Kept} {ops : List Oper} {k : Cont} {res : Tr Value × St} : ∀ (todo : List (Nat × Oper)) (l : Loc) (t : Tr Value) (σ : St), calmK P rec kept ops k todo l t σ = some res →
    ∃ evs lf tf σf, CT P rec kept ops todo l t σ evs lf tf σf ∧ k lf tf σf = some res := by
  intro todo
  induction todo with
  | nil => intro l t σ h; exact ⟨[], l, t, σ, .nil l t σ, h⟩
  | cons p todo ih =>
    intro l t σ h
    obtain ⟨i, o⟩ := p
    replace h : oneK P rec kept ops o (walled σ.wall (calmK P rec kept ops k todo)) l t { σ with wall := σ.next } = some res := h
    obtain ⟨b, rfl, rfl, rfl, rfl, hσ, hd, h⟩ := oneK_did i h
    obtain ⟨evs, lf, tf, σf, hct, hk⟩ := ih _ _ _ h
    exact ⟨b :: evs, lf, tf, σf, .cons hd hσ hct, hk⟩
/-- The tail. -/
inductive TT (P : Program) (rec : Rec) (kept : Kept) (ops : List Oper) : List TailOp → Loc → Tr Value → St → List (Ev × List Oper) → Loc → Tr Value → St → Prop where
  | nil (l : Loc) (t : Tr Value) (σ : St) : TT P rec kept ops [] l t σ [] l t σ
  | cons {b : Ev} {rs : List Oper} {σf : St} {evs : List (Ev × List Oper)} {todo : List TailOp} {lf : Loc} {tf : Tr Value} (hd : Did P rec ops b) (hr : raceOk (rho b.l b.t) b.o rs = true)
      (h : TT P rec kept ops todo (putLT kept b.o.dst b.v b.l b.t).1 (putLT kept b.o.dst b.v b.l b.t).2 b.σ' evs lf tf σf) : TT P rec kept ops (⟨b.i, b.o, rs⟩ :: todo) b.l b.t b.σ ((b, rs) :: evs) lf tf σf
theorem tailK_tt {rec : Rec} {kept : Kept} {ops : List Oper} {k : Cont} {res : Tr Value × St} : ∀ (todo : List TailOp) (l : Loc) (t : Tr Value) (σ : St), tailK P rec kept ops k todo l t σ = some res →
    ∃ evs lf tf σf, TT P rec kept ops todo l t σ evs lf tf σf ∧ k lf tf σf = some res := by
  intro todo
  induction todo with
  | nil => intro l t σ h; exact ⟨[], l, t, σ, .nil l t σ, h⟩
  | cons p todo ih =>
    intro l t σ h
    obtain ⟨i, o, rs⟩ := p
    replace h : bc (raceOk (rho l t) o rs) (oneK P rec kept ops o (tailK P rec kept ops k todo) l t σ) none = some res := h
    rw [bc_none] at h
    obtain ⟨hr, h⟩ := h
    obtain ⟨b, rfl, rfl, rfl, rfl, rfl, hd, h⟩ := oneK_did i h
    obtain ⟨evs, lf, tf, σf, htt, hk⟩ := ih _ _ _ h
    exact ⟨(b, rs) :: evs, lf, tf, σf, .cons hd hr htt, hk⟩
theorem CT.st {rec : Rec} {kept : Kept} {ops : List Oper} {todo : List (Nat × Oper)} {l lf : Loc} {t tf : Tr Value} {σ σf : St} {evs : List Ev} (h : CT P rec kept ops todo l t σ evs lf tf σf) :
    STr kept l t evs lf tf ∧ (evs.map fun b => (b.i, b.o)) = todo ∧ ∀ b ∈ evs, Did P rec ops b := by
  induction h with
  | nil => exact ⟨.nil _ _, rfl, fun b hb => by cases hb⟩
  | cons hd hb h ih =>
    refine ⟨.cons ih.1, by simp [ih.2.1], fun b hb => ?_⟩
    cases hb with
    | head => exact hd
    | tail _ hb => exact ih.2.2 b hb
/-- The states of the tail, one behind the other. -/
inductive TS : St → List (Ev × List Oper) → St → Prop where
  | nil (σ : St) : TS σ [] σ
  | cons {b : Ev} {rs : List Oper} {evs : List (Ev × List Oper)} {σf : St} (h : TS b.σ' evs σf) : TS b.σ ((b, rs) :: evs) σf
theorem TT.st {rec : Rec} {kept : Kept} {ops : List Oper} {todo : List TailOp} {l lf : Loc} {t tf : Tr Value} {σ σf : St} {evs : List (Ev × List Oper)} (h : TT P rec kept ops todo l t σ evs lf tf σf) :
    STr kept l t (evs.map (·.1)) lf tf ∧ (evs.map fun b => (⟨b.1.i, b.1.o, b.2⟩ : TailOp)) = todo ∧ (∀ b ∈ evs, Did P rec ops b.1 ∧ raceOk (rho b.1.l b.1.t) b.1.o b.2 = true) ∧ TS σ evs σf := by
  induction h with
  | nil => exact ⟨.nil _ _, rfl, fun b hb => (by cases hb), .nil _⟩
  | cons hd hr h ih =>
    refine ⟨.cons ih.1, by simp [ih.2.1], fun b hb => ?_, .cons ih.2.2.2⟩
    cases hb with
    | head => exact ⟨hd, hr⟩
    | tail _ hb => exact ih.2.2.1 b hb
def Later (x y : St) : Prop := x.next ≤ y.next ∧ ∀ i, i < x.next → y.heap.get i = x.heap.get i
theorem Later.refl (x : St) : Later x x := ⟨Nat.le_refl _, fun _ _ => rfl⟩
theorem Later.trans {x y z : St} (h : Later x y) (k : Later y z) : Later x z := ⟨Nat.le_trans h.1 k.1, fun i hi => (k.2 i (Nat.lt_of_lt_of_le hi h.1)).trans (h.2 i hi)⟩
theorem CT.mem {rec : Rec} (hrec : RecOk P rec) {kept : Kept} {ops : List Oper} {todo : List (Nat × Oper)} {l lf : Loc} {t tf : Tr Value} {σ σf : St} {evs : List Ev} (h : CT P rec kept ops todo l t σ evs lf tf σf) :
    ∀ (e : Env) (a : Act) (w : World), SRel kept e l t σ a w → (∀ p ∈ todo, fitsDst p.2.dst a.tmps.size) →
    (∀ b ∈ evs, Later σ b.σ ∧ Later b.σ b.σ' ∧ Later b.σ' σf ∧ b.σ.wall = b.σ.next) ∧ Later σ σf ∧ (evs.Pairwise fun a b => Later a.σ' b.σ) ∧ σf.wall = σ.wall ∧ σf.low ≤ σ.low ∧ (∀ b ∈ evs, ∀ i B, b.σ.heap.get i = some B → i < b.σ.next) ∧ ∀ i B, σf.heap.get i = some B → i < σf.next := by
  induction h with
  | nil => intro e a w hS _; exact ⟨fun b hb => (by cases hb), .refl _, .nil, rfl, Nat.le_refl _, fun b hb => (by cases hb), hS.wr.bnd⟩
  | @cons b σ σf evs todo lf tf hd hb h ih =>
    intro e a w hS hf
    have hW : WRel e b.σ w := by rw [hb]; exact ⟨hS.wr.dom, hS.wr.blk, hS.wr.sep, hS.wr.bnd⟩
    have hfit := hf _ (List.mem_cons_self ..)
    -- the step itself
    have step : ∃ e' v' w', WRel e' b.σ' w' ∧ Grow e b.σ w e' b.σ' w' ∧ VRel e' b.v v' := by
      obtain ⟨q, hq, hc⟩ := hd
      rcases hc with ⟨_, hs⟩ | ⟨_, hv, hs⟩
      · exact step_exists hrec hW (rho_rel hS.tr) hs
      · rw [hs, hv]; exact ⟨e, undef, w, hW, .refl _ _ _, .undef e⟩
    obtain ⟨e', v', w', hW', hG, hv⟩ := step
    have hwall : b.σ.wall = b.σ.next := by rw [hb]
    have hL : Later b.σ b.σ' := ⟨hG.next, fun i hi => hG.keep i (by rw [hwall]; exact hi) hi⟩
    have hL0 : Later σ b.σ := by rw [hb]; exact .refl _
    obtain ⟨g1, g2, g3, g4, g5, g6, g7⟩ := ih e' (a.put b.o.dst v') w' ⟨⟨hW'.dom, hW'.blk, hW'.sep, hW'.bnd⟩, erel_put (hS.tr.mono hG.env) hS.kr hv hfit, krel_put hS.kr _ _⟩ (fun p hp => by rw [put_tmps_size]; exact hf p (List.mem_cons_of_mem _ hp))
    have hL1 : Later b.σ' { b.σ' with wall := σ.wall } := .refl _
    have hlow : b.σ'.low ≤ σ.low := by have := hG.lower; rw [hb] at this; exact this
    refine ⟨fun c hc => ?_, ((hL0.trans hL).trans hL1).trans g2, .cons (fun c hc => hL1.trans (g1 c hc).1) g3, g4, Nat.le_trans g5 hlow, fun c hc => ?_, g7⟩
    · cases hc with
      | head => exact ⟨hL0, hL, hL1.trans g2, hwall⟩
      | tail _ hc =>
        obtain ⟨x1, x2, x3, x4⟩ := g1 c hc
        exact ⟨((hL0.trans hL).trans hL1).trans x1, x2, x3, x4⟩
    cases hc with
    | head => exact hW.bnd
    | tail _ hc => exact g6 c hc
end Go.AM
