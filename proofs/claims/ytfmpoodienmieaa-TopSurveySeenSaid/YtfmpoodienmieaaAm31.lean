/- The abstract machine: more fuel tells the same. -/
import Derived.Test.YtfmpoodienmieaaAm30
namespace Go.AM
variable {P : Program} {rec rec' : Rec}
def RLe (rec rec' : Rec) : Prop := ∀ q r, rec q = some r → rec' q = some r
def CLe (k k' : Cont) : Prop := ∀ l t σ r, k l t σ = some r → k' l t σ = some r
theorem stepA_mono (hr : RLe rec rec') {o : Oper} {ρ : Rho} {σ : St} {r : Value × St} (h : stepA P rec o ρ σ = some r) : stepA P rec' o ρ σ = some r := by
  unfold stepA at h ⊢
  cases hc : calleeOf o.op with
  | none => rw [hc] at h; exact h
  | some c =>
    rw [hc] at h
    replace h : callA rec ρ σ c = some r := h
    show callA rec' ρ σ c = some r
    unfold callA at h ⊢
    rw [ob_eq] at h ⊢; obtain ⟨f, hf, h⟩ := h; refine ⟨f, hf, ?_⟩
    rw [ob_eq] at h ⊢; obtain ⟨q, hq, h⟩ := h; refine ⟨q, hq, ?_⟩
    rw [ob_eq] at h ⊢; obtain ⟨s, hs, h⟩ := h
    exact ⟨s, hr _ _ hs, h⟩
theorem oneK_mono (hr : RLe rec rec') {kept : Kept} {ops : List Oper} {o : Oper} {k k' : Cont} (hk : CLe k k') : CLe (oneK P rec kept ops o k) (oneK P rec' kept ops o k') := by
  intro l t σ r h
  unfold oneK at h ⊢
  rw [ob_eq] at h ⊢; obtain ⟨q, hq, h⟩ := h; refine ⟨q, hq, ?_⟩
  rw [bc_eq] at h ⊢
  split
  · rename_i hq1
    rw [if_pos hq1] at h
    rw [ob_eq] at h ⊢; obtain ⟨p, hp, h⟩ := h
    refine ⟨p, stepA_mono hr hp, ?_⟩
    rw [putK_eq] at h ⊢
    exact hk _ _ _ _ h
  · rename_i hq1
    rw [if_neg hq1] at h
    rw [putK_eq] at h ⊢
    exact hk _ _ _ _ h
theorem opsK_mono (hr : RLe rec rec') {kept : Kept} {ops : List Oper} {k k' : Cont} (hk : CLe k k') : ∀ todo, CLe (opsK P rec kept ops k todo) (opsK P rec' kept ops k' todo) := by
  intro todo
  induction todo with
  | nil => exact hk
  | cons o todo ih => exact oneK_mono hr ih
theorem calmK_mono (hr : RLe rec rec') {kept : Kept} {ops : List Oper} {k k' : Cont} (hk : CLe k k') : ∀ todo, CLe (calmK P rec kept ops k todo) (calmK P rec' kept ops k' todo) := by
  intro todo
  induction todo with
  | nil => exact hk
  | cons p todo ih =>
    intro l t σ r h
    exact oneK_mono hr (k := walled σ.wall (calmK P rec kept ops k todo)) (k' := walled σ.wall (calmK P rec' kept ops k' todo)) (fun l t σ r h => ih _ _ _ _ h) l t { σ with wall := σ.next } r h
theorem tailK_mono (hr : RLe rec rec') {kept : Kept} {ops : List Oper} {k k' : Cont} (hk : CLe k k') : ∀ todo, CLe (tailK P rec kept ops k todo) (tailK P rec' kept ops k' todo) := by
  intro todo
  induction todo with
  | nil => exact hk
  | cons p todo ih =>
    intro l t σ r h
    replace h : bc (raceOk (rho l t) p.o p.races) (oneK P rec kept ops p.o (tailK P rec kept ops k todo) l t σ) none = some r := h
    show bc (raceOk (rho l t) p.o p.races) (oneK P rec' kept ops p.o (tailK P rec' kept ops k' todo) l t σ) none = some r
    rw [bc_none] at h ⊢
    exact ⟨h.1, oneK_mono hr ih _ _ _ _ h.2⟩
theorem drawK_mono (hr : RLe rec rec') {kept : Kept} {ops : List Oper} {t : Tr Value} {σ : St} {r : Tr Value × St} (h : drawK P rec kept ops t σ = some r) : drawK P rec' kept ops t σ = some r := by
  unfold drawK at h ⊢
  rw [ob_eq] at h ⊢; obtain ⟨c, hc, h⟩ := h; refine ⟨c, hc, ?_⟩
  rw [ob_eq] at h ⊢; obtain ⟨q, hq, h⟩ := h; refine ⟨q, hq, ?_⟩
  exact calmK_mono hr (tailK_mono hr (fun _ _ _ _ h => h) q) c _ _ _ _ h
theorem exec_mono (hr : RLe rec rec') : ∀ (c : Code) (kept : Kept) (fr : Fr) (r : Exit × Fr), execA P rec c kept fr = some r → execA P rec' c kept fr = some r := by
  intro c
  induction c with
  | region id ops draw =>
    intro kept fr r h
    replace h : om (bc draw (drawK P rec kept ops.toList fr.t fr.σ) (opsK P rec kept ops.toList endK ops.toList [] fr.t fr.σ)) (fun r => (Exit.normal, { fr with t := r.1, σ := r.2 })) = some r := h
    show om (bc draw (drawK P rec' kept ops.toList fr.t fr.σ) (opsK P rec' kept ops.toList endK ops.toList [] fr.t fr.σ)) (fun r => (Exit.normal, { fr with t := r.1, σ := r.2 })) = some r
    rw [om_eq] at h ⊢; obtain ⟨x, hx, h⟩ := h
    refine ⟨x, ?_, h⟩
    cases draw with
    | true => exact drawK_mono hr hx
    | false => exact opsK_mono hr (fun _ _ _ _ h => h) _ _ _ _ _ hx
  | seq a b iha ihb =>
    intro kept fr r h
    replace h : ob (execA P rec a kept fr) (fun r => exThen (execA P rec b) kept r.1 r.2) = some r := h
    show ob (execA P rec' a kept fr) (fun r => exThen (execA P rec' b) kept r.1 r.2) = some r
    rw [ob_eq] at h ⊢; obtain ⟨⟨x, f⟩, hx, h⟩ := h
    refine ⟨(x, f), iha _ _ _ hx, ?_⟩
    cases x with
    | normal => exact ihb _ _ _ h
    | _ => exact h
  | cond c a b iha ihb =>
    intro kept fr r h
    replace h : ob (vBool (rho [] fr.t c)) (fun q => bc q (execA P rec a kept fr) (execA P rec b kept fr)) = some r := h
    show ob (vBool (rho [] fr.t c)) (fun q => bc q (execA P rec' a kept fr) (execA P rec' b kept fr)) = some r
    rw [ob_eq] at h ⊢; obtain ⟨q, hq, h⟩ := h
    refine ⟨q, hq, ?_⟩
    cases q with
    | true => exact iha _ _ _ h
    | false => exact ihb _ _ _ h
  | block id c ih =>
    intro kept fr r h
    replace h : ob (execA P rec c kept fr) (fun r => exBlock id r.1 r.2) = some r := h
    show ob (execA P rec' c kept fr) (fun r => exBlock id r.1 r.2) = some r
    rw [ob_eq] at h ⊢; obtain ⟨x, hx, h⟩ := h
    exact ⟨x, ih _ _ _ hx, h⟩
  | loop c ih =>
    intro kept fr r h
    replace h : ob (rec (.loop c kept fr)) rEx = some r := h
    show ob (rec' (.loop c kept fr)) rEx = some r
    rw [ob_eq] at h ⊢; obtain ⟨x, hx, h⟩ := h
    exact ⟨x, hr _ _ hx, h⟩
  | rangeFunc f ps a b iha ihb =>
    intro kept fr r h
    replace h : exRange rec f ps a b (execA P rec a) (execA P rec b) kept fr = some r := h
    show exRange rec' f ps a b (execA P rec' a) (execA P rec' b) kept fr = some r
    unfold exRange at h ⊢
    rw [ob_eq] at h ⊢; obtain ⟨g, hg, h⟩ := h; refine ⟨g, hg, ?_⟩
    rw [ob_eq] at h ⊢; obtain ⟨l, hl, h⟩ := h; refine ⟨l, hl, ?_⟩
    rw [ob_eq] at h ⊢; obtain ⟨q, hq, h⟩ := h; refine ⟨q, hq, ?_⟩
    rw [ob_eq] at h ⊢; obtain ⟨x, hx, h⟩ := h
    exact ⟨x, hr _ _ hx, h⟩
  | _ => intro kept fr r h; exact h
theorem call_mono (hr : RLe rec rec') {Γ : Tab} {k : FuncId} {args : List Value} {σ : St} {r : Res} (h : doCall P Γ rec k args σ = some r) : doCall P Γ rec' k args σ = some r := by
  unfold doCall at h ⊢
  cases hg : Γ k args σ with
  | some g => rw [hg] at h; exact h
  | none =>
    rw [hg] at h
    replace h : ob (fnOf P k) (fun fn => callBody P rec k args σ fn) = some r := h
    show ob (fnOf P k) (fun fn => callBody P rec' k args σ fn) = some r
    rw [ob_eq] at h ⊢; obtain ⟨fn, hfn, h⟩ := h; refine ⟨fn, hfn, ?_⟩
    unfold callBody at h ⊢
    rw [ob_eq] at h ⊢; obtain ⟨c, hc, h⟩ := h; refine ⟨c, hc, ?_⟩
    rw [bc_none] at h ⊢; refine ⟨h.1, ?_⟩
    have h := h.2
    rw [ob_eq] at h ⊢; obtain ⟨x, hx, h⟩ := h
    exact ⟨x, exec_mono hr _ _ _ _ hx, h⟩
theorem yield_mono (hr : RLe rec rec') {l : Nat} {args : List Value} {σ : St} {r : Res} (h : doYield P rec l args σ = some r) : doYield P rec' l args σ = some r := by
  unfold doYield at h ⊢
  rw [ob_eq] at h ⊢; obtain ⟨B, hB, h⟩ := h; refine ⟨B, hB, ?_⟩
  cases B <;> try (cases h; done)
  rename_i st pend kept fn t params assign body d
  replace h : roundA P rec l args σ kept fn t params assign body = some r := h
  show roundA P rec' l args σ kept fn t params assign body = some r
  unfold roundA at h ⊢
  rw [bc_none] at h ⊢; refine ⟨h.1, ?_⟩
  have h := h.2
  rw [ob_eq] at h ⊢; obtain ⟨x, hx, h⟩ := h
  refine ⟨x, exec_mono hr _ _ _ _ hx, ?_⟩
  unfold bodyRoundA at h ⊢
  rw [bc_none] at h ⊢; refine ⟨h.1, ?_⟩
  have h := h.2
  rw [ob_eq] at h ⊢; obtain ⟨b, hb, h⟩ := h; refine ⟨b, hb, ?_⟩
  rw [ob_eq] at h ⊢; obtain ⟨lb, hlb, h⟩ := h; refine ⟨lb, hlb, ?_⟩
  rw [bc_none] at h ⊢; refine ⟨h.1, ?_⟩
  have h := h.2
  rw [ob_eq] at h ⊢; obtain ⟨σ2, hs, h⟩ := h; refine ⟨σ2, hs, ?_⟩
  rw [ob_eq] at h ⊢; obtain ⟨y, hy, h⟩ := h
  exact ⟨y, exec_mono hr _ _ _ _ hy, h⟩
theorem loop_mono (hr : RLe rec rec') {c : Code} {kept : Kept} {fr : Fr} {r : Res} (h : doLoop P rec c kept fr = some r) : doLoop P rec' c kept fr = some r := by
  unfold doLoop at h ⊢
  rw [ob_eq] at h ⊢; obtain ⟨⟨x, f⟩, hx, h⟩ := h
  refine ⟨(x, f), exec_mono hr _ _ _ _ hx, ?_⟩
  cases x with
  | normal => exact hr _ _ h
  | _ => exact h
theorem step_mono (hr : RLe rec rec') (Γ : Tab) : RLe (stepF P Γ rec) (stepF P Γ rec') := by
  intro q r h
  cases q with
  | call k args σ => exact call_mono hr h
  | yield l args σ => exact yield_mono hr h
  | loop c kept fr => exact loop_mono hr h
theorem run_succ (Γ : Tab) (n : Nat) : RLe (runF P Γ n) (runF P Γ (n + 1)) := by
  induction n with
  | zero => intro q r h; cases h
  | succ n ih => exact step_mono ih Γ
theorem run_mono {Γ : Tab} {n m : Nat} (h : n ≤ m) : RLe (runF P Γ n) (runF P Γ m) := by
  induction h with
  | refl => exact fun _ _ h => h
  | step _ ih => exact fun q r h => run_succ Γ _ _ _ (ih q r h)
/-- The machine comes to an end, with enough fuel. -/
def Runs (P : Program) (Γ : Tab) (q : Req) (r : Res) : Prop := ∃ n, runF P Γ n q = some r
end Go.AM
