/- The abstract machine without fuel: what it comes to with enough of it; it is its own step. -/
import Derived.Test.YtfmpoodienmieaaAm31
namespace Go.AM
variable {P : Program}
/-- From some number on. -/
def Ev' {α : Type} (F : Nat → Option α) (r : α) : Prop := ∃ n, ∀ m, n ≤ m → F m = some r
theorem Ev'.const {α : Type} {x : Option α} {r : α} (h : x = some r) : Ev' (fun _ => x) r := ⟨0, fun _ _ => h⟩
theorem Ev'.ob {α β : Type} {F : Nat → Option α} {G : Nat → α → Option β} {a : α} {r : β} (h : Ev' F a) (k : Ev' (fun m => G m a) r) : Ev' (fun m => AM.ob (F m) (G m)) r := by
  obtain ⟨n1, h1⟩ := h
  obtain ⟨n2, h2⟩ := k
  refine ⟨max n1 n2, fun m hm => ?_⟩
  rw [ob_eq]
  exact ⟨a, h1 m (by omega), h2 m (by omega)⟩
theorem Ev'.om {α β : Type} {F : Nat → Option α} {f : α → β} {a : α} (h : Ev' F a) : Ev' (fun m => AM.om (F m) f) (f a) := by
  obtain ⟨n1, h1⟩ := h
  exact ⟨n1, fun m hm => by show AM.om (F m) f = _; rw [h1 m hm]; rfl⟩
theorem Ev'.bc {α : Type} {b : Bool} {F : Nat → Option α} {r : α} (hb : b = true) (h : Ev' F r) : Ev' (fun m => AM.bc b (F m) none) r := by
  obtain ⟨n1, h1⟩ := h
  exact ⟨n1, fun m hm => by show AM.bc b (F m) none = _; rw [hb]; exact h1 m hm⟩
variable {R : Nat → Rec} {rec : Rec}
def Lim (R : Nat → Rec) (rec : Rec) : Prop := ∀ q r, rec q = some r → Ev' (fun m => R m q) r
theorem stepA_lim (hr : Lim R rec) {o : Oper} {ρ : Rho} {σ : St} {r : Value × St} (h : stepA P rec o ρ σ = some r) : Ev' (fun m => stepA P (R m) o ρ σ) r := by
  unfold stepA at h ⊢
  cases hc : calleeOf o.op with
  | none => rw [hc] at h; exact .const h
  | some c =>
    rw [hc] at h
    replace h : callA rec ρ σ c = some r := h
    show Ev' (fun m => callA (R m) ρ σ c) r
    unfold callA at h ⊢
    rw [ob_eq] at h; obtain ⟨f, hf, h⟩ := h
    rw [ob_eq] at h; obtain ⟨q, hq, h⟩ := h
    rw [ob_eq] at h; obtain ⟨s, hs, h⟩ := h
    exact .ob (.const hf) (.ob (.const hq) (.ob (hr _ _ hs) (.const h)))
def KLim (K : Nat → Cont) (k : Cont) : Prop := ∀ l t σ r, k l t σ = some r → Ev' (fun m => K m l t σ) r
theorem oneK_lim (hr : Lim R rec) {kept : Kept} {ops : List Oper} {o : Oper} {k : Cont} {K : Nat → Cont} (hk : KLim K k) : KLim (fun m => oneK P (R m) kept ops o (K m)) (oneK P rec kept ops o k) := by
  intro l t σ r h
  unfold oneK at h ⊢
  rw [ob_eq] at h; obtain ⟨q, hq, h⟩ := h
  refine .ob (.const hq) ?_
  cases q with
  | true =>
    replace h : ob (stepA P rec o (rho l t) σ) (fun r => putK kept o.dst r.1 l t r.2 k) = some r := h
    show Ev' (fun m => ob (stepA P (R m) o (rho l t) σ) (fun r => putK kept o.dst r.1 l t r.2 (K m))) r
    rw [ob_eq] at h; obtain ⟨p, hp, h⟩ := h
    refine .ob (stepA_lim hr hp) ?_
    rw [putK_eq] at h
    have := hk _ _ _ _ h
    simpa only [putK_eq] using this
  | false =>
    replace h : putK kept o.dst undef l t σ k = some r := h
    show Ev' (fun m => putK kept o.dst undef l t σ (K m)) r
    rw [putK_eq] at h
    have := hk _ _ _ _ h
    simpa only [putK_eq] using this
theorem opsK_lim (hr : Lim R rec) {kept : Kept} {ops : List Oper} {k : Cont} {K : Nat → Cont} (hk : KLim K k) : ∀ todo, KLim (fun m => opsK P (R m) kept ops (K m) todo) (opsK P rec kept ops k todo) := by
  intro todo
  induction todo with
  | nil => exact hk
  | cons o todo ih => exact oneK_lim hr ih
theorem calmK_lim (hr : Lim R rec) {kept : Kept} {ops : List Oper} {k : Cont} {K : Nat → Cont} (hk : KLim K k) : ∀ todo, KLim (fun m => calmK P (R m) kept ops (K m) todo) (calmK P rec kept ops k todo) := by
  intro todo
  induction todo with
  | nil => exact hk
  | cons p todo ih =>
    intro l t σ r h
    exact oneK_lim hr (k := walled σ.wall (calmK P rec kept ops k todo)) (K := fun m => walled σ.wall (calmK P (R m) kept ops (K m) todo)) (fun l t σ r h => ih _ _ _ _ h) l t { σ with wall := σ.next } r h
theorem tailK_lim (hr : Lim R rec) {kept : Kept} {ops : List Oper} {k : Cont} {K : Nat → Cont} (hk : KLim K k) : ∀ todo, KLim (fun m => tailK P (R m) kept ops (K m) todo) (tailK P rec kept ops k todo) := by
  intro todo
  induction todo with
  | nil => exact hk
  | cons p todo ih =>
    intro l t σ r h
    replace h : bc (raceOk (rho l t) p.o p.races) (oneK P rec kept ops p.o (tailK P rec kept ops k todo) l t σ) none = some r := h
    rw [bc_none] at h
    exact .bc h.1 (oneK_lim hr ih _ _ _ _ h.2)
theorem endK_lim : KLim (fun _ => endK) endK := fun _ _ _ _ h => .const h
theorem drawK_lim (hr : Lim R rec) {kept : Kept} {ops : List Oper} {t : Tr Value} {σ : St} {r : Tr Value × St} (h : drawK P rec kept ops t σ = some r) : Ev' (fun m => drawK P (R m) kept ops t σ) r := by
  unfold drawK at h ⊢
  rw [ob_eq] at h; obtain ⟨c, hc, h⟩ := h
  rw [ob_eq] at h; obtain ⟨q, hq, h⟩ := h
  exact .ob (.const hc) (.ob (.const hq) (calmK_lim hr (tailK_lim hr endK_lim q) c _ _ _ _ h))
theorem exec_lim (hr : Lim R rec) : ∀ (c : Code) (kept : Kept) (fr : Fr) (r : Exit × Fr), execA P rec c kept fr = some r → Ev' (fun m => execA P (R m) c kept fr) r := by
  intro c
  induction c with
  | region id ops draw =>
    intro kept fr r h
    replace h : om (bc draw (drawK P rec kept ops.toList fr.t fr.σ) (opsK P rec kept ops.toList endK ops.toList [] fr.t fr.σ)) (fun r => (Exit.normal, { fr with t := r.1, σ := r.2 })) = some r := h
    rw [om_eq] at h; obtain ⟨x, hx, rfl⟩ := h
    cases draw with
    | true => exact .om (F := fun m => drawK P (R m) kept ops.toList fr.t fr.σ) (drawK_lim hr hx)
    | false => exact .om (F := fun m => opsK P (R m) kept ops.toList endK ops.toList [] fr.t fr.σ) (opsK_lim hr endK_lim _ _ _ _ _ hx)
  | seq a b iha ihb =>
    intro kept fr r h
    replace h : ob (execA P rec a kept fr) (fun r => exThen (execA P rec b) kept r.1 r.2) = some r := h
    rw [ob_eq] at h; obtain ⟨⟨x, f⟩, hx, h⟩ := h
    refine Ev'.ob (F := fun m => execA P (R m) a kept fr) (G := fun m r => exThen (execA P (R m) b) kept r.1 r.2) (iha _ _ _ hx) ?_
    cases x with
    | normal => exact ihb _ _ _ h
    | _ => exact .const h
  | cond c a b iha ihb =>
    intro kept fr r h
    replace h : ob (vBool (rho [] fr.t c)) (fun q => bc q (execA P rec a kept fr) (execA P rec b kept fr)) = some r := h
    rw [ob_eq] at h; obtain ⟨q, hq, h⟩ := h
    refine Ev'.ob (F := fun _ => vBool (rho [] fr.t c)) (G := fun m q => bc q (execA P (R m) a kept fr) (execA P (R m) b kept fr)) (.const hq) ?_
    cases q with
    | true => exact iha _ _ _ h
    | false => exact ihb _ _ _ h
  | block id c ih =>
    intro kept fr r h
    replace h : ob (execA P rec c kept fr) (fun r => exBlock id r.1 r.2) = some r := h
    rw [ob_eq] at h; obtain ⟨x, hx, h⟩ := h
    exact Ev'.ob (F := fun m => execA P (R m) c kept fr) (G := fun _ r => exBlock id r.1 r.2) (ih _ _ _ hx) (.const h)
  | loop c ih =>
    intro kept fr r h
    replace h : ob (rec (.loop c kept fr)) rEx = some r := h
    rw [ob_eq] at h; obtain ⟨x, hx, h⟩ := h
    exact Ev'.ob (F := fun m => R m (.loop c kept fr)) (G := fun _ => rEx) (hr _ _ hx) (.const h)
  | rangeFunc f ps a b iha ihb =>
    intro kept fr r h
    replace h : exRange rec f ps a b (execA P rec a) (execA P rec b) kept fr = some r := h
    show Ev' (fun m => exRange (R m) f ps a b (execA P (R m) a) (execA P (R m) b) kept fr) r
    unfold exRange at h ⊢
    rw [ob_eq] at h; obtain ⟨g, hg, h⟩ := h
    rw [ob_eq] at h; obtain ⟨l, hl, h⟩ := h
    rw [ob_eq] at h; obtain ⟨q, hq, h⟩ := h
    rw [ob_eq] at h; obtain ⟨x, hx, h⟩ := h
    exact .ob (.const hg) (.ob (.const hl) (.ob (.const hq) (.ob (hr _ _ hx) (.const h))))
  | _ => intro kept fr r h; exact .const h
theorem call_lim (hr : Lim R rec) {Γ : Tab} {k : FuncId} {args : List Value} {σ : St} {r : Res} (h : doCall P Γ rec k args σ = some r) : Ev' (fun m => doCall P Γ (R m) k args σ) r := by
  unfold doCall at h ⊢
  cases hg : Γ k args σ with
  | some g => rw [hg] at h; exact .const h
  | none =>
    rw [hg] at h
    replace h : ob (fnOf P k) (fun fn => callBody P rec k args σ fn) = some r := h
    show Ev' (fun m => ob (fnOf P k) (fun fn => callBody P (R m) k args σ fn)) r
    rw [ob_eq] at h; obtain ⟨fn, hfn, h⟩ := h
    refine .ob (.const hfn) ?_
    unfold callBody at h ⊢
    rw [ob_eq] at h; obtain ⟨c, hc, h⟩ := h
    rw [bc_none] at h
    have h2 := h.2
    rw [ob_eq] at h2; obtain ⟨x, hx, h2⟩ := h2
    exact .ob (.const hc) (.bc h.1 (.ob (exec_lim hr _ _ _ _ hx) (.const h2)))
theorem yield_lim (hr : Lim R rec) {l : Nat} {args : List Value} {σ : St} {r : Res} (h : doYield P rec l args σ = some r) : Ev' (fun m => doYield P (R m) l args σ) r := by
  unfold doYield at h ⊢
  rw [ob_eq] at h; obtain ⟨B, hB, h⟩ := h
  refine .ob (.const hB) ?_
  cases B <;> try (cases h; done)
  rename_i st pend kept fn t params assign body d
  replace h : roundA P rec l args σ kept fn t params assign body = some r := h
  show Ev' (fun m => roundA P (R m) l args σ kept fn t params assign body) r
  unfold roundA at h ⊢
  rw [bc_none] at h
  refine .bc h.1 ?_
  have h := h.2
  rw [ob_eq] at h; obtain ⟨x, hx, h⟩ := h
  refine .ob (exec_lim hr _ _ _ _ hx) ?_
  unfold bodyRoundA at h ⊢
  rw [bc_none] at h
  refine .bc h.1 ?_
  have h := h.2
  rw [ob_eq] at h; obtain ⟨b, hb, h⟩ := h
  rw [ob_eq] at h; obtain ⟨lb, hlb, h⟩ := h
  rw [bc_none] at h
  have h3 := h.2
  rw [ob_eq] at h3; obtain ⟨σ2, hs, h3⟩ := h3
  rw [ob_eq] at h3; obtain ⟨y, hy, h3⟩ := h3
  exact .ob (.const hb) (.ob (.const hlb) (.bc h.1 (.ob (.const hs) (.ob (exec_lim hr _ _ _ _ hy) (.const h3)))))
theorem loop_lim (hr : Lim R rec) {c : Code} {kept : Kept} {fr : Fr} {r : Res} (h : doLoop P rec c kept fr = some r) : Ev' (fun m => doLoop P (R m) c kept fr) r := by
  unfold doLoop at h ⊢
  rw [ob_eq] at h; obtain ⟨⟨x, f⟩, hx, h⟩ := h
  refine .ob (exec_lim hr _ _ _ _ hx) ?_
  cases x with
  | normal => exact hr _ _ h
  | _ => exact .const h
theorem step_lim (hr : Lim R rec) (Γ : Tab) : Lim (fun m => stepF P Γ (R m)) (stepF P Γ rec) := by
  intro q r h
  cases q with
  | call k args σ => exact call_lim hr h
  | yield l args σ => exact yield_lim hr h
  | loop c kept fr => exact loop_lim hr h

open Classical in
/-- The machine. -/
noncomputable def run (P : Program) (Γ : Tab) : Rec := fun q => if h : ∃ r, Runs P Γ q r then some h.choose else none
theorem run_iff {Γ : Tab} {q : Req} {r : Res} : run P Γ q = some r ↔ Runs P Γ q r := by
  unfold run
  constructor
  · intro h
    split at h
    · rename_i hx; have := hx.choose_spec; cases h; exact this
    · cases h
  · intro h
    have hx : ∃ r, Runs P Γ q r := ⟨r, h⟩
    rw [dif_pos hx]
    obtain ⟨n, hn⟩ := hx.choose_spec
    obtain ⟨m, hm⟩ := h
    have h1 := run_mono (P := P) (Γ := Γ) (Nat.le_max_left n m) _ _ hn
    have h2 := run_mono (P := P) (Γ := Γ) (Nat.le_max_right n m) _ _ hm
    rw [h1] at h2
    exact h2
theorem run_lim (P : Program) (Γ : Tab) : Lim (runF P Γ) (run P Γ) := by
  intro q r h
  obtain ⟨n, hn⟩ := run_iff.1 h
  exact ⟨n, fun m hm => run_mono hm _ _ hn⟩
theorem run_le (P : Program) (Γ : Tab) (n : Nat) : RLe (runF P Γ n) (run P Γ) := fun _ _ h => run_iff.2 ⟨n, h⟩
/-- The machine is its own step. -/
theorem run_step (P : Program) (Γ : Tab) (q : Req) : run P Γ q = stepF P Γ (run P Γ) q := by
  have h1 : ∀ r, run P Γ q = some r ↔ stepF P Γ (run P Γ) q = some r := fun r => by
    constructor
    · intro h
      obtain ⟨n, hn⟩ := run_iff.1 h
      cases n with
      | zero => cases hn
      | succ n => exact step_mono (run_le P Γ n) Γ q r hn
    · intro h
      obtain ⟨n, hn⟩ := step_lim (run_lim P Γ) Γ q r h
      exact run_iff.2 ⟨n + 1, hn n (Nat.le_refl _)⟩
  cases h : run P Γ q with
  | some r => exact ((h1 r).1 h).symm
  | none =>
    cases h2 : stepF P Γ (run P Γ) q with
    | none => rfl
    | some r => rw [(h1 r).2 h2] at h; cases h
theorem run_rec {Γ : Tab} (hΓ : TabOk P Γ) (hm : P.follows .mixedOrders = true) : RecOk P (run P Γ) where
  call k args σ r h := by obtain ⟨n, hn⟩ := run_iff.1 h; exact (run_sound hΓ hm n).call k args σ r hn
  yield l args σ r h := by obtain ⟨n, hn⟩ := run_iff.1 h; exact (run_sound hΓ hm n).yield l args σ r hn
  loop c kept fr r h := by obtain ⟨n, hn⟩ := run_iff.1 h; exact (run_sound hΓ hm n).loop c kept fr r hn
end Go.AM
