/- The abstract machine: a region that does not draw its order. -/
import Derived.Test.YtfmpoodienmieaaAm12
import Derived.TacticsIn
namespace Go.AM
variable {P : Program}
noncomputable def putLT (kept : Kept) (dst : Option Tmp) (v : Value) (l : Loc) (t : Tr Value) : Loc × Tr Value :=
  match dst with
  | none => (l, t)
  | some d => if kept d = true then (l, t.put d v) else ((d, v) :: l, t)
theorem putK_eq (kept : Kept) (dst : Option Tmp) (v : Value) (l : Loc) (t : Tr Value) (σ : St) (k : Cont) : putK kept dst v l t σ k = k (putLT kept dst v l t).1 (putLT kept dst v l t).2 σ := by
  cases dst with
  | none => rfl
  | some d =>
    show bc (kept d) (k l (t.put d v) σ) (k ((d, v) :: l) t σ) = _
    rw [bc_eq]
    by_cases h : kept d = true
    · simp only [putLT, if_pos h]
    · simp only [putLT, if_neg h]
theorem slot_eq (i : Nat) (l : Loc) (t : Tr Value) : slot i l t = match lget i l with
    | some v => v
    | none => match t.get i with
      | some v => v
      | none => poison := by
  show oe (lget i l) (oe (t.get i) poison id) id = _
  cases lget i l with
  | some v => rfl
  | none => cases t.get i <;> rfl
theorem slot_put {kept : Kept} {l : Loc} {t : Tr Value} (hk : KRel kept l t) (dst : Option Tmp) (v : Value) (i : Nat) :
    slot i (putLT kept dst v l t).1 (putLT kept dst v l t).2 = if dst = some i then v else slot i l t := by
  cases dst with
  | none => simp [putLT]
  | some d =>
    by_cases h : kept d = true
    · simp only [putLT, if_pos h]
      rw [slot_eq, slot_eq, get_put]
      by_cases hd : d = i
      · subst hd
        have hl : lget d l = none := by
          cases hl : lget d l with
          | none => rfl
          | some u => have := hk.2 _ _ hl; rw [h] at this; cases this
        simp [hl]
      · simp [hd]
    · simp only [putLT, if_neg h]
      rw [slot_eq, slot_eq, lget_cons]
      by_cases hd : d = i
      · subst hd; simp
      · simp [hd]
theorem krel_put {kept : Kept} {l : Loc} {t : Tr Value} (hk : KRel kept l t) (dst : Option Tmp) (v : Value) : KRel kept (putLT kept dst v l t).1 (putLT kept dst v l t).2 := by
  cases dst with
  | none => exact hk
  | some d =>
    by_cases h : kept d = true
    · simp only [putLT, if_pos h]
      refine ⟨fun i u hi => ?_, hk.2⟩
      rw [get_put] at hi
      split at hi
      · rename_i hd; subst hd; exact h
      · exact hk.1 i u hi
    · simp only [putLT, if_neg h]
      refine ⟨hk.1, fun i u hi => ?_⟩
      rw [lget_cons] at hi
      split at hi
      · rename_i hd; simp only at hd; subst hd; simpa using h
      · exact hk.2 i u hi
def fitsDst (dst : Option Tmp) (n : Nat) : Prop := ∀ d, dst = some d → d < n
theorem put_tmps_size (a : Act) (dst : Option Tmp) (v : Value) : (a.put dst v).tmps.size = a.tmps.size := by
  cases dst <;> simp [Act.put]
theorem put_defers (a : Act) (dst : Option Tmp) (v : Value) : (a.put dst v).defers = a.defers := by cases dst <;> rfl
theorem put_getD (a : Act) (dst : Option Tmp) (v : Value) (hf : fitsDst dst a.tmps.size) (i : Nat) : (a.put dst v).tmps.getD i undef = if dst = some i then v else a.tmps.getD i undef := by
  cases dst with
  | none => simp [Act.put]
  | some d =>
    have hd := hf d rfl
    simp only [Act.put, Array.getD_eq_getD_getElem?, Array.getElem?_setIfInBounds]
    by_cases h : d = i
    · subst h; simp [hd]
    · simp [h]
theorem erel_put {e : Env} {kept : Kept} {l : Loc} {t : Tr Value} {a : Act} (h : ERel e l t a.tmps) (hk : KRel kept l t) {dst : Option Tmp} {v v' : Value} (hv : VRel e v v') (hf : fitsDst dst a.tmps.size) :
    ERel e (putLT kept dst v l t).1 (putLT kept dst v l t).2 (a.put dst v').tmps := by
  intro i
  rw [slot_put hk, put_getD a dst v' hf]
  split
  · exact hv
  · exact h i
theorem wanted_eq {e : Env} {ops : List Oper} {ops' : Array Oper} (ho : ops'.toList = ops) {o : Oper} {l : Loc} {t : Tr Value} {a : Act} {q : Bool} (hd : ∀ g, o.guard = some g → ∀ d, ((ops[g.1]?).bind (·.dst)) = some d → VRel e (slot d l t) (a.tmps.getD d undef))
    (h : wantedA ops o l t = some q) : Region.wanted o (yielded ops' a.tmps) = q := by
  unfold wantedA guardOf at h
  unfold Region.wanted
  cases hg : o.guard with
  | none => rw [hg] at h; replace h : some true = some q := h; cases h; rfl
  | some g =>
    obtain ⟨j, want⟩ := g
    rw [hg] at h
    replace h : oe ((ops[j]?).bind (·.dst)) (some false) (fun d => oe (vBool (slot d l t)) (bc (isUndef (slot d l t)) (some false) none) fun b => some (bc b want (!want))) = some q := h
    have hops : ops'[j]? = ops[j]? := by rw [← ho]; simp
    simp only [yielded, hops]
    cases hdst : (ops[j]?).bind (·.dst) with
    | none =>
      rw [hdst] at h
      replace h : some false = some q := h
      cases h
      simp
    | some d =>
      rw [hdst] at h
      replace h : oe (vBool (slot d l t)) (bc (isUndef (slot d l t)) (some false) none) (fun b => some (bc b want (!want))) = some q := h
      have hr := hd _ hg d hdst
      simp only [Option.bind_some]
      cases hb : vBool (slot d l t) with
      | some b =>
        rw [hb] at h
        replace h : some (bc b want (!want)) = some q := h
        rw [vBool_eq hb] at hr
        have ht : a.tmps.getD d undef = .bool b := by generalize a.tmps.getD d undef = y at hr; cases hr; rfl
        have ht2 : a.tmps[d]? = some (.bool b) := by
          rw [Array.getD_eq_getD_getElem?] at ht
          cases hx : a.tmps[d]? with
          | none => rw [hx] at ht; cases ht
          | some x => rw [hx] at ht; exact congrArg some ht
        rw [ht2]
        cases b <;> cases want <;> (cases h; rfl)
      | none =>
        rw [hb] at h
        replace h : bc (isUndef (slot d l t)) (some false) none = some q := h
        rw [bc_none] at h; obtain ⟨hu, h⟩ := h
        cases h
        unfold isUndef at hu
        cases hv : vTup (slot d l t) with
        | none => rw [hv] at hu; cases hu
        | some vs =>
          rw [hv] at hu
          cases vs with
          | cons x r => cases hu
          | nil =>
            rw [vTup_eq hv] at hr
            have ht : a.tmps.getD d undef = .tuple #[] := by
              generalize a.tmps.getD d undef = y at hr
              cases hr with
              | tup hl => cases hl; rfl
            rw [Array.getD_eq_getD_getElem?] at ht
            cases hx : a.tmps[d]? with
            | none => rfl
            | some x => rw [hx] at ht; replace ht : x = .tuple #[] := ht; subst ht; rfl

structure SRel (kept : Kept) (e : Env) (l : Loc) (t : Tr Value) (σ : St) (a : Act) (w : World) : Prop where
  wr : WRel e σ w
  tr : ERel e l t a.tmps
  kr : KRel kept l t
theorem one_sound {rec : Rec} (hrec : RecOk P rec) {kept : Kept} {ops : List Oper} {ops' : Array Oper} (ho : ops'.toList = ops) {o : Oper} {k : Cont} {e : Env} {l : Loc} {t : Tr Value} {σ : St} {a : Act} {w : World} {res : Tr Value × St}
    (hS : SRel kept e l t σ a w) (hf : fitsDst o.dst a.tmps.size) {r : Option Nat} (h : oneK P rec kept ops o k l t σ = some res) {K : Act → World → Prop} {Q : Exit → Act → World → Prop}
    (hK : ∀ e' l' t' σ' a' w', k l' t' σ' = some res → SRel kept e' l' t' σ' a' w' → Grow e σ w e' σ' w' → a'.tmps.size = a.tmps.size → a'.defers = a.defers → K a' w') :
    if Region.wanted o (yielded ops' a.tmps) then o.wpIn (FR r) 0 P a w K Q else (∀ f, o.about P w a.eval = some f → (FR r).fn f) ∧ K (a.put o.dst undef) w := by
  unfold oneK at h
  rw [ob_eq] at h; obtain ⟨q, hq, h⟩ := h
  rw [wanted_eq ho (fun _ _ d _ => hS.tr d) hq]
  rw [bc_eq] at h
  split at h
  · rename_i hq1
    rw [if_pos hq1]
    rw [ob_eq] at h; obtain ⟨p, hp, h⟩ := h
    rw [putK_eq] at h
    refine step_sound hrec hS.wr (rho_rel hS.tr) hp fun e' v' w' h1 h2 h3 => ?_
    exact hK e' _ _ p.2 _ w' h ⟨h1, erel_put (hS.tr.mono h2.env) hS.kr h3 hf, krel_put hS.kr _ _⟩ h2 (put_tmps_size _ _ _) (put_defers _ _ _)
  · rename_i hq1
    rw [if_neg hq1]
    rw [putK_eq] at h
    exact ⟨fun _ _ => trivial, hK e _ _ σ _ w h ⟨hS.wr, erel_put hS.tr hS.kr (.undef _) hf, krel_put hS.kr _ _⟩ (.refl _ _ _) (put_tmps_size _ _ _) (put_defers _ _ _)⟩
theorem ops_sound {rec : Rec} (hrec : RecOk P rec) {kept : Kept} {ops : List Oper} {ops' : Array Oper} (ho : ops'.toList = ops) {r : Option Nat} {Q : Exit → Act → World → Prop} {res : Tr Value × St} :
    ∀ (todo : List Oper) (e : Env) (l : Loc) (t : Tr Value) (σ : St) (a : Act) (w : World), SRel kept e l t σ a w → (∀ o ∈ todo, fitsDst o.dst a.tmps.size) → opsK P rec kept ops endK todo l t σ = some res →
    (∀ e' l' t' a' w', res.1 = t' → SRel kept e' l' t' res.2 a' w' → Grow e σ w e' res.2 w' → a'.tmps.size = a.tmps.size → a'.defers = a.defers → Q .normal a' w') → wpListIn (FR r) 0 P ops' Q todo a w := by
  intro todo
  induction todo with
  | nil =>
    intro e l t σ a w hS _ h hQ
    replace h : some (t, σ) = some res := h
    cases h
    exact hQ e l t a w rfl hS (.refl _ _ _) rfl rfl
  | cons o todo ih =>
    intro e l t σ a w hS hf h hQ
    replace h : oneK P rec kept ops o (opsK P rec kept ops endK todo) l t σ = some res := h
    refine wpListIn_step fun K hK => ?_
    refine one_sound hrec ho hS (hf o (List.mem_cons_self ..)) h fun e' l' t' σ' a' w' h1 h2 h3 h4 h5 => ?_
    refine hK _ _ (ih e' l' t' σ' a' w' h2 (fun o ho => by rw [h4]; exact hf o (List.mem_cons_of_mem _ ho)) h1 fun e2 l2 t2 a2 w2 g0 g1 g2 g3 g4 => ?_)
    exact hQ e2 l2 t2 a2 w2 g0 g1 (h3.trans g2) (g3.trans h4) (g4.trans h5)
/-- At a region's end the slots that are not kept are forgotten. -/
theorem erel_end {e : Env} {kept : Kept} {l : Loc} {t : Tr Value} {tmps : Array Value} (h : ERel e l t tmps) (hk : KRel kept l t) : ERel e [] t tmps := by
  intro i
  have := h i
  rw [slot_eq] at this ⊢
  cases hl : lget i l with
  | none => rw [hl] at this; exact this
  | some v =>
    have hk1 := hk.2 i v hl
    have ht : t.get i = none := by
      cases ht : t.get i with
      | none => rfl
      | some u => have := hk.1 i u ht; rw [hk1] at this; cases this
    rw [ht]
    exact .poison _
theorem fits_mem {n : Nat} {l : List Oper} (h : opsFit n l = true) : ∀ o ∈ l, fitsDst o.dst n := by
  intro o ho d hd
  unfold opsFit at h
  rw [List.all_eq_true] at h
  have := h o ho
  rw [hd] at this
  simpa using this
theorem region_sound {rec : Rec} (hrec : RecOk P rec) {kept : Kept} {id : Nat} {ops' : Array Oper} {e : Env} {fr : Fr} {F : Fence} {a : Act} {w : World} (hF : FrOk kept e fr F a w) (hf : opsFit a.tmps.size ops'.toList = true) {res : Tr Value × St}
    (h : opsK P rec kept ops'.toList endK ops'.toList [] fr.t fr.σ = some res) : (Code.region id ops' false).wpIn F 0 P (ExOk kept e fr F a w .normal { fr with t := res.1, σ := res.2 }) a w := by
  have hFR : ∃ r, F = FR r := by
    have := hF.r
    cases hr : fr.rnd with
    | none => rw [hr] at this; exact ⟨none, this⟩
    | some l => rw [hr] at this; obtain ⟨L, _, h⟩ := this; exact ⟨_, h⟩
  obtain ⟨r, rfl⟩ := hFR
  refine wpIn_region_list ?_
  refine ops_sound hrec rfl _ e [] fr.t fr.σ a w ⟨hF.w, hF.t, hF.k, fun i v h => by cases h⟩ (fits_mem hf) h fun e' l' t' a' w' h0 h1 h2 h3 h4 => ?_
  subst h0
  exact ⟨rfl, rfl, h3, e', ⟨h1.wr, erel_end h1.tr h1.kr, h1.kr.1, hF.r.mono h2.env, by rw [h4]; exact hF.d.mono h2.env⟩, h2⟩
end Go.AM
