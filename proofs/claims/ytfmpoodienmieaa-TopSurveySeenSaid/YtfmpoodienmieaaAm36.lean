/- The machine in the other style: regions and code. -/
import Derived.Test.YtfmpoodienmieaaAm35
namespace Go.AM
variable {P : Program} {rec : Rec} {kept : Kept}
abbrev CTy := Loc → Tr Value → St → R
noncomputable def putT (kept : Kept) (dst : Option Tmp) (v : Value) (l : Loc) (t : Tr Value) (σ : St) (k : CTy) : R :=
  oe dst (k l t σ) fun d => bc (kept d) (k l (t.put d v) σ) (k ((d, v) :: l) t σ)
/-- What a branch has found of a slot. -/
noncomputable def markL (d : Tmp) (v : Value) (l : Loc) : Loc := oe (lget d l) l fun _ => lput d v l
noncomputable def markR (d : Tmp) (v : Value) (l : Loc) (t : Tr Value) : Tr Value := oe (lget d l) (oe (t.get d) t fun _ => t.put d v) fun _ => t
noncomputable def oneT (P : Program) (rec : Rec) (kept : Kept) (ops : List Oper) (o : Oper) (k : CTy) : CTy := fun l t σ =>
  oe (guardOf ops o) (stepT P rec o (rho l t) σ fun v σ => putT kept o.dst v l t σ k) fun g => oe g.1 (putT kept o.dst undef l t σ k) fun d =>
    oe (vBool (slot d l t)) (bc (isUndef (slot d l t)) (putT kept o.dst undef l t σ k) none) fun b =>
      bc g.2
        (bc b (stepT P rec o (rho (markL d (.bool true) l) (markR d (.bool true) l t)) σ fun v σ => putT kept o.dst v (markL d (.bool true) l) (markR d (.bool true) l t) σ k)
          (putT kept o.dst undef (markL d (.bool false) l) (markR d (.bool false) l t) σ k))
        (bc b (putT kept o.dst undef (markL d (.bool true) l) (markR d (.bool true) l t) σ k)
          (stepT P rec o (rho (markL d (.bool false) l) (markR d (.bool false) l t)) σ fun v σ => putT kept o.dst v (markL d (.bool false) l) (markR d (.bool false) l t) σ k))
theorem lput_same {α : Type} {n : Nat} {v : α} {l : List (Nat × α)} (h : lget n l = some v) : lput n v l = l := by
  induction l with
  | nil => cases h
  | cons p l ih =>
    rw [lget_cons] at h
    rw [lput_cons]
    by_cases hp : p.1 = n
    · rw [if_pos hp] at h ⊢
      cases h
      rw [← hp]
    · rw [if_neg hp] at h ⊢
      rw [ih h]
theorem put_same {α : Type} {t : Tr α} : ∀ {n : Nat} {v : α}, t.get n = some v → t.put n v = t := by
  induction t with
  | leaf l => intro n v h; rw [get_leaf] at h; rw [put_leaf, lput_same h]
  | node a b iha ihb =>
    intro n v h
    rw [get_node] at h
    rw [put_node]
    by_cases hn : n % 2 = 0
    · rw [if_pos hn] at h ⊢; rw [iha h]
    · rw [if_neg hn] at h ⊢; rw [ihb h]
theorem mark_same {d : Tmp} {b : Bool} {l : Loc} {t : Tr Value} (h : vBool (slot d l t) = some b) : markL d (.bool b) l = l ∧ markR d (.bool b) l t = t := by
  have hs := vBool_some h
  unfold slot at hs
  unfold markL markR
  cases hl : lget d l with
  | some v =>
    rw [hl] at hs
    replace hs : v = .bool b := hs
    subst hs
    exact ⟨lput_same hl, rfl⟩
  | none =>
    rw [hl] at hs
    refine ⟨rfl, ?_⟩
    cases ht : t.get d with
    | none => exact rfl
    | some v =>
      rw [ht] at hs
      replace hs : v = .bool b := hs
      subst hs
      exact put_same ht
def KLeT (k : CTy) (k' : Cont) (K : Tr Value → St → R) : Prop := ∀ l t σ, Le (k l t σ) (ob (k' l t σ) fun r => K r.1 r.2)
variable {K : Tr Value → St → R}
theorem putT_le {dst : Option Tmp} {v : Value} {k : CTy} {k' : Cont} (h : KLeT k k' K) (l : Loc) (t : Tr Value) (σ : St) : Le (putT kept dst v l t σ k) (ob (putK kept dst v l t σ k') fun r => K r.1 r.2) := by
  cases dst with
  | none => exact h l t σ
  | some d =>
    show Le (bc (kept d) (k l (t.put d v) σ) (k ((d, v) :: l) t σ)) (ob (bc (kept d) (k' l (t.put d v) σ) (k' ((d, v) :: l) t σ)) _)
    cases kept d
    · exact h _ _ _
    · exact h _ _ _
theorem oneT_le {ops : List Oper} {o : Oper} {k : CTy} {k' : Cont} (h : KLeT k k' K) : KLeT (oneT P rec kept ops o k) (oneK P rec kept ops o k') K := by
  intro l t σ
  have hgo : ∀ l t, Le (stepT P rec o (rho l t) σ fun v σ => putT kept o.dst v l t σ k) (ob (ob (stepA P rec o (rho l t) σ) fun r => putK kept o.dst r.1 l t r.2 k') fun r => K r.1 r.2) := fun l t => by
    refine (stepT_le _ _ _ _).trans ?_
    refine le_obob _ _ fun r _ => putT_le h _ _ _
  unfold oneT oneK wantedA
  cases hg : guardOf ops o with
  | none => exact hgo l t
  | some g =>
    obtain ⟨g1, g2⟩ := g
    cases g1 with
    | none => exact putT_le h _ _ _
    | some d =>
      show Le (oe (vBool (slot d l t)) _ _) (ob (ob (oe (vBool (slot d l t)) (bc (isUndef (slot d l t)) (some false) none) fun b => some (bc b g2 (!g2))) fun q => bc q _ _) _)
      cases hb : vBool (slot d l t) with
      | none =>
        show Le (bc (isUndef (slot d l t)) _ none) (ob (ob (bc (isUndef (slot d l t)) (some false) none) fun q => bc q _ _) _)
        cases isUndef (slot d l t)
        · exact le_none _
        · exact putT_le h _ _ _
      | some b =>
        obtain ⟨h1, h2⟩ := mark_same hb
        cases b
        · cases g2
          · show Le (stepT P rec o (rho (markL d (.bool false) l) (markR d (.bool false) l t)) σ fun v σ => putT kept o.dst v (markL d (.bool false) l) (markR d (.bool false) l t) σ k) _
            rw [h1, h2]; exact hgo l t
          · show Le (putT kept o.dst undef (markL d (.bool false) l) (markR d (.bool false) l t) σ k) _
            rw [h1, h2]; exact putT_le h _ _ _
        · cases g2
          · show Le (putT kept o.dst undef (markL d (.bool true) l) (markR d (.bool true) l t) σ k) _
            rw [h1, h2]; exact putT_le h _ _ _
          · show Le (stepT P rec o (rho (markL d (.bool true) l) (markR d (.bool true) l t)) σ fun v σ => putT kept o.dst v (markL d (.bool true) l) (markR d (.bool true) l t) σ k) _
            rw [h1, h2]; exact hgo l t
noncomputable def opsT (P : Program) (rec : Rec) (kept : Kept) (ops : List Oper) (k : CTy) (todo : List Oper) : CTy :=
  List.rec (motive := fun _ => CTy) k (fun o _ ih => oneT P rec kept ops o ih) todo
theorem opsT_le {ops : List Oper} {k : CTy} {k' : Cont} (h : KLeT k k' K) (todo : List Oper) : KLeT (opsT P rec kept ops k todo) (opsK P rec kept ops k' todo) K := by
  induction todo with
  | nil => exact h
  | cons o todo ih => exact oneT_le ih
noncomputable def wallUp (σ : St) : St := { σ with wall := σ.next }
noncomputable def wallTo (w : Nat) (σ : St) : St := { σ with wall := w }
noncomputable def calmT (P : Program) (rec : Rec) (kept : Kept) (ops : List Oper) (k : CTy) (todo : List (Nat × Oper)) : CTy :=
  List.rec (motive := fun _ => CTy) k (fun p _ ih l t σ => oneT P rec kept ops p.2 (fun l t σ1 => ih l t (wallTo σ.wall σ1)) l t (wallUp σ)) todo
theorem calmT_le {ops : List Oper} {k : CTy} {k' : Cont} (h : KLeT k k' K) (todo : List (Nat × Oper)) : KLeT (calmT P rec kept ops k todo) (calmK P rec kept ops k' todo) K := by
  induction todo with
  | nil => exact h
  | cons p todo ih =>
    intro l t σ
    exact oneT_le (k := fun l t σ1 => calmT P rec kept ops k todo l t (wallTo σ.wall σ1)) (k' := walled σ.wall (calmK P rec kept ops k' todo)) (fun l t σ1 => ih l t _) l t (wallUp σ)
noncomputable def raceT (ρ : Rho) (o : Oper) (js : List Oper) (x : R) : R := le js x fun _ _ => bc (raceOk ρ o js) x none
noncomputable def tailT (P : Program) (rec : Rec) (kept : Kept) (ops : List Oper) (k : CTy) (todo : List TailOp) : CTy :=
  List.rec (motive := fun _ => CTy) k (fun p _ ih l t σ => raceT (rho l t) p.o p.races (oneT P rec kept ops p.o ih l t σ)) todo
theorem tailT_le {ops : List Oper} {k : CTy} {k' : Cont} (h : KLeT k k' K) (todo : List TailOp) : KLeT (tailT P rec kept ops k todo) (tailK P rec kept ops k' todo) K := by
  induction todo with
  | nil => exact h
  | cons p todo ih =>
    intro l t σ
    show Le (raceT (rho l t) p.o p.races _) (ob (bc (raceOk (rho l t) p.o p.races) (oneK P rec kept ops p.o (tailK P rec kept ops k' todo) l t σ) none) _)
    have hno : p.races = [] → raceOk (rho l t) p.o p.races = true := fun h => by rw [h]; rfl
    unfold raceT
    cases hr : p.races with
    | nil =>
      rw [hr] at hno
      rw [hno rfl]
      exact oneT_le ih _ _ _
    | cons a r =>
      show Le (bc (raceOk (rho l t) p.o (a :: r)) _ none) _
      cases raceOk (rho l t) p.o (a :: r)
      · exact le_none _
      · exact oneT_le ih _ _ _
noncomputable def drawT (P : Program) (rec : Rec) (kept : Kept) (ops : List Oper) (t : Tr Value) (σ : St) (k : CTy) : R :=
  ob (calmOps ops) fun c => ob (tailOps ops) fun q => calmT P rec kept ops (tailT P rec kept ops k q) c [] t σ
theorem end_le : KLeT (fun _ t σ => K t σ) endK K := fun _ _ _ => Le.refl _
theorem drawT_le (ops : List Oper) (t : Tr Value) (σ : St) : Le (drawT P rec kept ops t σ fun _ t σ => K t σ) (ob (drawK P rec kept ops t σ) fun r => K r.1 r.2) :=
  le_obob _ _ fun c _ => le_obob _ _ fun q _ => calmT_le (tailT_le end_le q) c _ _ _

/-! ### Code -/
abbrev KX := Exit → Fr → R
abbrev XT := Kept → Fr → KX → R
noncomputable def thenT (eb : XT) (kept : Kept) (K : KX) : KX := fun e fr =>
  Exit.rec (motive := fun _ => XT → Kept → Fr → KX → R) (fun eb kept fr K => eb kept fr K) (fun id _ _ fr K => K (.exit id) fr) (fun _ _ _ _ _ => none) (fun _ _ fr K => K .ret fr) (fun _ _ _ _ _ => none) (fun _ _ _ _ => none) e eb kept fr K
noncomputable def blockT (id : Nat) (K : KX) : KX := fun e fr =>
  Exit.rec (motive := fun _ => Nat → Fr → KX → R) (fun _ fr K => K .normal fr) (fun j id fr K => bc (Nat.beq j id) (K .normal fr) (K (.exit j) fr)) (fun _ _ _ _ => none) (fun _ fr K => K .ret fr) (fun _ _ _ _ => none) (fun _ _ _ => none) e id fr K
noncomputable def regionT (P : Program) (rec : Rec) (_ : Nat) (ops : Array Oper) (draw : Bool) : XT := fun kept fr K =>
  bc draw (drawT P rec kept ops.toList fr.t fr.σ fun _ t σ => K .normal { fr with t := t, σ := σ })
    (opsT P rec kept ops.toList (fun _ t σ => K .normal { fr with t := t, σ := σ }) ops.toList [] fr.t fr.σ)
noncomputable def markF (c : Operand) (b : Bool) (fr : Fr) : Fr :=
  Operand.rec (motive := fun _ => Fr) (fun d => { fr with t := oe (fr.t.get d) fr.t fun _ => fr.t.put d (.bool b) }) (fun _ => fr) (fun _ => fr) (fun _ => fr) c
noncomputable def condT (c : Operand) (_ _ : Code) (ea eb : XT) : XT := fun kept fr K => asB (rho [] fr.t c) fun q => bc q (ea kept (markF c true fr) K) (eb kept (markF c false fr) K)
noncomputable def loopT (rec : Rec) (c : Code) (kept : Kept) (fr : Fr) (K : KX) : R := ob (rec (.loop c kept fr)) fun r => ob (rEx r) fun p => K p.1 p.2
noncomputable def rangeT (rec : Rec) (f : Operand) (params : Array Tmp) (assign body : Code) (_ _ : XT) : XT := fun kept fr K =>
  ob (vFunc (rho [] fr.t f)) fun g => ob (enterA kept fr params.toList assign body) fun l =>
    ob (callReq g.1 (g.2.1.toList ++ [.func (.yield l.1) #[] #[]]) g.2.2.toList l.2) fun q => reqT rec q fun _ σ => ob (leaveA l.1 σ) fun j =>
      ob (jumpExit j.1) fun e => K e { fr with σ := j.2, ds := oe fr.rnd (fr.σ.next :: fr.ds) fun _ => fr.ds }
noncomputable def execT (P : Program) (rec : Rec) (c : Code) : XT :=
  Code.rec (motive := fun _ => XT) (fun _ fr K => K .normal fr) (regionT P rec) (fun _ _ ea eb kept fr K => ea kept fr (thenT eb kept K)) condT (fun id _ e kept fr K => e kept fr (blockT id K))
    (fun c _ kept fr K => loopT rec c kept fr K) (rangeT rec) (fun id _ fr K => K (.exit id) fr) (fun _ _ _ _ _ => none) (fun _ _ _ _ => none) (fun _ _ _ _ => none) (fun _ fr K => K .ret fr) (fun _ _ _ _ => none) c
theorem markF_same {c : Operand} {b : Bool} {fr : Fr} (h : vBool (rho [] fr.t c) = some b) : markF c b fr = fr := by
  cases c with
  | tmp d =>
    have := (mark_same (l := []) (t := fr.t) (d := d) h).2
    replace this : oe (fr.t.get d) fr.t (fun _ => fr.t.put d (.bool b)) = fr.t := this
    show { fr with t := oe (fr.t.get d) fr.t fun _ => fr.t.put d (.bool b) } = fr
    rw [this]
  | _ => rfl
theorem execT_le (c : Code) : ∀ (kept : Kept) (fr : Fr) (K : KX), Le (execT P rec c kept fr K) (ob (execA P rec c kept fr) fun r => K r.1 r.2) := by
  induction c with
  | skip => intro kept fr K; exact Le.refl _
  | region id ops draw =>
    intro kept fr K
    cases draw with
    | true => exact (drawT_le (K := fun t σ => K .normal { fr with t := t, σ := σ }) _ _ _).trans (le_om _ _ fun r _ => Le.refl _)
    | false => exact (opsT_le (K := fun t σ => K .normal { fr with t := t, σ := σ }) end_le ops.toList [] fr.t fr.σ).trans (le_om _ _ fun r _ => Le.refl _)
  | seq a b iha ihb =>
    intro kept fr K
    refine (iha kept fr (thenT (execT P rec b) kept K)).trans (le_obob _ _ fun r _ => ?_)
    obtain ⟨e, fr1⟩ := r
    cases e with
    | normal => exact ihb kept fr1 K
    | exit id => exact Le.refl _
    | ret => exact Le.refl _
    | _ => exact le_none _
  | cond c a b iha ihb =>
    intro kept fr K
    show Le (ob (vBool (rho [] fr.t c)) fun q => bc q (execT P rec a kept (markF c true fr) K) (execT P rec b kept (markF c false fr) K)) (ob (ob (vBool (rho [] fr.t c)) fun q => bc q (execA P rec a kept fr) (execA P rec b kept fr)) _)
    refine le_obob _ _ fun q hq => ?_
    cases q with
    | true => show Le (execT P rec a kept (markF c true fr) K) _; rw [markF_same hq]; exact iha _ _ _
    | false => show Le (execT P rec b kept (markF c false fr) K) _; rw [markF_same hq]; exact ihb _ _ _
  | block id c ih =>
    intro kept fr K
    refine (ih kept fr (blockT id K)).trans (le_obob _ _ fun r _ => ?_)
    obtain ⟨e, fr1⟩ := r
    cases e with
    | normal => exact Le.refl _
    | exit j =>
      show Le (bc (Nat.beq j id) (K .normal fr1) (K (.exit j) fr1)) (ob (bc (Nat.beq j id) (some (Exit.normal, fr1)) (some (Exit.exit j, fr1))) _)
      cases Nat.beq j id <;> exact Le.refl _
    | ret => exact Le.refl _
    | _ => exact le_none _
  | loop c ih =>
    intro kept fr K
    exact le_obob _ _ fun r _ => Le.refl _
  | rangeFunc f ps a b iha ihb =>
    intro kept fr K
    exact le_obob _ _ fun g _ => le_obob _ _ fun l _ => le_obob _ _ fun q _ => le_obob _ _ fun r _ => le_obob _ _ fun p _ => le_obob _ _ fun j _ => le_om _ _ fun e _ => Le.refl _
  | exit id => intro kept fr K; exact Le.refl _
  | ret => intro kept fr K; exact Le.refl _
  | _ => intro kept fr K; exact le_none _

/-! ### Calls, loops, rounds -/
noncomputable def resT (P : Program) (t : Tr Value) (h : Tr Blk) (rs : List ResultVar) : (List Value → R) → R :=
  List.rec (motive := fun _ => (List Value → R) → R) (fun k => k []) (fun r _ ih k => ResultVar.rec (motive := fun _ => R) (fun i => ih fun l => k (slot i [] t :: l))
    (fun a ty => loadT P ty h (slot a [] t) fun v => castA (zeroT P ty) v fun v => ih fun l => k (v :: l)) r) rs
theorem resT_le (t : Tr Value) (h : Tr Blk) (rs : List ResultVar) : ∀ k : List Value → R, Le (resT P t h rs k) (ob (resultsA P rs t h) k) := by
  induction rs with
  | nil => intro k; exact Le.refl _
  | cons r rs ih =>
    intro k
    cases r with
    | tmp i =>
      show Le (resT P t h rs fun l => k (slot i [] t :: l)) (ob (ob (some (slot i [] t)) fun v => om (resultsA P rs t h) fun l => v :: l) k)
      exact (ih _).trans (le_om _ _ fun l _ => Le.refl _)
    | cell a ty =>
      show Le (loadT P ty h (slot a [] t) fun v => castA (zeroT P ty) v fun v => resT P t h rs fun l => k (v :: l)) (ob (ob (loadA P ty h (slot a [] t)) fun v => om (resultsA P rs t h) fun l => v :: l) k)
      refine (loadT_le _ _ _ _).trans (le_obob _ _ fun v _ => (castA_le _ _ _).trans ((ih _).trans (le_om _ _ fun l _ => Le.refl _)))
noncomputable def retT (σ0 : St) (v : Value) (σ1 : St) : R := some (.val v (afterA σ0 v σ1))
noncomputable def endT (P : Program) (σ : St) (rs : List ResultVar) : KX := fun e fr =>
  bc (Exit.rec (motive := fun _ => Bool) true (fun _ => false) (fun _ => false) true (fun _ => false) false e)
    (ob (dropDs fr.ds fr.σ) fun σ1 => resT P fr.t σ1.heap rs fun vs => retT σ (tupled vs) σ1) none
theorem endT_le (σ : St) (rs : List ResultVar) (e : Exit) (fr : Fr) : Le (endT P σ rs e fr) (exEnd P σ rs e fr) := by
  unfold endT exEnd
  cases (Exit.rec (motive := fun _ => Bool) true (fun _ => false) (fun _ => false) true (fun _ => false) false e : Bool)
  · exact le_none _
  · refine le_ob _ fun σ1 _ => (resT_le _ _ _ _).trans ?_
    cases resultsA P rs fr.t σ1.heap
    · exact le_none _
    · exact Le.refl _
noncomputable def callC (P : Program) (rec : Rec) (k : FuncId) (args : List Value) (σ : St) : R :=
  ob (fnOf P k) fun fn => ob fn.body fun c => bc (bc (Nat.ble args.length fn.ntmps) (fitsFn P k) false)
    (execT P rec c (keptIn P k) { t := argTmps (keptIn P k) args 0 (preT (keptList P k)), σ := { σ with low := σ.next }, fn := k, rnd := none, ds := [] } (endT P σ fn.results.toList)) none
theorem run_call {Γ : Tab} {k : FuncId} {args : List Value} {σ : St} (hΓ : Γ k args σ = none) : Le (callC P (run P Γ) k args σ) (run P Γ (.call k args σ)) := by
  rw [run_step]
  show Le _ (doCall P Γ (run P Γ) k args σ)
  unfold doCall
  rw [hΓ]
  show Le _ (ob (fnOf P k) fun fn => callBody P (run P Γ) k args σ fn)
  refine le_ob _ fun fn _ => ?_
  unfold callBody
  refine le_ob _ fun c _ => ?_
  cases bc (Nat.ble args.length fn.ntmps) (fitsFn P k) false
  · exact le_none _
  · exact (execT_le _ _ _ _).trans (le_ob _ fun r _ => endT_le _ _ _ _)
noncomputable def loopEnd (rec : Rec) (c : Code) (kept : Kept) : KX := fun e fr =>
  Exit.rec (motive := fun _ => R) (rec (.loop c kept fr)) (fun id => some (.ex (.exit id) fr)) (fun _ => none) (some (.ex .ret fr)) (fun _ => none) none e
theorem run_loopT {Γ : Tab} (c : Code) (kept : Kept) (fr : Fr) : Le (execT P (run P Γ) c kept fr (loopEnd (run P Γ) c kept)) (run P Γ (.loop c kept fr)) := by
  refine Le.trans ?_ (Le.of_eq (run_step P Γ (.loop c kept fr)).symm)
  exact execT_le _ _ _ _
noncomputable def roundT (P : Program) (rec : Rec) (l : Nat) (args : List Value) (σ : St) (kept : Kept) (fn : FuncId) (t : Tr Value) (params : List Tmp) (assign body : Code) : R :=
  bc (Nat.beq args.length params.length)
    (execT P rec assign kept { t := setTmps kept (params.zip args) t, σ := σ, fn := fn, rnd := some l, ds := [] } fun e fr =>
      bc (Exit.rec (motive := fun _ => Bool) true (fun _ => false) (fun _ => false) false (fun _ => false) false e)
        (ob (fr.σ.heap.get l) fun b => ob (bLoop b) fun lb => bc (isReady lb.st)
          (ob (setBlk fr.σ l ({ lb with st := .busy } : LoopB).blk) fun σ => execT P rec body kept { fr with σ := σ } fun e fr => endRoundA l e fr) none) none) none
theorem roundT_le (l : Nat) (args : List Value) (σ : St) (kept : Kept) (fn : FuncId) (t : Tr Value) (params : List Tmp) (assign body : Code) : Le (roundT P rec l args σ kept fn t params assign body) (roundA P rec l args σ kept fn t params assign body) := by
  unfold roundT roundA
  cases Nat.beq args.length params.length
  · exact le_none _
  · refine (execT_le _ _ _ _).trans (le_ob _ fun r _ => ?_)
    unfold bodyRoundA
    cases (Exit.rec (motive := fun _ => Bool) true (fun _ => false) (fun _ => false) false (fun _ => false) false r.1 : Bool)
    · exact le_none _
    · refine le_ob _ fun b _ => le_ob _ fun lb _ => ?_
      cases isReady lb.st
      · exact le_none _
      · exact le_ob _ fun σ _ => execT_le _ _ _ _
theorem run_yieldT {Γ : Tab} {l : Nat} {args : List Value} {σ : St} {lb : LoopB} (h : σ.heap.get l = some lb.blk) : Le (roundT P (run P Γ) l args σ lb.kept lb.fn lb.t lb.params lb.assign lb.body) (run P Γ (.yield l args σ)) := by
  rw [run_step]
  show Le _ (doYield P (run P Γ) l args σ)
  unfold doYield
  rw [h]
  exact roundT_le _ _ _ _ _ _ _ _ _
/-! ### Places in code -/
def dn : List Nat → Code → Code
  | [], c => c
  | i :: p, c => dn p (match c with
    | .seq a b => bif Nat.beq i 0 then a else b
    | .cond _ a b => bif Nat.beq i 0 then a else b
    | .block _ c | .loop c | .scope c => c
    | .rangeFunc _ _ a b => bif Nat.beq i 0 then a else b
    | c => c)
def loopC : Code → Code
  | .loop c => c
  | c => c
/-- What is done behind the place. -/
noncomputable def after (P : Program) (rec : Rec) (kept : Kept) : List Nat → Code → KX → KX
  | [], _, K => K
  | i :: p, c, K => match c with
    | .seq a b => bif Nat.beq i 0 then after P rec kept p a (thenT (execT P rec b) kept K) else after P rec kept p b K
    | .cond _ a b => bif Nat.beq i 0 then after P rec kept p a K else after P rec kept p b K
    | .block id c => after P rec kept p c (blockT id K)
    | _ => K
def bodyOf (P : Program) (k : FuncId) : Code := match fnOf P k with
  | some fn => fn.body.getD .skip
  | none => .skip
def resOf (P : Program) (k : FuncId) : List ResultVar := match fnOf P k with
  | some fn => fn.results.toList
  | none => []
/-- A frame's slots, in their order. -/
noncomputable def fillT (l : List Tmp) : List Value → Tr Value := List.rec (motive := fun _ => List Value → Tr Value) (fun _ => tmps0) (fun d _ ih vs => le vs tmps0 fun v r => (ih r).put d v) l
noncomputable def F (P : Program) (k : FuncId) (σ : St) (vs : List Value) : Fr := { t := fillT (keptList P k) vs, σ := σ, fn := k, rnd := none, ds := [] }
noncomputable def FR' (P : Program) (k : FuncId) (rnd : Option Nat) (ds : List Nat) (σ : St) (vs : List Value) : Fr := { t := fillT (keptList P k) vs, σ := σ, fn := k, rnd := rnd, ds := ds }

/-! ### Words of the printed terms -/
abbrev I64 (n : Int) : Value := .int .i64 n
abbrev BL (b : Bool) : Value := .bool b
abbrev SR (s : ByteArray) : Value := .string s
abbrev SL (a : Option Addr) (n c : Nat) : Value := .slice a n c
abbrev PT (i o : Nat) : Value := .pointer (some ⟨i, o, none⟩)
abbrev AG (l : List Value) : Value := .agg ⟨l⟩
abbrev TU (l : List Value) : Value := .tuple ⟨l⟩
abbrev MP (r : Option Nat) : Value := .map r
abbrev FN (k : FuncId) (a b : List Value) : Value := .func (.func k) ⟨a⟩ ⟨b⟩
abbrev FV (f : Fn) (a b : Array Value) : Value := .func f a b
noncomputable def zop (x : Int) (f : Int → R) : R := f x
noncomputable def zadd (x y : Int) (f : Int → R) : R := f (wrap64I (Int.add x y))
noncomputable def zsub (x y : Int) (f : Int → R) : R := f (wrap64I (Int.sub x y))
noncomputable def zmul (x y : Int) (f : Int → R) : R := f (wrap64I (Int.mul x y))
noncomputable def zquo (x y : Int) (f : Int → R) : R := ob (bc (eqI y 0) none (some (I64 (wrap64I (Int.tdiv x y))))) fun v => asI .i64 v f
noncomputable def zrem (x y : Int) (f : Int → R) : R := ob (bc (eqI y 0) none (some (I64 (Int.tmod x y)))) fun v => asI .i64 v f
noncomputable def newC (cs : List Value) (σ : St) (f : St → R) : R := bc (allOne cs) (f (newBlk σ (.cells false 0 cs))) none
noncomputable def newZ (z : Nat) (cs : List Value) (σ : St) (f : St → R) : R := f (newBlk σ (.cells false z cs))
noncomputable def stC (v : Value) (n : Nat) (σ : St) (i o : Nat) (f : St → R) : R := bc (Nat.beq (vcells v).length n) (wrT σ i o (vcells v) f) none
noncomputable def reS (σ : St) (f : St → R) : R := f σ
noncomputable def hdI (kd : IntKind) (c : List Value) (f : Int → List Value → R) : R := hd c fun v r => asI kd v fun n => f n r
noncomputable def hdB (c : List Value) (f : Bool → List Value → R) : R := hd c fun v r => asB v fun n => f n r
noncomputable def hdS (c : List Value) (f : ByteArray → List Value → R) : R := hd c fun v r => asS v fun n => f n r
noncomputable def hdP (c : List Value) (f : Nat → Nat → List Value → R) : R := hd c fun v r => asP v fun i o => f i o r
noncomputable def hdL (c : List Value) (f : Option Addr → Nat → Nat → List Value → R) : R := hd c fun v r => asL v fun a n k => f a n k r
noncomputable def hdM (c : List Value) (f : Option Nat → List Value → R) : R := hd c fun v r => asM v fun a => f a r
noncomputable def hdF (c : List Value) (f : Fn → Array Value → Array Value → List Value → R) : R := hd c fun v r => asF v fun g a b => f g a b r
noncomputable def hdA (c : List Value) (f : List Value → List Value → R) : R := hd c fun v r => asA v fun a => f a r
noncomputable def appS (size bytes : Nat) (sv x : Value) (σ : St) : OpRes :=
  ob (vSlice sv) fun v => ob (srcLen x) fun n => ne n (some (sv, σ)) fun n => ob (srcCells size (n + 1) x σ.heap) fun new => appendTo size bytes v new (n + 1) σ
noncomputable def appT (size bytes : Nat) (sv x : Value) (σ : St) (f : Option Addr → Nat → Nat → St → R) : R := ob (appS size bytes sv x σ) fun r => asL r.1 fun a n c => f a n c r.2
end Go.AM
