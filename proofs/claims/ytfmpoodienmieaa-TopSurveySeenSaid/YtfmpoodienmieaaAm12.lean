/- The abstract machine: one operation in a frame: calls; a region that does not draw. -/
import Derived.Test.YtfmpoodienmieaaAm11
namespace Go.AM
variable {P : Program}
def FR (r : Option Nat) : Fence := { Fence.wide with round := r }
/-- What a call that returns leaves. -/
def RetOk (e : Env) (σ : St) (w : World) (v : Value) (σ' : St) : Ending → World → Prop := fun en w' =>
  ∃ v' e', en = .returned v' ∧ WRel e' σ' w' ∧ Grow e σ w e' σ' w' ∧ VRel e' v v'
def Enters (P : Program) (k : FuncId) : Prop := ∃ fn c, P.funcs[k]? = some fn ∧ fn.body = some c ∧ (fn.name == "runtime.NumGoroutine") = false
def CallOk (P : Program) (k : FuncId) (args : List Value) (σ : St) (v : Value) (σ' : St) : Prop :=
  Enters P k ∧ ∀ e w args', WRel e σ w → LRel e args args' → CallsIn (FR none) 0 P k ⟨args'⟩ w (RetOk e σ w v σ')
def YieldOk (P : Program) (l : Nat) (args : List Value) (σ : St) (v : Value) (σ' : St) : Prop :=
  ∀ e w args' L, WRel e σ w → e l = some L → LRel e args args' → ∃ f tmps assign body, (Instr.yield L.b ⟨args'⟩).run P w = .ok (.round L.b f tmps assign body) w ∧ RoundIn (FR none) 0 P L.b f tmps assign body w (RetOk e σ w v σ')
inductive DRel (e : Env) : List Nat → List Deferred → Prop where
  | nil : DRel e [] []
  | cons {d : Nat} {D : LocE} {ds : List Nat} {l : List Deferred} (h : e d = some D) (hl : DRel e ds l) : DRel e (d :: ds) ({ target := .collected D.b, args := #[] } :: l)
theorem DRel.mono {e e' : Env} (he : e.le e') {ds : List Nat} {l : List Deferred} (h : DRel e ds l) : DRel e' ds l := by
  induction h with
  | nil => exact .nil
  | cons h _ ih => exact .cons (he _ _ h) ih
def RndOk (e : Env) : Option Nat → Fence → Prop
  | none, F => F = FR none
  | some l, F => ∃ L, e l = some L ∧ F = FR (some L.b)
theorem RndOk.mono {e e' : Env} (he : e.le e') {r : Option Nat} {F : Fence} (h : RndOk e r F) : RndOk e' r F := by
  cases r with
  | none => exact h
  | some l => obtain ⟨L, h1, h2⟩ := h; exact ⟨L, he _ _ h1, h2⟩
structure FrOk (kept : Kept) (e : Env) (fr : Fr) (F : Fence) (a : Act) (w : World) : Prop where
  w : WRel e fr.σ w
  t : ERel e [] fr.t a.tmps
  k : ∀ i v, fr.t.get i = some v → kept i = true
  r : RndOk e fr.rnd F
  d : DRel e fr.ds a.defers
def ExOk (kept : Kept) (e : Env) (fr : Fr) (F : Fence) (a : Act) (w : World) (ex : Exit) (fr' : Fr) : Exit → Act → World → Prop := fun ex' a' w' =>
  ex' = ex ∧ fr'.rnd = fr.rnd ∧ a'.tmps.size = a.tmps.size ∧ ∃ e', FrOk kept e' fr' F a' w' ∧ Grow e fr.σ w e' fr'.σ w'
/-- A loop, at the start of a round. -/
def LoopIn (F : Fence) (n : Nat) (P : Program) (c : Code) (Q : Exit → Act → World → Prop) (a : Act) (w : World) : Prop :=
  ∀ (b : Frame) (k : List Item) (cs : List Frame), b.roundOf = F.round → F.fn b.fn → F.room (cs.length + 1 + n) →
    ∃ e a' w', Q e a' w' ∧ ArrivesIn (Machine.fenced P F) P (lone (b.atR a (.code c :: .inLoop c :: k)) cs w) b k cs e a' w'
structure RecOk (P : Program) (rec : Rec) : Prop where
  call : ∀ k args σ r, rec (.call k args σ) = some r → ∃ v σ', r = .val v σ' ∧ CallOk P k args σ v σ'
  yield : ∀ l args σ r, rec (.yield l args σ) = some r → ∃ v σ', r = .val v σ' ∧ YieldOk P l args σ v σ'
  loop : ∀ c kept fr r, rec (.loop c kept fr) = some r → ∃ ex fr', r = .ex ex fr' ∧
    ∀ F e a w, FrOk kept e fr F a w → codeFits a.tmps.size c = true → LoopIn F 0 P c (ExOk kept e fr F a w ex fr') a w

theorem loop_unroll {F : Fence} {n : Nat} {c : Code} {Q : Exit → Act → World → Prop} {a : Act} {w : World} (h : c.wpIn F n P (Exit.then (LoopIn F n P c Q) Q) a w) : LoopIn F n P c Q a w := by
  intro b k cs hro hb hr
  obtain ⟨e, a₁, w₁, hq, harr⟩ := h b (.inLoop c :: k) cs hro hb hr
  cases e with
  | normal =>
    obtain ⟨e₂, a₂, w₂, hq₂, harr₂⟩ := hq b k cs hro hb hr
    exact ⟨e₂, a₂, w₂, hq₂, .of_steps (StepsIn.trans harr (.one (fenced_calm hb hr rfl) stepR_inLoop)) harr₂⟩
  | exit id => exact ⟨_, a₁, w₁, hq, .pass (x := .inLoop c) rfl (fun _ _ => .inl (by simp)) harr⟩
  | goto l => exact ⟨_, a₁, w₁, hq, .pass (x := .inLoop c) rfl (fun _ _ => .inl (by simp)) harr⟩
  | ret => exact ⟨_, a₁, w₁, hq, .pass (x := .inLoop c) rfl (fun _ _ => .inl (by simp)) harr⟩
  | panic ch => exact ⟨_, a₁, w₁, hq, .pass (x := .inLoop c) rfl (fun _ _ => .inl (by simp)) harr⟩
  | outgrown => exact ⟨_, a₁, w₁, hq, .pass (x := .inLoop c) rfl (fun _ _ => .inl (by simp)) harr⟩
theorem loop_start {F : Fence} {n : Nat} {c : Code} {Q : Exit → Act → World → Prop} {a : Act} {w : World} (h : LoopIn F n P c Q a w) : (Code.loop c).wpIn F n P Q a w := by
  intro b k cs hro hb hr
  obtain ⟨e, a', w', hq, harr⟩ := h b k cs hro hb hr
  exact ⟨e, a', w', hq, .of_steps (.one (fenced_calm hb hr rfl) stepR_loop) harr⟩

/-! ### Operations -/
theorem rho_rel {e : Env} {l : Loc} {t : Tr Value} {a : Act} (h : ERel e l t a.tmps) : RRel e (rho l t) a.eval := by
  intro x
  cases x with
  | tmp i => exact h i
  | const v =>
    show VRel e (bc (isFlat v) v poison) v
    rw [bc_eq]; split
    · rename_i hf; exact .flat e hf
    · exact .poison v
  | global g => exact .poison _
  | func f => exact .func f .nil .nil
theorem fnReq_eq {fn : Fn} {args cap : List Value} {σ : St} {q : Req} (h : fnReq fn args cap σ = some q) : (∃ k, fn = .func k ∧ q = .call k (args ++ cap) σ) ∨ ∃ l, fn = .yield l ∧ q = .yield l args σ := by
  cases fn with
  | func k => replace h : some (Req.call k (args ++ cap) σ) = some q := h; cases h; exact .inl ⟨k, rfl, rfl⟩
  | yield l => replace h : some (Req.yield l args σ) = some q := h; cases h; exact .inr ⟨l, rfl, rfl⟩
  | _ => cases h
theorem calleeOf_eq {op : Op} {c : Operand × List Operand} (h : calleeOf op = some c) : ∃ args ts, op = .call { callee := .value c.1, args := args, argTypes := ts } ∧ c.2 = args.toList := by
  cases op <;> try (cases h; done)
  rename_i cl
  obtain ⟨callee, args, ts⟩ := cl
  cases callee <;> try (cases h; done)
  rename_i f
  replace h : some (f, args.toList) = some c := h
  cases h
  exact ⟨args, ts, rfl, rfl⟩
theorem enter_run {k : FuncId} (h : Enters P k) (args : Array Value) (w : World) : (callFunc k args).run P w = .ok (.enter k args) w := by
  obtain ⟨fn, c, h1, h2, h3⟩ := h
  unfold callFunc
  have : (program : Sem Program).run P w = .ok P w := rfl
  simp only [Sem.run_bind, this, Result.andThen_ok, h1, h3, Bool.false_eq_true, if_false, h2, Option.isNone_some, Sem.run_pure]
theorem step_sound {rec : Rec} (hrec : RecOk P rec) {e : Env} {σ σ' : St} {w : World} (hW : WRel e σ w) {ρ : Rho} {a : Act} (hρ : RRel e ρ a.eval) {r : Option Nat} {o : Oper} {v : Value} (h : stepA P rec o ρ σ = some (v, σ'))
    {K : Act → World → Prop} {Q : Exit → Act → World → Prop} (hK : ∀ e' v' w', WRel e' σ' w' → Grow e σ w e' σ' w' → VRel e' v v' → K (a.put o.dst v') w') : o.wpIn (FR r) 0 P a w K Q := by
  unfold stepA at h
  refine ⟨fun _ _ => trivial, ?_⟩
  cases hc : calleeOf o.op with
  | none =>
    rw [hc] at h
    replace h : opA o.op P o.type ρ σ = some (v, σ') := h
    have hnd : ∀ c, o.op ≠ .defer c := fun c hc => by rw [hc] at h; cases h
    rw [Oper.semAt_eq _ _ _ hnd]
    obtain ⟨e', w', n, hr, h1, h2, h3⟩ := opA_sound (P := P) hW hρ o h
    rw [hr]
    rcases h3 with ⟨v', rfl, h3⟩ | ⟨rfl, rfl⟩
    · exact hK e' v' w' h1 h2 h3
    · exact hK e' undef w' h1 h2 (.undef _)
  | some c =>
    rw [hc] at h
    replace h : callA rec ρ σ c = some (v, σ') := h
    obtain ⟨args, ts, hop, hargs⟩ := calleeOf_eq hc
    have hnd : ∀ c, o.op ≠ .defer c := fun c hc => by rw [hc] at hop; cases hop
    rw [Oper.semAt_eq _ _ _ hnd]
    unfold callA at h
    rw [ob_eq] at h; obtain ⟨f, hf, h⟩ := h
    rw [ob_eq] at h; obtain ⟨q, hq, h⟩ := h
    rw [ob_eq] at h; obtain ⟨res, hres, h⟩ := h
    have hfv := hρ c.1
    rw [vFunc_eq hf] at hfv
    generalize hev : a.eval c.1 = fv at hfv
    obtain ⟨fn, ⟨f1⟩, ⟨f2⟩⟩ := f
    simp only at hq hfv
    have hargs' : args.map a.eval = ⟨args.toList.map a.eval⟩ := by apply Array.ext'; simp
    have hal := args_rel hρ args.toList
    rw [hargs] at hq
    rcases fnReq_eq hq with ⟨k, rfl, rfl⟩ | ⟨l, rfl, rfl⟩
    · cases hfv with
      | func k ha hb =>
        rename_i a1 b1
        obtain ⟨v1, σ1, rfl, hent, hcall⟩ := hrec.call _ _ _ _ hres
        replace h : some (v1, σ1) = some (v, σ') := h
        cases h
        have hcl := hcall e w _ hW ((ha.append hal).append hb)
        have hrun : (execOp a.eval o).run P w = .ok (.enter k ⟨a1 ++ args.toList.map a.eval ++ b1⟩) w := by
          unfold execOp
          rw [hop]
          simp only [resolve, Sem.run_bind, hargs', hev, Deferred.ofValue, Sem.run_pure, Result.andThen_ok, invoke]
          rw [enter_run hent]
          simp
        rw [hrun]
        refine ⟨fun h => (by cases h), ?_⟩
        refine CallsIn.mono hcl fun en w' he => ?_
        obtain ⟨v', e', rfl, h1, h2, h3⟩ := he
        exact hK e' v' w' h1 h2 h3
    · cases hfv with
      | yield hl ha hb =>
        rename_i L a1 b1
        obtain ⟨v1, σ1, rfl, hy⟩ := hrec.yield _ _ _ _ hres
        replace h : some (v1, σ1) = some (v, σ') := h
        cases h
        obtain ⟨fy, tmps, assign, body, hrun0, hround⟩ := hy e w _ L hW hl (ha.append hal)
        have hrun : (execOp a.eval o).run P w = .ok (.round L.b fy tmps assign body) w := by
          unfold execOp
          rw [hop]
          simp only [resolve, Sem.run_bind, hargs', hev, Deferred.ofValue, Sem.run_pure, Result.andThen_ok, invoke]
          simpa using hrun0
        rw [hrun]
        refine ⟨fun h => (by cases h), ?_⟩
        refine RoundIn.mono hround fun en w' he => ?_
        obtain ⟨v', e', rfl, h1, h2, h3⟩ := he
        exact hK e' v' w' h1 h2 h3
end Go.AM
