/- The abstract machine: stores; that a step goes through; facts of a plan. -/
import Derived.Test.YtfmpoodienmieaaAm19
namespace Go.AM
variable {P : Program}
theorem writeAt_other {σ σ' : St} {i o : Nat} {vs : List Value} (h : writeAt σ i o vs = some σ') : σ'.next = σ.next ∧ ∀ x, x ≠ i → σ'.heap.get x = σ.heap.get x := by
  unfold writeAt at h
  rw [bc_eq] at h
  split at h
  · cases h; exact ⟨rfl, fun _ _ => rfl⟩
  · rw [ob_eq] at h; obtain ⟨B, hB, h⟩ := h
    rw [ob_eq] at h; obtain ⟨c, hc, h⟩ := h
    rw [bc_none', bc_none, bc_none, bc_none] at h
    obtain ⟨_, _, _, _, h⟩ := h
    cases h
    exact ⟨rfl, fun x hx => by show (σ.heap.put i _).get x = _; rw [get_put, if_neg (Ne.symm hx)]⟩
theorem setBlk_other {σ σ' : St} {i : Nat} {B : Blk} (h : setBlk σ i B = some σ') : σ'.next = σ.next ∧ ∀ x, x ≠ i → σ'.heap.get x = σ.heap.get x := by
  obtain ⟨_, rfl⟩ := setBlk_eq h
  exact ⟨rfl, fun x hx => by show (σ.heap.put i _).get x = _; rw [get_put, if_neg (Ne.symm hx)]⟩
theorem opA_store {op : Op} {ty : TypeId} {ρ : Rho} {σ σ' : St} {v : Value} (hk : Op.kindA op = 3) (h : opA op P ty ρ σ = some (v, σ')) : ∃ q, placeOf ρ op = some q ∧ ∀ x, x ≠ q → σ'.heap.get x = σ.heap.get x := by
  cases op <;> try (exfalso; revert hk; simp only [Op.kindA]; omega)
  case store t a x =>
    replace h : done (storeA P t (ρ a) (ρ x) σ) = some (v, σ') := h
    rw [done_eq] at h; obtain ⟨h, _⟩ := h
    unfold storeA at h
    rw [ob_eq] at h; obtain ⟨p, hp, h⟩ := h
    rw [ob_eq] at h; obtain ⟨n, hn, h⟩ := h
    rw [bc_none] at h
    exact ⟨p.1, by show (vPtr (ρ a)).map (·.1) = _; rw [hp]; rfl, (writeAt_other h.2).2⟩
  case mapUpdate t m k x =>
    replace h : done (mapUpdateA P t (ρ m) (ρ k) (ρ x) σ) = some (v, σ') := h
    rw [done_eq] at h; obtain ⟨h, _⟩ := h
    unfold mapUpdateA at h
    rw [ob_eq] at h; obtain ⟨q, hq, h⟩ := h
    rw [ob_eq] at h; obtain ⟨o, ho, h⟩ := h
    rw [ob_eq] at h; obtain ⟨i, hi, h⟩ := h
    rw [ob_eq] at h; obtain ⟨B, hB, h⟩ := h
    rw [ob_eq] at h; obtain ⟨es, hes, h⟩ := h
    rw [ob_eq] at h; obtain ⟨r, hr, h⟩ := h
    refine ⟨i, by show (vMap (ρ m)).bind id = _; rw [ho, hi]; rfl, ?_⟩
    cases r with
    | none =>
      replace h : setBlk σ i (.map (es ++ [(ρ k, ρ x)])) = some σ' := h
      exact (setBlk_other h).2
    | some p =>
      replace h : bc (Instr.sameBits 10000 (oe (es[p.1]?) (ρ k) fun e => e.1) (ρ k)) (setBlk σ i (.map (es.set p.1 (ρ k, ρ x)))) none = some σ' := h
      rw [bc_none] at h
      exact (setBlk_other h.2).2
  case call c =>
    obtain ⟨callee, args, ts⟩ := c
    cases callee <;> try (exfalso; revert hk; simp only [Op.kindA]; omega)
    rename_i b
    cases b <;> (exfalso; revert hk; simp only [Op.kindA]; omega)
theorem kind_call {o : Oper} (h : Op.kindA o.op ≤ 3) : calleeOf o.op = none := by
  obtain ⟨dst, op, type, pos, after, guard⟩ := o
  simp only at h ⊢
  cases op <;> try rfl
  rename_i c
  obtain ⟨callee, args, ts⟩ := c
  cases callee with
  | value f => exfalso; revert h; simp only [Op.kindA]; omega
  | _ => rfl
theorem stepA_op {rec : Rec} {o : Oper} (h : Op.kindA o.op ≤ 3) (ρ : Rho) (σ : St) : stepA P rec o ρ σ = opA o.op P o.type ρ σ := by
  unfold stepA
  rw [kind_call h]
  rfl
/-- Wherever the memories are related, a step goes through. -/
theorem step_exists {rec : Rec} (hrec : RecOk P rec) {e : Env} {σ σ' : St} {w : World} (hW : WRel e σ w) {ρ ρ' : Rho} (hρ : RRel e ρ ρ') {o : Oper} {v : Value} (h : stepA P rec o ρ σ = some (v, σ')) :
    ∃ e' v' w', WRel e' σ' w' ∧ Grow e σ w e' σ' w' ∧ VRel e' v v' := by
  unfold stepA at h
  cases hc : calleeOf o.op with
  | none =>
    rw [hc] at h
    replace h : opA o.op P o.type ρ σ = some (v, σ') := h
    obtain ⟨e', w', n, hr, h1, h2, h3⟩ := opA_sound (P := P) hW hρ o h
    rcases h3 with ⟨v', rfl, h3⟩ | ⟨rfl, rfl⟩
    · exact ⟨e', v', w', h1, h2, h3⟩
    · exact ⟨e', undef, w', h1, h2, .undef _⟩
  | some c =>
    rw [hc] at h
    replace h : callA rec ρ σ c = some (v, σ') := h
    unfold callA at h
    rw [ob_eq] at h; obtain ⟨f, hf, h⟩ := h
    rw [ob_eq] at h; obtain ⟨q, hq, h⟩ := h
    rw [ob_eq] at h; obtain ⟨res, hres, h⟩ := h
    have hfv := hρ c.1
    rw [vFunc_eq hf] at hfv
    generalize ρ' c.1 = fv at hfv
    obtain ⟨fn, ⟨f1⟩, ⟨f2⟩⟩ := f
    simp only at hq hfv
    have hal := args_rel hρ c.2
    rcases fnReq_eq hq with ⟨k, rfl, rfl⟩ | ⟨l, rfl, rfl⟩
    · cases hfv with
      | func k ha hb =>
        obtain ⟨v1, σ1, rfl, hent, hcall⟩ := hrec.call _ _ _ _ hres
        replace h : some (v1, σ1) = some (v, σ') := h
        cases h
        obtain ⟨_, hcl⟩ := hcall e w _ hW ((ha.append hal).append hb)
        obtain ⟨en, w', fr, hR, _⟩ := hcl [] (fun d hd => by cases hd)
        obtain ⟨v', e', rfl, h1, h2, h3⟩ := hR
        exact ⟨e', v', w', h1, h2, h3⟩
    · cases hfv with
      | yield hl ha hb =>
        obtain ⟨v1, σ1, rfl, hy⟩ := hrec.yield _ _ _ _ hres
        replace h : some (v1, σ1) = some (v, σ') := h
        cases h
        obtain ⟨fy, tmps, assign, body, hrun0, _, hround⟩ := hy e w _ _ hW hl (ha.append hal)
        obtain ⟨en, w', hR, _⟩ := hround default [] (fun d hd => by cases hd)
        obtain ⟨v', e', rfl, h1, h2, h3⟩ := hR
        exact ⟨e', v', w', h1, h2, h3⟩
/-- What of an operation is in its slots. -/
def names (ops : List Oper) (o : Oper) (s : Tmp) : Prop := o.dst = some s ∨ Operand.tmp s ∈ o.op.operands.toList ∨ ∃ g, guardOf ops o = some g ∧ g.1 = some s
theorem Act.eval_tmp (a : Act) (s : Tmp) : a.eval (.tmp s) = a.tmps.getD s undef := rfl
/-- The operands that an operation looks at are related where its slots are. -/
theorem oper_rel {e : Env} {ops : List Oper} {o : Oper} {l : Loc} {t : Tr Value} {a : Act} (h : ∀ s, names ops o s → VRel e (slot s l t) (a.tmps.getD s undef)) : ∀ x ∈ o.op.operands.toList, VRel e (rho l t x) (a.eval x) := by
  intro x hx
  cases x with
  | tmp i => exact h i (.inr (.inl hx))
  | const v =>
    show VRel e (bc (isFlat v) v poison) v
    rw [bc_eq]; split
    · rename_i hf; exact .flat e hf
    · exact .poison v
  | global g => exact .poison _
  | func f => exact .func f .nil .nil
open Classical in
/-- The same, of all operands, but that others than the operation's are not known. -/
noncomputable def cutRho (o : Oper) (ρ : Rho) : Rho := fun x => if x ∈ o.op.operands.toList then ρ x else poison
theorem cutRho_rel {e : Env} {o : Oper} {ρ ρ' : Rho} (h : ∀ x ∈ o.op.operands.toList, VRel e (ρ x) (ρ' x)) : RRel e (cutRho o ρ) ρ' := by
  intro x
  unfold cutRho
  split
  · rename_i hx; exact h x hx
  · exact .poison _
theorem cutRho_eq (o : Oper) (ρ : Rho) : ∀ x ∈ o.op.operands.toList, ρ x = cutRho o ρ x := fun x hx => by unfold cutRho; rw [if_pos hx]
end Go.AM
