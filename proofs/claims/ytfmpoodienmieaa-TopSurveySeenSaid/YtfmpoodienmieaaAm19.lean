/- The abstract machine: operations that read at most, in another memory; stores; that a step goes through. -/
import Derived.Test.YtfmpoodienmieaaAm18
namespace Go.AM
variable {P : Program}
theorem readAt_place {h h' : Tr Blk} {i o n : Nat} {cs : List Value} (hp : ∀ B, h.get i = some B → h'.get i = some B) (hr : readAt h i o n = some cs) : readAt h' i o n = some cs := by
  unfold readAt at hr ⊢
  rw [bc_eq] at hr ⊢
  split
  · rename_i h0; rw [if_pos h0] at hr; exact hr
  · rename_i h0
    rw [if_neg h0] at hr
    rw [ob_eq] at hr ⊢
    obtain ⟨B, hB, hr⟩ := hr
    exact ⟨B, hp B hB, hr⟩
theorem loadA_place {t : TypeId} {h h' : Tr Blk} {a v : Value} (hp : ∀ p B, (vPtr a).map (·.1) = some p → h.get p = some B → h'.get p = some B) (hr : loadA P t h a = some v) : loadA P t h' a = some v := by
  unfold loadA at hr ⊢
  rw [ob_eq] at hr ⊢
  obtain ⟨p, hpa, hr⟩ := hr
  refine ⟨p, hpa, ?_⟩
  have hp' := fun B => hp p.1 B (by rw [hpa]; rfl)
  rw [ob_eq] at hr ⊢
  obtain ⟨s, hs, hr⟩ := hr
  refine ⟨s, hs, ?_⟩
  cases s with
  | none =>
    replace hr : ob (readAt h p.1 p.2 1) headOf = some v := hr
    show ob (readAt h' p.1 p.2 1) headOf = some v
    rw [ob_eq] at hr ⊢
    obtain ⟨cs, hc, hr⟩ := hr
    exact ⟨cs, readAt_place hp' hc, hr⟩
  | some n =>
    replace hr : om (readAt h p.1 p.2 n) (fun cs => Value.agg ⟨cs⟩) = some v := hr
    show om (readAt h' p.1 p.2 n) (fun cs => Value.agg ⟨cs⟩) = some v
    rw [om_eq] at hr ⊢
    obtain ⟨cs, hc, hr⟩ := hr
    exact ⟨cs, readAt_place hp' hc, hr⟩
theorem mapOf_place {h h' : Tr Blk} {m : Value} {es : List (Value × Value)} (hp : ∀ p B, (vMap m).bind id = some p → h.get p = some B → h'.get p = some B) (hr : mapOf h m = some es) : mapOf h' m = some es := by
  unfold mapOf at hr ⊢
  rw [ob_eq] at hr ⊢
  obtain ⟨r, hr1, hr⟩ := hr
  refine ⟨r, hr1, ?_⟩
  cases r with
  | none => exact hr
  | some i =>
    replace hr : ob (h.get i) bMap = some es := hr
    show ob (h'.get i) bMap = some es
    rw [ob_eq] at hr ⊢
    obtain ⟨B, hB, hr⟩ := hr
    exact ⟨B, hp i B (by rw [hr1]; rfl) hB, hr⟩
theorem lookupA_place {t : TypeId} {m k : Value} {ok : Bool} {h h' : Tr Blk} {v : Value} (hp : ∀ p B, (vMap m).bind id = some p → h.get p = some B → h'.get p = some B) (hr : lookupA P t m k ok h = some v) : lookupA P t m k ok h' = some v := by
  unfold lookupA at hr ⊢
  rw [ob_eq] at hr ⊢
  obtain ⟨q, hq, hr⟩ := hr
  refine ⟨q, hq, ?_⟩
  rw [ob_eq] at hr ⊢
  obtain ⟨es, he, hr⟩ := hr
  exact ⟨es, mapOf_place hp he, hr⟩
theorem sliceA_place {t : TypeId} {x : Value} {lo hi mx : Option Value} {h h' : Tr Blk} {v : Value} (hp : ∀ p B, ((vSlice x).bind (·.base)).map (·.1) = some p → h.get p = some B → h'.get p = some B) (hr : sliceA P h t x lo hi mx = some v) : sliceA P h' t x lo hi mx = some v := by
  unfold sliceA at hr ⊢
  rw [bc_eq] at hr ⊢
  split
  · rename_i h0; rw [if_pos h0] at hr; exact hr
  · rename_i h0
    rw [if_neg h0] at hr
    cases ha : arrayT P t with
    | some a => rw [ha] at hr; exact hr
    | none =>
      rw [ha] at hr
      replace hr : ob (sliceT P t) (fun s => ob (vSlice x) fun v => sliceSl h s.size v lo hi mx) = some v := hr
      show ob (sliceT P t) (fun s => ob (vSlice x) fun v => sliceSl h' s.size v lo hi mx) = some v
      rw [ob_eq] at hr ⊢
      obtain ⟨s, hs, hr⟩ := hr
      refine ⟨s, hs, ?_⟩
      rw [ob_eq] at hr ⊢
      obtain ⟨sv, hsv, hr⟩ := hr
      refine ⟨sv, hsv, ?_⟩
      unfold sliceSl at hr ⊢
      cases hb : sv.base with
      | none => rw [hb] at hr; exact hr
      | some p =>
        have hp' := fun B => hp p.1 B (by rw [hsv]; simp [hb])
        rw [hb] at hr
        have hz : sameZ h p.1 s.size = true → sameZ h' p.1 s.size = true := by
          unfold sameZ
          cases hB : h.get p.1 with
          | none => intro h; cases h
          | some B => rw [hp' B hB]; exact id
        cases hc : sv.cap with
        | succ c => rw [hc] at hr; exact hr
        | zero =>
          rw [hc] at hr
          replace hr : bc mx.isNone (bc (sameZ h p.1 s.size) (cutA s.size p.1 p.2 sv.len sv.len false lo hi mx) none) (bc (Nat.beq sv.len 0) none (cutA s.size p.1 p.2 sv.len sv.len true lo hi mx)) = some v := hr
          show bc mx.isNone (bc (sameZ h' p.1 s.size) (cutA s.size p.1 p.2 sv.len sv.len false lo hi mx) none) (bc (Nat.beq sv.len 0) none (cutA s.size p.1 p.2 sv.len sv.len true lo hi mx)) = some v
          rw [bc_eq] at hr ⊢
          split
          · rename_i hm
            rw [if_pos hm, bc_none] at hr
            rw [bc_none]
            exact ⟨hz hr.1, hr.2⟩
          · rename_i hm; rw [if_neg hm] at hr; exact hr
theorem lenOf_place {t : TypeId} {x : Value} {h h' : Tr Blk} {v : Value} (hp : ∀ p B, (vMap x).bind id = some p → h.get p = some B → h'.get p = some B) (hr : lenOf P t x h = some v) : lenOf P t x h' = some v := by
  unfold lenOf at hr ⊢
  cases ha : arrayT P t with
  | some a => rw [ha] at hr; exact hr
  | none =>
    rw [ha] at hr
    cases hs : vSlice x with
    | some s => rw [hs] at hr; exact hr
    | none =>
      rw [hs] at hr
      cases hst : vStr x with
      | some s => rw [hst] at hr; exact hr
      | none =>
        rw [hst] at hr
        replace hr : ob (mapT P t) (fun _ => ob (vMap x) fun r => oe r (some (goInt 0)) fun i => ob (h.get i) fun b => om (bMap b) fun es => goInt es.length) = some v := hr
        show ob (mapT P t) (fun _ => ob (vMap x) fun r => oe r (some (goInt 0)) fun i => ob (h'.get i) fun b => om (bMap b) fun es => goInt es.length) = some v
        rw [ob_eq] at hr ⊢
        obtain ⟨q, hq, hr⟩ := hr
        refine ⟨q, hq, ?_⟩
        rw [ob_eq] at hr ⊢
        obtain ⟨r, hr1, hr⟩ := hr
        refine ⟨r, hr1, ?_⟩
        cases r with
        | none => exact hr
        | some i =>
          replace hr : ob (h.get i) (fun b => om (bMap b) fun es => goInt es.length) = some v := hr
          show ob (h'.get i) (fun b => om (bMap b) fun es => goInt es.length) = some v
          rw [ob_eq] at hr ⊢
          obtain ⟨B, hB, hr⟩ := hr
          exact ⟨B, hp i B (by rw [hr1]; rfl) hB, hr⟩
theorem still_place {σ σ' τ : St} {r r' : Option Value} {v : Value} (h : still σ r = some (v, σ')) (hr : r = some v → r' = some v) : σ' = σ ∧ still τ r' = some (v, τ) := by
  rw [still_eq] at h
  exact ⟨h.2, by rw [still_eq]; exact ⟨hr h.1, rfl⟩⟩
theorem opA_place {op : Op} {ty : TypeId} {ρ : Rho} {σ σ' τ : St} {v : Value} (hk : Op.kindA op ≤ 1) (h : opA op P ty ρ σ = some (v, σ')) (hp : ∀ p B, placeOf ρ op = some p → σ.heap.get p = some B → τ.heap.get p = some B) :
    σ' = σ ∧ opA op P ty ρ τ = some (v, τ) := by
  cases op <;> try (exfalso; revert hk; simp only [Op.kindA]; omega)
  case move x => replace h : some (ρ x, σ) = some (v, σ') := h; cases h; exact ⟨rfl, rfl⟩
  case assign x => replace h : some (ρ x, σ) = some (v, σ') := h; cases h; exact ⟨rfl, rfl⟩
  case pick c a b =>
    replace h : om (vBool (ρ c)) (fun q => (bc q (ρ a) (ρ b), σ)) = some (v, σ') := h
    show _ ∧ om (vBool (ρ c)) (fun q => (bc q (ρ a) (ρ b), τ)) = some (v, τ)
    rw [om_eq] at h ⊢
    obtain ⟨q, hq, h⟩ := h
    cases h
    exact ⟨rfl, q, hq, rfl⟩
  case build t ps => exact still_place h id
  case load t a => exact still_place h fun hr => loadA_place (fun p B hpp => hp p B hpp) hr
  case nilCheck x =>
    replace h : om (vPtr (ρ x)) (fun _ => (ρ x, σ)) = some (v, σ') := h
    show _ ∧ om (vPtr (ρ x)) (fun _ => (ρ x, τ)) = some (v, τ)
    rw [om_eq] at h ⊢
    obtain ⟨q, hq, h⟩ := h
    cases h
    exact ⟨rfl, q, hq, rfl⟩
  case binOp op xt x y yt => exact still_place h id
  case unOp op t x => exact still_place h id
  case sliceToArrayPointer t x =>
    replace h : opToArr t x P ty ρ σ = some (v, σ') := h
    show _ ∧ opToArr t x P ty ρ τ = some (v, τ)
    unfold opToArr at h ⊢
    rw [ob_eq] at h ⊢
    obtain ⟨a, ha, h⟩ := h
    rw [ob_eq] at h
    obtain ⟨s, hs, h⟩ := h
    rw [ob_eq] at h
    obtain ⟨p, hpp, h⟩ := h
    rw [bc_none, bc_none] at h
    obtain ⟨h1, h2, h⟩ := h
    cases h
    refine ⟨rfl, a, ha, ?_⟩
    rw [ob_eq]
    refine ⟨s, hs, ?_⟩
    rw [ob_eq]
    refine ⟨p, hpp, ?_⟩
    rw [bc_none, bc_none]
    exact ⟨h1, h2, rfl⟩
  case makeFunc f a b =>
    cases f <;> try (cases h; done)
    rename_i k
    replace h : some (Value.func (.func k) ⟨a.toList.map ρ⟩ ⟨b.toList.map ρ⟩, σ) = some (v, σ') := h
    cases h
    exact ⟨rfl, rfl⟩
  case slice t x lo hi mx => exact still_place h fun hr => sliceA_place (fun p B hpp => hp p B hpp) hr
  case fieldAddr s x f => exact still_place h id
  case field s x f => exact still_place h id
  case indexAddr t x ix => exact still_place h id
  case index t x ix => exact still_place h id
  case lookup t x k ok => exact still_place h fun hr => lookupA_place (fun p B hpp => hp p B hpp) hr
  case extract x i =>
    replace h : ob (vTup (ρ x)) (fun vs => still σ (headOf (dropL i vs))) = some (v, σ') := h
    show _ ∧ ob (vTup (ρ x)) (fun vs => still τ (headOf (dropL i vs))) = some (v, τ)
    rw [ob_eq] at h ⊢
    obtain ⟨vs, hvs, h⟩ := h
    have := still_place (τ := τ) h id
    exact ⟨this.1, vs, hvs, this.2⟩
  case call c =>
    obtain ⟨callee, args, ts⟩ := c
    cases callee <;> try (exfalso; revert hk; simp only [Op.kindA]; omega)
    rename_i b
    cases b <;> try (exfalso; revert hk; simp only [Op.kindA]; omega)
    case len =>
      replace h : arg1 ts.toList (fun t => arg1 (args.toList.map ρ) fun x => still σ (lenOf P t x σ.heap)) = some (v, σ') := h
      show _ ∧ arg1 ts.toList (fun t => arg1 (args.toList.map ρ) fun x => still τ (lenOf P t x τ.heap)) = some (v, τ)
      obtain ⟨t, r, ht, h⟩ := arg1_eq h
      obtain ⟨x, r', hx, h⟩ := arg1_eq h
      have hpl : placeOf ρ (.call { callee := .builtin .len, args := args, argTypes := ts }) = (vMap x).bind id := by
        show ((args.toList.head?).bind fun x => (vMap (ρ x)).bind id) = _
        cases ha : args.toList with
        | nil => rw [ha] at hx; simp at hx
        | cons a q => rw [ha] at hx; simp at hx; simp [hx.1]
      have := still_place (τ := τ) h fun hr => lenOf_place (fun p B hpp => hp p B (by rw [hpl]; exact hpp)) hr
      rw [ht, hx]
      exact this
    case cap =>
      replace h : arg1 ts.toList (fun t => arg1 (args.toList.map ρ) fun x => still σ (capA P t x)) = some (v, σ') := h
      show _ ∧ arg1 ts.toList (fun t => arg1 (args.toList.map ρ) fun x => still τ (capA P t x)) = some (v, τ)
      obtain ⟨t, r, ht, h⟩ := arg1_eq h
      obtain ⟨x, r', hx, h⟩ := arg1_eq h
      have := still_place (τ := τ) h id
      rw [ht, hx]
      exact this
    case min =>
      replace h : bc (allFlat (args.toList.map ρ)) (still σ (flatOnly (prun P (Builtin.min_ ts.toList.toArray ty (args.toList.map ρ).toArray)))) none = some (v, σ') := h
      show _ ∧ bc (allFlat (args.toList.map ρ)) (still τ (flatOnly (prun P (Builtin.min_ ts.toList.toArray ty (args.toList.map ρ).toArray)))) none = some (v, τ)
      rw [bc_none] at h ⊢
      have := still_place (τ := τ) h.2 id
      exact ⟨this.1, h.1, this.2⟩
    case max =>
      replace h : bc (allFlat (args.toList.map ρ)) (still σ (flatOnly (prun P (Builtin.max_ ts.toList.toArray ty (args.toList.map ρ).toArray)))) none = some (v, σ') := h
      show _ ∧ bc (allFlat (args.toList.map ρ)) (still τ (flatOnly (prun P (Builtin.max_ ts.toList.toArray ty (args.toList.map ρ).toArray)))) none = some (v, τ)
      rw [bc_none] at h ⊢
      have := still_place (τ := τ) h.2 id
      exact ⟨this.1, h.1, this.2⟩
end Go.AM
