/- The abstract machine: a range over a function. -/
import Derived.Test.YtfmpoodienmieaaAm14
namespace Go.AM
variable {P : Program}
theorem callReq_eq {fn : Fn} {args cap : List Value} {σ : St} {q : Req} (h : callReq fn args cap σ = some q) : ∃ k, fn = .func k ∧ q = .call k (args ++ cap) σ := by
  cases fn with
  | func k => replace h : some (Req.call k (args ++ cap) σ) = some q := h; cases h; exact ⟨k, rfl, rfl⟩
  | _ => cases h
theorem bLoop_eq {B : Blk} {lb : LoopB} (h : bLoop B = some lb) : B = lb.blk := by
  cases B <;> try (cases h; done)
  rename_i a b c d e f g i j
  replace h : some (⟨a, b, c, d, e, f, g, i, j⟩ : LoopB) = some lb := h
  cases h; rfl
/-- The record of a loop in the model's memory. -/
theorem loop_of {e : Env} {σ : St} {w : World} (hW : WRel e σ w) {l : Nat} {L : LocE} {lb : LoopB} (hL : e l = some L) (hB : σ.heap.get l = some lb.blk) :
    ∃ (tmps : Array Value) (D : LocE) (fn' : FuncId), w.heap[L.b]? = some (.loop { state := lb.st, pending := lb.pend, fn := fn', tmps := tmps, params := ⟨lb.params⟩, assign := lb.assign, body := lb.body, defers := D.b }) ∧
      e lb.defers = some D ∧ ERel e [] lb.t tmps ∧ (∀ i v, lb.t.get i = some v → lb.kept i = true) ∧ lb.params.all (Nat.blt · tmps.size) = true ∧ codeFits tmps.size lb.assign = true ∧ codeFits tmps.size lb.body = true := by
  have hb := hW.blk l L _ hL hB
  unfold LoopB.blk at hb
  generalize hob : w.heap[L.b]? = ob at hb
  cases hb with
  | loop hd ht hk hp ha hb => exact ⟨_, _, _, rfl, hd, ht, hk, hp, ha, hb⟩
theorem setLoop_sound {e : Env} {σ σ' : St} {w : World} (hW : WRel e σ w) {l : Nat} {L : LocE} {lb : LoopB} (hL : e l = some L) (hB : σ.heap.get l = some lb.blk) {st : LoopState} {pend : Option Code} (h : setBlk σ l ({ lb with st := st, pend := pend } : LoopB).blk = some σ')
    {r : Loop} (hr : w.heap[L.b]? = some (.loop r)) : WRel e σ' (w.putObj L.b (.loop { r with state := st, pending := pend })) ∧ Grow e σ w e σ' (w.putObj L.b (.loop { r with state := st, pending := pend })) := by
  obtain ⟨hwall, rfl⟩ := setBlk_eq h
  obtain ⟨tmps, D, fn', hob, hd, ht, hk, hp, ha, hb⟩ := loop_of hW hL hB
  rw [hr] at hob
  cases hob
  have hlt : L.b < w.heap.size := (Array.getElem?_eq_some_iff.1 hr).1
  refine upd_sound hW hL hB rfl hwall ?_ (fun k hk => World.putObj_heap_other hk) World.putObj_size rfl rfl rfl
  rw [World.putObj_heap_same hlt]
  exact .loop hd ht hk hp ha hb
theorem enter_sound {kept : Kept} {e : Env} {fr : Fr} {F : Fence} {a : Act} {w : World} (hF : FrOk kept e fr F a w) {ps : Array Tmp} {assign body : Code} {f : Operand} (hf : codeFits a.tmps.size (.rangeFunc f ps assign body) = true) {l : Nat × St}
    (h : enterA kept fr ps.toList assign body = some l) (fn : FuncId) : ∃ (L : LocE) (mark : List Deferred) (w1 : World) (e1 : Env), (Instr.enterLoop fn a.tmps ps assign body F.round).run P w = .ok (L.b, mark) w1 ∧ WRel e1 l.2 w1 ∧ Grow e fr.σ w e1 l.2 w1 ∧ e1 l.1 = some L ∧
      DRel e1 (oe fr.rnd (fr.σ.next :: fr.ds) fun _ => fr.ds) (mark ++ a.defers) := by
  have hf3 : (ps.toList.all (Nat.blt · a.tmps.size) = true ∧ codeFits a.tmps.size assign = true) ∧ codeFits a.tmps.size body = true := by simpa [codeFits] using hf
  obtain ⟨⟨hp, ha⟩, hb⟩ := hf3
  unfold enterA at h
  have hr := hF.r
  cases hrnd : fr.rnd with
  | none =>
    rw [hrnd] at h hr
    replace h : some (Nat.succ fr.σ.next, newBlk (newBlk fr.σ .defer) (.loop .ready none kept fr.fn fr.t ps.toList assign body fr.σ.next)) = some l := h
    cases h
    subst hr
    obtain ⟨x1, x2⟩ := new_sound hF.w (L := ⟨w.heap.size, 0, 0, 0⟩) (B := .defer) (o := .deferred (some [])) rfl .defer
    have hle := x2.env
    have hself := Env.add_self e fr.σ.next ⟨w.heap.size, 0, 0, 0⟩
    obtain ⟨y1, y2⟩ := new_sound x1 (L := ⟨(w.alloc (.deferred (some []))).heap.size, 0, 0, 0⟩)
      (B := .loop .ready none kept fr.fn fr.t ps.toList assign body fr.σ.next) (o := .loop { state := .ready, pending := none, fn := fn, tmps := a.tmps, params := ⟨ps.toList⟩, assign := assign, body := body, defers := w.heap.size })
      rfl (.loop (D := ⟨w.heap.size, 0, 0, 0⟩) hself (hF.t.mono hle) hF.k hp ha hb)
    refine ⟨⟨(w.alloc (.deferred (some []))).heap.size, 0, 0, 0⟩, [{ target := .collected w.heap.size, args := #[] }], _, _, ?_, y1, x2.trans y2, Env.add_self _ _ _, ?_⟩
    · have := run_enterLoop_outer (P := P) (w := w) fn a.tmps ps assign body
      rw [World.size_alloc]
      exact this
    · exact .cons (D := ⟨w.heap.size, 0, 0, 0⟩) (y2.env _ _ hself) (hF.d.mono (x2.env.trans y2.env))
  | some r =>
    rw [hrnd] at h hr
    obtain ⟨R, hR, rfl⟩ := hr
    replace h : ob (fr.σ.heap.get r) (fun b => ob (bLoop b) fun lb => some (fr.σ.next, newBlk fr.σ (.loop .ready none kept fr.fn fr.t ps.toList assign body lb.defers))) = some l := h
    rw [ob_eq] at h; obtain ⟨B, hB, h⟩ := h
    rw [ob_eq] at h; obtain ⟨lb, hlb, h⟩ := h
    cases h
    have := bLoop_eq hlb
    subst this
    obtain ⟨tmps, D, fn', hob, hd, _⟩ := loop_of hF.w hR hB
    obtain ⟨y1, y2⟩ := new_sound hF.w (L := ⟨w.heap.size, 0, 0, 0⟩)
      (B := .loop .ready none kept fr.fn fr.t ps.toList assign body lb.defers) (o := .loop { state := .ready, pending := none, fn := fn, tmps := a.tmps, params := ⟨ps.toList⟩, assign := assign, body := body, defers := D.b })
      rfl (.loop hd hF.t hF.k hp ha hb)
    refine ⟨⟨w.heap.size, 0, 0, 0⟩, [], _, _, ?_, y1, y2, Env.add_self _ _ _, hF.d.mono y2.env⟩
    simp only [FR, Instr.enterLoop, Sem.run_bind, run_getLoop hob, run_newObj_alloc, Result.andThen, Sem.run_pure]
theorem FrOk.fr {kept : Kept} {e : Env} {fr : Fr} {F : Fence} {a : Act} {w : World} (h : FrOk kept e fr F a w) : ∃ r, F = FR r := by
  have := h.r
  cases hr : fr.rnd with
  | none => rw [hr] at this; exact ⟨none, this⟩
  | some l => rw [hr] at this; obtain ⟨L, _, h⟩ := this; exact ⟨_, h⟩
theorem range_sound {rec : Rec} (hrec : RecOk P rec) : RangeOk P rec := by
  intro f ps assign body ea eb kept e fr fr' F a w ex hF hf h
  replace h : ob (vFunc (rho [] fr.t f)) (fun g => ob (enterA kept fr ps.toList assign body) fun l =>
    ob (callReq g.1 (g.2.1.toList ++ [.func (.yield l.1) #[] #[]]) g.2.2.toList l.2) fun q => ob (rec q) fun r => ob (rVal r) fun r => ob (leaveA l.1 r.2) fun j =>
      om (jumpExit j.1) fun e => (e, { fr with σ := j.2, ds := oe fr.rnd (fr.σ.next :: fr.ds) fun _ => fr.ds })) = some (ex, fr') := h
  rw [ob_eq] at h; obtain ⟨g, hg, h⟩ := h
  rw [ob_eq] at h; obtain ⟨l, hl, h⟩ := h
  rw [ob_eq] at h; obtain ⟨q, hq, h⟩ := h
  rw [ob_eq] at h; obtain ⟨r, hr, h⟩ := h
  rw [ob_eq] at h; obtain ⟨p, hp, h⟩ := h
  rw [ob_eq] at h; obtain ⟨j, hj, h⟩ := h
  rw [om_eq] at h; obtain ⟨x, hx, h⟩ := h
  cases h
  obtain ⟨fn, ⟨f1⟩, ⟨f2⟩⟩ := g
  simp only at hq
  obtain ⟨k, rfl, rfl⟩ := callReq_eq hq
  obtain ⟨v, σ1, rfl, hent, hcall⟩ := hrec.call _ _ _ _ hr
  replace hp : some (v, σ1) = some p := hp
  cases hp
  have hfv := rho_rel hF.t f
  rw [vFunc_eq hg] at hfv
  generalize hev : a.eval f = fv at hfv
  cases hfv with
  | func k ha hb =>
    rename_i a1 b1
    refine wpIn_rangeFunc fun fnn _ => ?_
    obtain ⟨L, mark, w1, e1, hrun, hW1, hG1, hL1, hD1⟩ := enter_sound (P := P) hF hf hl fnn
    have hyv : VRel e1 (.func (.yield l.1) #[] #[]) (.func (.yield L.b) #[] #[]) := .yield hL1 .nil .nil
    have hargs := ((ha.mono hG1.env).append (.cons hyv .nil)).append (hb.mono hG1.env)
    have hcl := hcall e1 w1 _ hW1 hargs
    obtain ⟨rr, rfl⟩ := hF.fr
    have hm : (#[Operand.const (.func (.yield L.b) #[] #[])]).map a.eval = #[.func (.yield L.b) #[] #[]] := by simp [Act.eval]
    refine ⟨L.b, mark, w1, { target := .fn (.func k) ⟨b1⟩, args := ⟨a1⟩ ++ #[.func (.yield L.b) #[] #[]] }, w1, k, ⟨a1 ++ [.func (.yield L.b) #[] #[]] ++ b1⟩, w1, hrun, ?_, fun _ _ => trivial, ?_, fun hd => (by cases hd), ?_⟩
    · simp only [resolve, hm, hev, Deferred.ofValue, Sem.run_pure]
    · simp only [invoke]
      rw [enter_run hent]
      simp
    · refine CallsIn.mono hcl fun en w3 he => ?_
      obtain ⟨v', e3, rfl, hW3, hG3, hv3⟩ := he
      replace hj : ob (σ1.heap.get l.1) (fun b => ob (bLoop b) fun lb => bc (notBusy lb.st) (om (setBlk σ1 l.1 ({ lb with st := .exhausted } : LoopB).blk) fun s => (lb.pend, s)) none) = some j := hj
      rw [ob_eq] at hj; obtain ⟨B, hB, hj⟩ := hj
      rw [ob_eq] at hj; obtain ⟨lb, hlb, hj⟩ := hj
      rw [bc_none] at hj; obtain ⟨hnb, hj⟩ := hj
      rw [om_eq] at hj; obtain ⟨s, hs, hj⟩ := hj
      subst hj
      have := bLoop_eq hlb
      subst this
      have hL3 := hG3.env _ _ hL1
      obtain ⟨tmps, D, fn', hob, _⟩ := loop_of hW3 hL3 hB
      have hset := setLoop_sound hW3 hL3 hB (st := .exhausted) (pend := lb.pend) hs hob
      have hbusy : lb.st ≠ .busy := by intro hb; rw [hb] at hnb; cases hnb
      have hend := run_endLoop (P := P) hob hbusy
      have hgrow : Grow e fr.σ w e3 s _ := (hG1.trans hG3).trans hset.2
      have hFr : FrOk kept e3 { fr with σ := s, ds := oe fr.rnd (fr.σ.next :: fr.ds) fun _ => fr.ds } (FR rr) { a with defers := mark ++ a.defers } _ :=
        ⟨hset.1, hF.t.mono hgrow.env, hF.k, hF.r.mono hgrow.env, hD1.mono hG3.env⟩
      refine ⟨lb.pend, _, hend, ?_⟩
      simp only at hx
      cases hpd : lb.pend with
      | none =>
        rw [hpd] at hx
        replace hx : some Exit.normal = some ex := hx
        cases hx
        rw [hpd] at hFr hgrow
        exact ⟨rfl, rfl, rfl, e3, hFr, hgrow⟩
      | some c =>
        rw [hpd] at hx hFr hgrow
        cases c <;> try (cases hx; done)
        · rename_i id
          replace hx : some (Exit.exit id) = some ex := hx
          cases hx
          exact wpIn_exit ⟨rfl, rfl, rfl, e3, hFr, hgrow⟩
        · replace hx : some Exit.ret = some ex := hx
          cases hx
          exact wpIn_ret ⟨rfl, rfl, rfl, e3, hFr, hgrow⟩
end Go.AM
