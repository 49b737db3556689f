/- The abstract machine: rounds, loops. -/
import Derived.Test.YtfmpoodienmieaaAm15
namespace Go.AM
variable {P : Program}
theorem setTmps_sound {e : Env} {kept : Kept} : ∀ (ps : List (Tmp × Value)) (qs : List (Tmp × Value)) (t : Tr Value) (tmps : Array Value), ps.map (·.1) = qs.map (·.1) → LRel e (ps.map (·.2)) (qs.map (·.2)) → (∀ p ∈ ps, p.1 < tmps.size) →
    ERel e [] t tmps → (∀ i v, t.get i = some v → kept i = true) →
    ERel e [] (setTmps kept ps t) (qs.foldl (fun tmps (t, a) => tmps.setIfInBounds t a) tmps) ∧ (∀ i v, (setTmps kept ps t).get i = some v → kept i = true) ∧ (qs.foldl (fun tmps (t, a) => tmps.setIfInBounds t a) tmps).size = tmps.size := by
  intro ps
  induction ps with
  | nil =>
    intro qs t tmps h1 h2 h3 h4 h5
    have : qs = [] := by simpa using h1.symm
    subst this
    exact ⟨h4, h5, rfl⟩
  | cons p ps ih =>
    intro qs t tmps h1 h2 h3 h4 h5
    cases qs with
    | nil => simp at h1
    | cons q qs =>
      simp only [List.map_cons, List.cons.injEq] at h1
      cases h2 with
      | cons hv hl =>
        have hlt := h3 p (List.mem_cons_self ..)
        have key : ERel e [] (bc (kept p.1) (t.put p.1 p.2) t) (tmps.setIfInBounds q.1 q.2) ∧ (∀ i v, (bc (kept p.1) (t.put p.1 p.2) t).get i = some v → kept i = true) := by
          rw [bc_eq, ← h1.1]
          split
          · rename_i hk
            refine ⟨fun i => ?_, fun i v hi => ?_⟩
            · rw [slot_eq, lget_nil, get_put, Array.getD_eq_getD_getElem?, Array.getElem?_setIfInBounds]
              by_cases hi : p.1 = i
              · subst hi; simp [hlt]; exact hv
              · have := h4 i
                rw [slot_eq, lget_nil, Array.getD_eq_getD_getElem?] at this
                simp [hi]; simpa using this
            · rw [get_put] at hi
              split at hi
              · rename_i he; subst he; exact hk
              · exact h5 i v hi
          · rename_i hk
            refine ⟨fun i => ?_, h5⟩
            rw [slot_eq, lget_nil, Array.getD_eq_getD_getElem?, Array.getElem?_setIfInBounds]
            by_cases hi : p.1 = i
            · subst hi
              have ht : t.get p.1 = none := by
                cases ht : t.get p.1 with
                | none => rfl
                | some u => exact absurd (h5 _ _ ht) hk
              rw [ht]; exact .poison _
            · have := h4 i
              rw [slot_eq, lget_nil, Array.getD_eq_getD_getElem?] at this
              simp [hi]; simpa using this
        obtain ⟨r1, r2, r3⟩ := ih qs (bc (kept p.1) (t.put p.1 p.2) t) (tmps.setIfInBounds q.1 q.2) h1.2 hl (fun p hp => by simp; exact h3 p (List.mem_cons_of_mem _ hp)) key.1 key.2
        exact ⟨r1, r2, by rw [List.foldl_cons, r3]; simp⟩
theorem zip_fst {α β : Type} : ∀ (l : List α) (m : List β), m.length = l.length → (l.zip m).map (·.1) = l := by
  intro l
  induction l with
  | nil => intro m _; rfl
  | cons a l ih => intro m h; cases m with
    | nil => simp at h
    | cons b m => simp; exact ih m (by simpa using h)
theorem zip_snd {α β : Type} : ∀ (l : List α) (m : List β), m.length = l.length → (l.zip m).map (·.2) = m := by
  intro l
  induction l with
  | nil => intro m h; cases m with
    | nil => rfl
    | cons => simp at h
  | cons a l ih => intro m h; cases m with
    | nil => simp at h
    | cons b m => simp; exact ih m (by simpa using h)
theorem yield_sound {rec : Rec} (hrec : RecOk P rec) (hdraw : DrawOk P rec) {l : Nat} {args : List Value} {σ : St} {r : Res} (h : doYield P rec l args σ = some r) : ∃ v σ', r = .val v σ' ∧ YieldOk P l args σ v σ' := by
  unfold doYield at h
  rw [ob_eq] at h; obtain ⟨B, hB, h⟩ := h
  cases B <;> try (cases h; done)
  rename_i st0 pend0 kept fn t params assign body d
  replace h : bc (Nat.beq args.length params.length)
    (ob (execA P rec assign kept { t := setTmps kept (params.zip args) t, σ := σ, fn := fn, rnd := some l, ds := [] }) fun r => bodyRoundA P rec l kept body r.1 r.2) none = some r := h
  rw [bc_none] at h; obtain ⟨hlen, h⟩ := h
  replace hlen : args.length = params.length := by simpa using hlen
  rw [ob_eq] at h; obtain ⟨⟨ex1, fr1⟩, h1, h⟩ := h
  unfold bodyRoundA at h
  rw [bc_none] at h; obtain ⟨hex, h⟩ := h
  have hex1 : ex1 = .normal := by cases ex1 <;> first | rfl | cases hex
  subst hex1
  simp only at h
  rw [ob_eq] at h; obtain ⟨B1, hB1, h⟩ := h
  rw [ob_eq] at h; obtain ⟨lb1, hlb1, h⟩ := h
  rw [bc_none] at h; obtain ⟨hready, h⟩ := h
  rw [ob_eq] at h; obtain ⟨σ2, hs2, h⟩ := h
  rw [ob_eq] at h; obtain ⟨⟨ex3, fr3⟩, h3, h⟩ := h
  unfold endRoundA at h
  simp only at h
  rw [ob_eq] at h; obtain ⟨B3, hB3, h⟩ := h
  rw [ob_eq] at h; obtain ⟨lb3, hlb3, h⟩ := h
  have := bLoop_eq hlb1
  subst this
  have := bLoop_eq hlb3
  subst this
  have hst1 : lb1.st = .ready := by cases hx : lb1.st <;> first | rfl | (rw [hx] at hready; cases hready)
  -- what the end of the round is
  have hend : ∃ (v : Value) (σ' : St) (st : LoopState) (pend : Option Code), r = .val v σ' ∧ setBlk fr3.σ l ({ lb3 with st := st, pend := pend } : LoopB).blk = some σ' ∧
      ((ex3 = .normal ∧ st = .ready ∧ pend = none ∧ v = .bool true) ∨ (∃ id, ex3 = .exit id ∧ st = .done ∧ pend = some (.exit id) ∧ v = .bool false) ∨ (ex3 = .ret ∧ st = .done ∧ pend = some .ret ∧ v = .bool false)) := by
    cases ex3 <;> try (cases h; done)
    · replace h : om (setBlk fr3.σ l ({ lb3 with st := .ready, pend := none } : LoopB).blk) (fun σ => Res.val (.bool true) σ) = some r := h
      rw [om_eq] at h; obtain ⟨σ', hs, rfl⟩ := h
      exact ⟨_, _, _, _, rfl, hs, .inl ⟨rfl, rfl, rfl, rfl⟩⟩
    · rename_i id
      replace h : om (setBlk fr3.σ l ({ lb3 with st := .done, pend := some (.exit id) } : LoopB).blk) (fun σ => Res.val (.bool false) σ) = some r := h
      rw [om_eq] at h; obtain ⟨σ', hs, rfl⟩ := h
      exact ⟨_, _, _, _, rfl, hs, .inr (.inl ⟨id, rfl, rfl, rfl, rfl⟩)⟩
    · replace h : om (setBlk fr3.σ l ({ lb3 with st := .done, pend := some .ret } : LoopB).blk) (fun σ => Res.val (.bool false) σ) = some r := h
      rw [om_eq] at h; obtain ⟨σ', hs, rfl⟩ := h
      exact ⟨_, _, _, _, rfl, hs, .inr (.inr ⟨rfl, rfl, rfl, rfl⟩)⟩
  obtain ⟨v, σ', st, pend, rfl, hset, hcase⟩ := hend
  refine ⟨v, σ', rfl, fun e w args' L hW hL ha => ?_⟩
  obtain ⟨tmps, D, fn', hob, hd, ht, hk, hp, hfa, hfb⟩ := loop_of (lb := ⟨st0, pend0, kept, fn, t, params, assign, body, d⟩) hW hL hB
  simp only at hob ht hk hp hfa hfb
  have hlen' : args'.length = params.length := by rw [← ha.length]; exact hlen
  have hry := run_yield (P := P) (args := ⟨args'⟩) hob (by simpa using hlen')
  have hfold : ((⟨params⟩ : Array Tmp).zip (⟨args'⟩ : Array Value)).foldl (fun tmps (t, a) => tmps.setIfInBounds t a) tmps = (params.zip args').foldl (fun tmps (t, a) => tmps.setIfInBounds t a) tmps := by
    rw [← Array.foldl_toList, Array.toList_zip]
  simp only at hry
  rw [hfold] at hry
  refine ⟨fn', _, assign, body, hry, ?_⟩
  have hpm : ∀ p ∈ params.zip args, p.1 < tmps.size := fun p hp' => by
    have hm : p.1 ∈ params := (List.of_mem_zip hp').1
    rw [List.all_eq_true] at hp
    simpa using hp p.1 hm
  obtain ⟨s1, s2, s3⟩ := setTmps_sound (e := e) (kept := kept) (params.zip args) (params.zip args') t tmps (by rw [zip_fst _ _ hlen, zip_fst _ _ hlen']) (by rw [zip_snd _ _ hlen, zip_snd _ _ hlen']; exact ha) hpm ht hk
  have hF0 : FrOk kept e { t := setTmps kept (params.zip args) t, σ := σ, fn := fn, rnd := some l, ds := [] } (FR (some L.b)) { tmps := (params.zip args').foldl (fun tmps (t, a) => tmps.setIfInBounds t a) tmps, defers := [] } w :=
    ⟨hW, s1, s2, ⟨L, hL, rfl⟩, .nil⟩
  have hx := exec_sound hrec hdraw (range_sound hrec) kept assign e _ fr1 _ _ w .normal hF0 (by rw [s3]; exact hfa) h1
  refine roundIn_of_wpIn trivial (wpIn_mono hx fun x1 a1 w1 hx1 => ?_)
  obtain ⟨rfl, hr1, hsz1, e1, hF1, hg1⟩ := hx1
  have hL1 := hg1.env _ _ hL
  obtain ⟨tm1, D1, fn1, hob1, _⟩ := loop_of hF1.w hL1 hB1
  have hset1 := setLoop_sound hF1.w hL1 hB1 (st := .busy) (pend := lb1.pend) hs2 hob1
  refine ⟨_, run_beginRound (P := P) hob1 hst1, ?_⟩
  have hF2 : FrOk kept e1 { fr1 with σ := σ2 } (FR (some L.b)) a1 (w1.putObj L.b (.loop { state := .busy, pending := lb1.pend, fn := fn1, tmps := tm1, params := ⟨lb1.params⟩, assign := lb1.assign, body := lb1.body, defers := D1.b })) :=
    ⟨hset1.1, hF1.t, hF1.k, hF1.r, hF1.d⟩
  have hy := exec_sound hrec hdraw (range_sound hrec) kept body e1 _ fr3 _ _ _ ex3 hF2 (by rw [hsz1, s3]; exact hfb) h3
  refine wpIn_mono hy fun x3 a3 w3 hx3 => ?_
  obtain ⟨rfl, hr3, hsz3, e3, hF3, hg3⟩ := hx3
  have hL3 := hg3.env _ _ hL1
  obtain ⟨tm3, D3, fn3, hob3, _⟩ := loop_of hF3.w hL3 hB3
  have hset3 := setLoop_sound hF3.w hL3 hB3 (st := st) (pend := pend) hset hob3
  have hgrow := ((hg1.trans hset1.2).trans hg3).trans hset3.2
  rcases hcase with ⟨rfl, rfl, rfl, rfl⟩ | ⟨id, rfl, rfl, rfl, rfl⟩ | ⟨rfl, rfl, rfl, rfl⟩
  · exact ⟨_, _, run_endRound (P := P) none hob3, .bool true, e3, rfl, hset3.1, hgrow, .bool true⟩
  · exact ⟨_, _, run_endRound (P := P) (some (.exit id)) hob3, .bool false, e3, rfl, hset3.1, hgrow, .bool false⟩
  · exact ⟨_, _, run_endRound (P := P) (some .ret) hob3, .bool false, e3, rfl, hset3.1, hgrow, .bool false⟩
theorem loop_sound {rec : Rec} (hrec : RecOk P rec) (hdraw : DrawOk P rec) {c : Code} {kept : Kept} {fr : Fr} {r : Res} (h : doLoop P rec c kept fr = some r) : ∃ ex fr', r = .ex ex fr' ∧
    ∀ F e a w, FrOk kept e fr F a w → codeFits a.tmps.size c = true → LoopIn F 0 P c (ExOk kept e fr F a w ex fr') a w := by
  unfold doLoop at h
  rw [ob_eq] at h; obtain ⟨⟨ex1, fr1⟩, h1, h⟩ := h
  cases ex1 <;> try (cases h; done)
  · replace h : rec (.loop c kept fr1) = some r := h
    obtain ⟨ex, fr', rfl, hl⟩ := hrec.loop _ _ _ _ h
    refine ⟨ex, fr', rfl, fun F e a w hF hf => loop_unroll (wpIn_mono (exec_sound hrec hdraw (range_sound hrec) kept c e fr fr1 F a w _ hF hf h1) fun x a1 w1 hx => ?_)⟩
    obtain ⟨rfl, hr, hs, e1, hF1, hg⟩ := hx
    intro b k cs hro hb hroom
    obtain ⟨e2, a2, w2, hq, harr⟩ := hl F e1 a1 w1 hF1 (by rw [hs]; exact hf) b k cs hro hb hroom
    exact ⟨e2, a2, w2, .trans hr hs hg hq, harr⟩
  · rename_i id
    replace h : some (Res.ex (.exit id) fr1) = some r := h
    cases h
    refine ⟨_, _, rfl, fun F e a w hF hf => loop_unroll (wpIn_mono (exec_sound hrec hdraw (range_sound hrec) kept c e fr fr1 F a w _ hF hf h1) fun x a1 w1 hx => ?_)⟩
    obtain ⟨rfl, hx⟩ := hx
    exact ⟨rfl, hx⟩
  · replace h : some (Res.ex .ret fr1) = some r := h
    cases h
    refine ⟨_, _, rfl, fun F e a w hF hf => loop_unroll (wpIn_mono (exec_sound hrec hdraw (range_sound hrec) kept c e fr fr1 F a w _ hF hf h1) fun x a1 w1 hx => ?_)⟩
    obtain ⟨rfl, hx⟩ := hx
    exact ⟨rfl, hx⟩
end Go.AM
