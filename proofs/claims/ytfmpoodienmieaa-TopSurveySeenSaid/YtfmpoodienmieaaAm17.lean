/- The abstract machine: calls. -/
import Derived.Test.YtfmpoodienmieaaAm16
namespace Go.AM
variable {P : Program}
/-! ### What was related before is so still, of the same names -/
theorem VRel.back {e e1 : Env} (he : e.le e1) {v u : Value} (h : VRel e v u) : ∀ {v'}, VRel e1 v v' → VRel e v v' := by
  refine VRel.rec (motive_1 := fun v _ _ => ∀ {v'}, VRel e1 v v' → VRel e v v') (motive_2 := fun l _ _ => ∀ {l'}, LRel e1 l l' → LRel e l l') ?_ ?_ ?_ ?_ ?_ ?_ ?_ ?_ ?_ ?_ ?_ ?_ ?_ ?_ ?_ ?_ ?_ ?_ ?_ ?_ ?_ ?_ h
  · intro v v' _; exact .poison v'
  · intro b v' h; cases h; exact .bool b
  · intro k n v' h; cases h; exact .int k n
  · intro k n v' h; cases h; exact .float k n
  · intro k a b v' h; cases h; exact .complex k a b
  · intro s v' h; cases h; exact .str s
  · intro v' h; cases h; exact .pnil
  · intro i L o hL v' h
    cases h with
    | ptr o h2 => rw [he _ _ hL] at h2; cases h2; exact .ptr o hL
  · intro v' h; cases h; exact .snil
  · intro i L o len c hL hl v' h
    cases h with
    | exact o len c h2 hl2 => rw [he _ _ hL] at h2; cases h2; exact .exact o len c hL hl2
  · intro i L o len c hL h0 hl hc v' h
    cases h with
    | «open» o len c h2 h02 hl2 hc2 => rw [he _ _ hL] at h2; cases h2; exact .open o len _ hL h0 hl2 hc2
    | open0 => omega
  · intro i L o c a hL hb hc v' h
    cases h with
    | «open» o len c h2 h02 hl2 hc2 => omega
    | open0 o c a h2 hb2 hc2 => rw [he _ _ hL] at h2; cases h2; exact .open0 o c a hL hb2 hc2
  · intro v' h; cases h; exact .mnil
  · intro i L hL v' h
    cases h with
    | map h2 => rw [he _ _ hL] at h2; cases h2; exact .map hL
  · intro k a a' b b' ha hb iha ihb v' h
    cases h with
    | func k ha2 hb2 => exact .func k (iha ha2) (ihb hb2)
  · intro l L hL a a' b b' ha hb iha ihb v' h
    cases h with
    | yield h2 ha2 hb2 => rw [he _ _ hL] at h2; cases h2; exact .yield hL (iha ha2) (ihb hb2)
  · intro v' h; cases h; exact .fnil
  · intro v' h; cases h; exact .inil
  · intro a a' ha ih v' h
    cases h with
    | agg h2 => exact .agg (ih h2)
  · intro a a' ha ih v' h
    cases h with
    | tup h2 => exact .tup (ih h2)
  · intro l' h; cases h; exact .nil
  · intro v u l l1 hv hl ihv ihl l' h
    cases h with
    | cons h2 hl2 => exact .cons (ihv h2) (ihl hl2)
theorem BRel.back {e e1 : Env} (he : e.le e1) {L : LocE} {B : Blk} {o o' : Option Obj} (h : BRel e L B o) (h1 : BRel e1 L B o') : BRel e L B o' := by
  cases h1 with
  | ro hz h1 =>
    cases h with
    | ro _ h => exact .ro hz fun j v hj => let ⟨c, el, fz, v', x1, x2, x3⟩ := h1 j v hj; let ⟨_, _, _, u, _, _, y⟩ := h j v hj; ⟨c, el, fz, v', x1, x2, y.back he x3⟩
  | rw hz hs hc h1 =>
    cases h with
    | rw _ _ _ h => exact .rw hz hs hc fun j v hj => let ⟨v', x2, x3⟩ := h1 j v hj; let ⟨u, _, y⟩ := h j v hj; ⟨v', x2, y.back he x3⟩
  | map hl hf h1 =>
    cases h with
    | map _ _ h => exact .map hl hf fun j p hj => let ⟨q, x1, x2, x3⟩ := h1 j p hj; let ⟨_, _, _, y⟩ := h j p hj; ⟨q, x1, x2, y.back he x3⟩
  | loop hd ht hk hp ha hb =>
    cases h with
    | loop hd0 ht0 _ _ _ _ =>
      have := he _ _ hd0
      rw [hd] at this; cases this
      exact .loop hd0 (fun i => (ht0 i).back he (ht i)) hk hp ha hb
  | defer => exact .defer
/-- A call that changed nothing of what was there, as its caller sees it: the old memory. -/
theorem forget_sound {e e1 : Env} {σ σ1 : St} {w w1 : World} (hW : WRel e σ w) (hW1 : WRel e1 σ1 w1) (hG : Grow e σ w e1 σ1 w1) (hsame : ∀ i, i < σ.next → σ1.heap.get i = σ.heap.get i) : WRel e σ w1 ∧ Grow e σ w e σ w1 := by
  refine ⟨⟨fun i L hi => ⟨(hW.dom i L hi).1, fun hn => Nat.lt_of_lt_of_le ((hW.dom i L hi).2 hn) hG.size⟩, fun i L B hi hB => ?_, hW.sep, hW.bnd⟩,
    ⟨.refl e, fun _ _ => rfl, Nat.le_refl _, rfl, hG.size, hG.os, hG.tape, hG.output, hG.frame, fun _ _ h => h, fun _ _ h => .inl h, fun _ _ _ => rfl, fun _ _ _ => rfl, Nat.le_refl _⟩⟩
  have hlt := (hW.dom i L hi).1
  exact (hW.blk i L B hi hB).back hG.env (hW1.blk i L B (hG.env _ _ hi) (by rw [hsame i hlt]; exact hB))

/-! ### Blocks given up -/
theorem killed_sound {e : Env} {σ : St} {w w' : World} {i : Nat} {L : LocE} {B : Blk} (hW : WRel e σ w) (hi : e i = some L) (hB : σ.heap.get i = some B) (hro : B.ro = false)
    (hwall : σ.wall ≤ i) (hother : ∀ k, k ≠ L.b → w'.heap[k]? = w.heap[k]?) (hsize : w'.heap.size = w.heap.size) (hos : w'.os = w.os) (htape : w'.tape = w.tape) (hout : w'.output = w.output) :
    WRel e { σ with heap := σ.heap.del i, low := bc (Nat.ble i σ.low) i σ.low } w' ∧ Grow e σ w e { σ with heap := σ.heap.del i, low := bc (Nat.ble i σ.low) i σ.low } w' := by
  obtain ⟨hW1, hG1⟩ := del_sound hW hwall
  have hg : ∀ j, (σ.heap.del i).get j = if i = j then none else σ.heap.get j := fun j => get_del _ _ _
  refine ⟨⟨fun j M hj => ⟨(hW1.dom j M hj).1, fun hn => by rw [hsize]; exact (hW1.dom j M hj).2 hn⟩, fun j M C hj hC => ?_, hW1.sep, hW1.bnd⟩,
    ⟨.refl e, fun _ _ => rfl, Nat.le_refl _, rfl, Nat.le_of_eq hsize.symm, hos, htape, hout, fun b hb ho => ?_, hG1.owned, fun _ _ h => .inl h, hG1.keep, hG1.low, hG1.lower⟩⟩
  · have hC' := hC
    simp only [hg] at hC'
    split at hC'
    · cases hC'
    · rename_i hij
      rw [hother _ (fun hb => hW.sep i j L M B C hij hi hj hB hC' hro hb.symm)]
      exact hW1.blk j M C hj hC
  · exact hother b fun h => ho ⟨i, L, B, hwall, hi, hB, hro, h.symm⟩
theorem drop_sound {fn : Func} {tmps : Array Value} {R : Ending → World → Prop} : ∀ (ds : List Nat) (defers : List Deferred) (e : Env) (σ σ1 : St) (w : World), DRel e ds defers → WRel e σ w → dropDs ds σ = some σ1 →
    (∀ w1, WRel e σ1 w1 → Grow e σ w e σ1 w1 → LeavesInM (FR none) 0 P fn tmps R [] .returning w1) → LeavesInM (FR none) 0 P fn tmps R defers .returning w := by
  intro ds
  induction ds with
  | nil =>
    intro defers e σ σ1 w hd hW h hk
    cases hd
    replace h : some σ = some σ1 := h
    cases h
    exact hk w hW (.refl _ _ _)
  | cons d ds ih =>
    intro defers e σ σ1 w hd hW h hk
    cases hd with
    | cons hD hl =>
      rename_i D l
      replace h : ob (σ.heap.get d) (fun b => bc (Blk.rec (motive := fun _ => Bool) (fun _ _ _ => false) (fun _ => false) (fun _ _ _ _ _ _ _ _ _ => false) true b)
        (bc (Nat.ble σ.wall d) (dropDs ds { σ with heap := σ.heap.del d, low := bc (Nat.ble d σ.low) d σ.low }) none) none) = some σ1 := h
      rw [ob_eq] at h; obtain ⟨B, hB, h⟩ := h
      rw [bc_none, bc_none] at h; obtain ⟨hdf, hwall, h⟩ := h
      have hBd : B = .defer := by cases B <;> first | rfl | cases hdf
      subst hBd
      have hb := hW.blk d D _ hD hB
      generalize hob : w.heap[D.b]? = ob at hb
      cases hb
      have hk1 := killed_sound (w' := w.putObj D.b (.deferred none)) hW hD hB rfl (by simpa using hwall) (fun k hk => World.putObj_heap_other hk) World.putObj_size rfl rfl rfl
      exact ⟨by simp, .inl ⟨D.b, _, rfl, run_takeDeferred (P := P) hob, ih l e _ σ1 _ hl hk1.1 h fun w1 h1 h2 => hk w1 h1 (hk1.2.trans h2)⟩⟩

/-! ### Results -/
theorem result_sound {e : Env} {σ : St} {w : World} (hW : WRel e σ w) {t : Tr Value} {tmps : Array Value} (ht : ERel e [] t tmps) (r : ResultVar) {v : Value} (h : resultA P t σ.heap r = some v) :
    ∃ v', (match r with | .tmp t => pure (tmps.getD t undef) | .cell a t => do loadVar t (← asAddr (tmps.getD a undef)) : Sem Value).run P w = .ok v' w ∧ VRel e v v' := by
  cases r with
  | tmp i =>
    replace h : some (slot i [] t) = some v := h
    cases h
    exact ⟨_, rfl, ht i⟩
  | cell a ty =>
    replace h : loadA P ty σ.heap (slot a [] t) = some v := h
    obtain ⟨v', hr, hv⟩ := load_sound (P := P) hW (ht a) h
    refine ⟨v', ?_, hv⟩
    unfold loadA at h
    rw [ob_eq] at h; obtain ⟨p, hp, h⟩ := h
    have hta := ht a
    rw [vPtr_eq hp] at hta
    generalize hy : tmps.getD a undef = y at hta hr
    cases hta with
    | ptr o hL => simpa [Instr.loadAt, Instr.sureAddr, asAddr, hy] using hr
theorem results_list {e : Env} {σ : St} {w : World} (hW : WRel e σ w) {t : Tr Value} {tmps : Array Value} (ht : ERel e [] t tmps) : ∀ (rs : List ResultVar) (vs : List Value), resultsA P rs t σ.heap = some vs →
    ∃ vs', (rs.mapM fun r => (match r with | .tmp t => pure (tmps.getD t undef) | .cell a t => do loadVar t (← asAddr (tmps.getD a undef)) : Sem Value)).run P w = .ok vs' w ∧ LRel e vs vs' := by
  intro rs
  induction rs with
  | nil => intro vs h; replace h : some [] = some vs := h; cases h; exact ⟨[], by simp, .nil⟩
  | cons r rs ih =>
    intro vs h
    replace h : ob (resultA P t σ.heap r) (fun v => om (resultsA P rs t σ.heap) fun l => v :: l) = some vs := h
    rw [ob_eq] at h; obtain ⟨v, hv, h⟩ := h
    rw [om_eq] at h; obtain ⟨l, hl, rfl⟩ := h
    obtain ⟨v', h1, h2⟩ := result_sound hW ht r hv
    obtain ⟨vs', h3, h4⟩ := ih l hl
    refine ⟨v' :: vs', ?_, .cons h2 h4⟩
    rw [List.mapM_cons]
    simp only [Sem.run_bind, h1, Result.andThen_ok, h3, Sem.run_pure]
theorem results_sound {e : Env} {σ : St} {w : World} (hW : WRel e σ w) {t : Tr Value} {fn : Func} {tmps : Array Value} (ht : ERel e [] t tmps) {vs : List Value} (h : resultsA P fn.results.toList t σ.heap = some vs) :
    ∃ v', (results fn tmps).run P w = .ok v' w ∧ VRel e (tupled vs) v' := by
  obtain ⟨vs', h1, h2⟩ := results_list (P := P) hW ht _ _ h
  refine ⟨if h : (⟨vs'⟩ : Array Value).size = 1 then (⟨vs'⟩ : Array Value)[0] else .tuple ⟨vs'⟩, ?_, ?_⟩
  · unfold results
    rw [Array.mapM_eq_mapM_toList]
    simp only [bind_pure_comp, Sem.run_map]
    exact congrArg (fun r : Result (List Value) => (r.andThen fun a w' => Result.ok a.toArray w').andThen fun a w' => Result.ok (if h : a.size = 1 then a[0] else Value.tuple a) w') h1
  · cases h2 with
    | nil => exact .undef e
    | cons hv hl => cases hl with
      | nil => exact hv
      | cons hv2 hl => exact .tup (.cons hv (.cons hv2 hl))

/-! ### Calls -/
theorem argTmps_get {kept : Kept} : ∀ (l : List Value) (i : Nat) (t : Tr Value) (j : Nat), (∀ k, i ≤ k → kept k = false → t.get k = none) → (argTmps kept l i t).get j = if i ≤ j ∧ j < i + l.length then (if kept j = true then l[j - i]? else none) else t.get j := by
  intro l
  induction l with
  | nil => intro i t j _; rw [if_neg (by simp only [List.length_nil]; omega)]; rfl
  | cons v l ih =>
    intro i t j hn
    show (argTmps kept l (i + 1) (bc (kept i) (t.put i v) t)).get j = _
    have hput : ∀ k, (bc (kept i) (t.put i v) t).get k = if i = k ∧ kept i = true then some v else t.get k := fun k => by
      rw [bc_eq]
      by_cases hk : kept i = true
      · rw [if_pos hk, get_put]; simp [hk]
      · rw [if_neg hk]; simp [hk]
    rw [ih (i + 1) _ j (fun k hk hkk => by rw [hput, if_neg (by rintro ⟨rfl, h⟩; rw [hkk] at h; cases h)]; exact hn k (by omega) hkk), hput]
    by_cases h1 : i = j
    · subst h1
      have hni := hn i (Nat.le_refl _)
      have hni : kept i = true ∨ t.get i = none := by
        cases hk : kept i with
        | true => exact .inl rfl
        | false => exact .inr (hni hk)
      have h0 : ¬ (i + 1 ≤ i ∧ i < i + 1 + l.length) := by omega
      by_cases hk : kept i = true
      · rw [if_neg h0]; simp [hk]
      · rw [if_neg h0]; rcases hni with h | h
        · exact absurd h hk
        · simp [hk, h]
    · have h0 : ¬ (i = j ∧ kept i = true) := fun h => h1 h.1
      rw [if_neg h0]
      by_cases h2 : i ≤ j ∧ j < i + (l.length + 1)
      · have h3 : i + 1 ≤ j ∧ j < i + 1 + l.length := by omega
        have h4 : j - i = (j - (i + 1)) + 1 := by omega
        have h5 : i ≤ j ∧ j < i + (v :: l).length := by simpa using h2
        rw [if_pos h3, if_pos h5, h4, List.getElem?_cons_succ]
      · have h3 : ¬ (i + 1 ≤ j ∧ j < i + 1 + l.length) := by omega
        have h5 : ¬ (i ≤ j ∧ j < i + (v :: l).length) := by simpa using h2
        rw [if_neg h3, if_neg h5]
theorem preT_get (l : List Tmp) (i : Nat) : (preT l).get i = if l.contains i = true then some poison else none := by
  induction l with
  | nil => exact get_mk 3 i
  | cons d l ih =>
    show ((preT l).put d poison).get i = _
    rw [get_put, ih]
    by_cases h : d = i
    · subst h; simp
    · have h' : ¬ i = d := fun e => h e.symm
      simp [h, h']
theorem fits_fn {k : FuncId} {fn : Func} {c : Code} (hf : fnOf P k = some fn) (hc : fn.body = some c) (h : fitsFn P k = true) : Enters P k ∧ codeFits fn.ntmps c = true := by
  unfold fitsFn at h
  rw [hf] at h
  simp only [hc, Bool.and_eq_true, Bool.not_eq_true'] at h
  exact ⟨⟨fn, c, hf, hc, h.2⟩, h.1⟩
/-- A table of calls whose outcome is known. -/
def TabOk (P : Program) (Γ : Tab) : Prop := ∀ k args σ r, Γ k args σ = some r → CallOk P k args σ r.1 r.2
theorem call_sound {Γ : Tab} (hΓ : TabOk P Γ) {rec : Rec} (hrec : RecOk P rec) (hdraw : DrawOk P rec) {k : FuncId} {args : List Value} {σ : St} {r : Res} (h : doCall P Γ rec k args σ = some r) : ∃ v σ', r = .val v σ' ∧ CallOk P k args σ v σ' := by
  unfold doCall at h
  cases hg : Γ k args σ with
  | some g =>
    rw [hg] at h
    replace h : some (Res.val g.1 g.2) = some r := h
    cases h
    exact ⟨_, _, rfl, hΓ _ _ _ _ hg⟩
  | none =>
    rw [hg] at h
    replace h : ob (fnOf P k) (fun fn => callBody P rec k args σ fn) = some r := h
    rw [ob_eq] at h; obtain ⟨fn, hfn, h⟩ := h
    unfold callBody at h
    rw [ob_eq] at h; obtain ⟨c, hc, h⟩ := h
    rw [bc_none, bc_and, Bool.and_eq_true] at h; obtain ⟨⟨hlen, hfit⟩, h⟩ := h
    rw [ob_eq] at h; obtain ⟨⟨ex, fr⟩, hx, h⟩ := h
    obtain ⟨hent, hcf⟩ := fits_fn hfn hc hfit
    unfold exEnd at h
    rw [bc_none] at h; obtain ⟨hex, h⟩ := h
    rw [ob_eq] at h; obtain ⟨σ1, hd, h⟩ := h
    rw [om_eq] at h; obtain ⟨vs, hvs, rfl⟩ := h
    refine ⟨_, _, rfl, hent, fun e w args' hW ha => ?_⟩
    have hlen' : args'.length ≤ fn.ntmps := by rw [← ha.length]; simpa using hlen
    have hW0 : WRel e { σ with low := σ.next } w := ⟨hW.dom, hW.blk, hW.sep, hW.bnd⟩
    have hsz : ((⟨args'⟩ : Array Value) ++ Array.replicate (fn.ntmps - (⟨args'⟩ : Array Value).size) undef).size = fn.ntmps := by simp; omega
    have hpre := preT_get (keptList P k)
    have hget := fun j => argTmps_get (kept := keptIn P k) args 0 (preT (keptList P k)) j (fun j _ hj => by rw [hpre, if_neg (by rw [show (keptList P k).contains j = keptIn P k j from rfl, hj]; simp)])
    have hF0 : FrOk (keptIn P k) e { t := argTmps (keptIn P k) args 0 (preT (keptList P k)), σ := { σ with low := σ.next }, fn := k, rnd := none, ds := [] } (FR none) { tmps := ⟨args'⟩ ++ Array.replicate (fn.ntmps - (⟨args'⟩ : Array Value).size) undef, defers := [] } w := by
      refine ⟨hW0, fun i => ?_, fun i v hi => ?_, rfl, .nil⟩
      · rw [slot_eq, lget_nil]
        simp only [hget]
        by_cases hi : 0 ≤ i ∧ i < 0 + args.length
        · rw [if_pos hi]
          by_cases hk : keptIn P k i = true
          · rw [if_pos hk]
            have hl : i < args.length := by omega
            have hl' : i < args'.length := by rw [← ha.length]; exact hl
            simp only [Nat.sub_zero, List.getElem?_eq_getElem hl]
            obtain ⟨v', h1, h2⟩ := ha.get (List.getElem?_eq_getElem hl)
            rw [Array.getD_eq_getD_getElem?, Array.getElem?_append_left (by simpa using hl')]
            simp [h1]; exact h2
          · rw [if_neg hk]; exact .poison _
        · rw [if_neg hi, hpre]
          by_cases hc : (keptList P k).contains i = true
          · rw [if_pos hc]; exact .poison _
          · rw [if_neg hc]; exact .poison _
      · rw [hget] at hi
        split at hi
        · split at hi
          · rename_i hk; exact hk
          · cases hi
        · rw [hpre] at hi
          split at hi
          · rename_i hk; exact hk
          · cases hi
    have hx' := exec_sound hrec hdraw (range_sound hrec) (keptIn P k) c e _ fr (FR none) _ w ex hF0 (by rw [hsz]; exact hcf) hx
    refine callsIn_of_wp_marks hfn hc trivial (wpIn_mono hx' fun x a1 w1 hx1 => ?_)
    obtain ⟨rfl, hr1, hs1, e1, hF1, hg1⟩ := hx1
    have fin : LeavesInM (FR none) 0 P fn a1.tmps (RetOk e σ w (tupled vs) (afterA σ (tupled vs) σ1)) a1.defers .returning w1 := by
      refine drop_sound _ _ e1 fr.σ σ1 w1 hF1.d hF1.w hd fun w2 hW2 hG2 => ?_
      obtain ⟨v', hres, hv⟩ := results_sound (P := P) hW2 hF1.t hvs
      refine ⟨v', hres, ?_⟩
      have hG := hg1.trans hG2
      have hGo : ∀ b, Owned e { σ with low := σ.next } b ↔ Owned e σ b := fun b => Iff.rfl
      unfold afterA
      rw [bc_eq]
      by_cases hclean : Nat.ble σ.next σ1.low = true
      · rw [if_pos hclean, bc_eq]
        have hcl : σ.next ≤ σ1.low := by simpa using hclean
        have hsame : ∀ i, i < σ.next → σ1.heap.get i = σ.heap.get i := fun i hi => hG.low i hi (Nat.lt_of_lt_of_le hi hcl)
        by_cases hflat : isFlat (tupled vs) = true
        · rw [if_pos hflat]
          obtain ⟨y1, y2⟩ := forget_sound hW0 hW2 hG hsame
          refine ⟨v', e, rfl, ⟨y1.dom, y1.blk, y1.sep, y1.bnd⟩, ⟨y2.env, y2.old, y2.next, y2.wall, y2.size, y2.os, y2.tape, y2.output, y2.frame, fun _ _ h => h, y2.fresh, fun _ _ _ => rfl, fun _ _ _ => rfl, Nat.le_refl _⟩, ?_⟩
          rw [hv.flat_eq hflat]
          exact .flat e hflat
        · rw [if_neg hflat]
          exact ⟨v', e1, rfl, ⟨hW2.dom, hW2.blk, hW2.sep, hW2.bnd⟩, ⟨hG.env, hG.old, hG.next, hG.wall, hG.size, hG.os, hG.tape, hG.output, hG.frame, hG.owned, hG.fresh, hG.keep, fun i hi _ => hsame i hi, Nat.le_refl _⟩, hv⟩
      · rw [if_neg hclean]
        have hlo : bc (Nat.ble σ.low σ1.low) σ.low σ1.low = min σ.low σ1.low := by
          rw [bc_eq]; simp only [Nat.ble_eq]; split <;> omega
        refine ⟨v', e1, rfl, ⟨hW2.dom, hW2.blk, hW2.sep, hW2.bnd⟩, ⟨hG.env, hG.old, hG.next, hG.wall, hG.size, hG.os, hG.tape, hG.output, hG.frame, hG.owned, hG.fresh, hG.keep, fun i hi hl => ?_, ?_⟩, hv⟩
        · simp only [hlo] at hl
          exact hG.low i hi (by omega)
        · simp only [hlo]; omega
    cases x with
    | normal => exact fin
    | ret => exact fin
    | _ => cases hex
theorem step_ok {Γ : Tab} (hΓ : TabOk P Γ) {rec : Rec} (hrec : RecOk P rec) (hdraw : DrawOk P rec) : RecOk P (stepF P Γ rec) where
  call _ _ _ _ h := call_sound hΓ hrec hdraw h
  yield _ _ _ _ h := yield_sound hrec hdraw h
  loop _ _ _ _ h := loop_sound hrec hdraw h
theorem run_ok {Γ : Tab} (hΓ : TabOk P Γ) (hdraw : ∀ rec, RecOk P rec → DrawOk P rec) (n : Nat) : RecOk P (runF P Γ n) := by
  induction n with
  | zero => exact ⟨fun _ _ _ _ h => (by cases h), fun _ _ _ _ h => (by cases h), fun _ _ _ _ h => (by cases h)⟩
  | succ n ih => exact step_ok hΓ ih (hdraw _ ih)
end Go.AM
