/- The abstract machine: regions that draw their order are sound. -/
import Derived.Test.YtfmpoodienmieaaAm27
namespace Go.AM
variable {P : Program}
theorem edgeBits_set {acc : List Nat} {l : List Edge} {e : Edge} (he : e ∈ l) (hb : bindsAny e = true) : (edgeBits acc l).testBit e.on = true := by
  induction l with
  | nil => cases he
  | cons d l ih =>
    show (bc (bindsAny d) (Nat.lor (bitN d.on) (Nat.lor (getN acc d.on) (edgeBits acc l))) (edgeBits acc l)).testBit e.on = true
    rw [bc_eq]
    rcases List.mem_cons.1 he with h | h
    · subst h
      rw [if_pos hb]
      show (bitN e.on ||| (getN acc e.on ||| edgeBits acc l)).testBit e.on = true
      rw [Nat.testBit_or, bitN_bit]; simp
    · split
      · show (bitN d.on ||| (getN acc d.on ||| edgeBits acc l)).testBit e.on = true
        rw [Nat.testBit_or, Nat.testBit_or, ih h]; simp
      · exact ih h
theorem pr_set {ops : List Oper} {i : Nat} {o : Oper} (ho : ops[i]? = some o) {e : Edge} (he : e ∈ o.after.toList) (hb : bindsAny e = true) : Pr ops i e.on := by
  have hi : i < ops.length := (List.getElem?_eq_some_iff.1 ho).1
  have hsplit : ops = ops.take i ++ o :: ops.drop (i + 1) := by
    have h1 := List.take_append_drop i ops
    rw [List.drop_eq_getElem_cons hi] at h1
    have h2 : ops[i] = o := (List.getElem?_eq_some_iff.1 ho).2
    rw [h2] at h1; exact h1.symm
  obtain ⟨r1, e1, l1⟩ := predsGo_prefix (ops.take i) []
  rw [List.nil_append] at e1
  have hl1 : r1.length = i := by rw [l1, List.length_take]; omega
  obtain ⟨r2, e2, _⟩ := predsGo_prefix (ops.drop (i + 1)) (r1 ++ [edgeBits r1 o.after.toList])
  have hp : predsA ops = r1 ++ [edgeBits r1 o.after.toList] ++ r2 := by
    have : predsA ops = predsGo (ops.take i ++ o :: ops.drop (i + 1)) [] := by rw [← hsplit]; rfl
    rw [this, predsGo_append, e1, predsGo_cons]
    exact e2
  have hgi : getN (predsA ops) i = edgeBits r1 o.after.toList := by rw [getN_eq, hp]; simp [List.getD, ← hl1]
  unfold Pr
  rw [hgi, hasBit_eq]
  exact edgeBits_set he hb
theorem binds_any (e : Edge) : Region.binds .any e = bindsAny e := by
  unfold Region.binds bindsAny
  cases e.ground <;> rfl
def Sof (listed : Array Bool) (i : Nat) : Prop := listed.getD i false = true
theorem sof_set {listed : Array Bool} {i : Nat} (hi : i < listed.size) (j : Nat) : Sof (listed.setIfInBounds i true) j ↔ Sof listed j ∨ j = i := by
  unfold Sof
  rw [Array.getD_eq_getD_getElem?, Array.getElem?_setIfInBounds, Array.getD_eq_getD_getElem?]
  by_cases h : i = j
  · subst h; simp [hi]
  · simp [h, Ne.symm h]
section
variable {rec : Rec} {kept : Kept} {ops : List Oper} {ce : List Ev} {te : List (Ev × List Oper)} {t0 : Tr Value} {lf : Loc} {tf : Tr Value} {σ0 σm σf : St}
structure Inv (ops : List Oper) (ce : List Ev) (te : List (Ev × List Oper)) (t0 : Tr Value) (σ0 σm σf : St) (e0 : Env) (w0 : World) (n0 : Nat) (d0 : List Deferred) (listed : Array Bool) (a : Act) (w : World) : Prop where
  size : listed.size = ops.length
  closed : ClosedS ops (Sof listed)
  tmps : a.tmps.size = n0
  defers : a.defers = d0
  j : (∃ e, J1 ops ce te t0 σ0 σm e0 w0 (Sof listed) e a w) ∨ ∃ e τ done todo, J2 ops ce te t0 σ0 σf e0 w0 (Sof listed) e τ done todo a w
theorem ready_mem {ops' : Array Oper} {listed : Array Bool} {i : Nat} (hsz : listed.size = ops'.size) : i ∈ Region.ready .any ops' listed ↔ i < ops'.size ∧ ¬ Sof listed i ∧ ∃ o, ops'[i]? = some o ∧ ∀ e ∈ o.after.toList, bindsAny e = true → Sof listed e.on := by
  unfold Region.ready
  rw [List.mem_filter, List.mem_range, Bool.and_eq_true]
  have hget : i < ops'.size → (listed.getD i true = listed.getD i false) := fun hi => by
    rw [Array.getD_eq_getD_getElem?, Array.getD_eq_getD_getElem?]
    have : i < listed.size := by omega
    simp [this]
  constructor
  · rintro ⟨h1, h2, h3⟩
    refine ⟨h1, ?_, ?_⟩
    · unfold Sof; rw [← hget h1]; simpa using h2
    · have ho : ops'[i]? = some ops'[i] := by simp [h1]
      rw [ho] at h3
      refine ⟨_, ho, fun e he hb => ?_⟩
      simp only [Option.map_some, Option.getD_some, Array.all_eq_true'] at h3
      have := h3 e (Array.mem_toList_iff.1 he)
      rw [binds_any, hb] at this
      simpa [Sof] using this
  · rintro ⟨h1, h2, o, ho, h3⟩
    refine ⟨h1, ?_, ?_⟩
    · unfold Sof at h2; rw [hget h1]; simpa using h2
    · rw [ho]
      simp only [Option.map_some, Option.getD_some, Array.all_eq_true']
      intro e he
      rw [binds_any]
      cases hb : bindsAny e with
      | false => rfl
      | true => have := h3 e (Array.mem_toList_iff.2 he) hb; simpa [Sof] using this
theorem Inv.step (hrec : RecOk P rec) (R : Reg P rec kept ops ce te t0 lf tf σ0 σm σf) {ops' : Array Oper} (ho : ops'.toList = ops) {e0 : Env} {w0 : World} (hW0 : WRel e0 σ0 w0) {n0 : Nat} {d0 : List Deferred} (hfit : ∀ b ∈ ce ++ te.map (·.1), fitsDst b.o.dst n0)
    {listed : Array Bool} {a : Act} {w : World} (I : Inv ops ce te t0 σ0 σm σf e0 w0 n0 d0 listed a w) {i : Nat} (hi : i ∈ Region.ready .any ops' listed) {r : Option Nat} {Q : Exit → Act → World → Prop} :
    wpOpIn (FR r) 0 P ops' Q i (Inv ops ce te t0 σ0 σm σf e0 w0 n0 d0 (listed.setIfInBounds i true)) a w := by
  have hsz : ops'.size = ops.length := by rw [← ho]; simp
  rw [ready_mem (by rw [I.size, hsz])] at hi
  obtain ⟨h1, h2, o, hoi, h3⟩ := hi
  have hil : i < ops.length := by omega
  have hoi' : ops[i]? = some o := by rw [← ho]; simpa using hoi
  have hpred : ∀ j, Pr ops i j → Sof listed j := fun j hj => by
    obtain ⟨e, he, hb, hc⟩ := pr_edge hoi' hj
    have hon := h3 e he hb
    rcases hc with rfl | hc
    · exact hon
    · have hlt : e.on < ops.length := by
        have := R.plan.lt i e.on hil (pr_set hoi' he hb); omega
      exact I.closed e.on hlt hon j hc
  have hS' := sof_set (listed := listed) (i := i) (by rw [I.size]; exact hil)
  have hclosed : ClosedS ops (Sof (listed.setIfInBounds i true)) := fun k hk hSk j hj => by
    rcases (hS' k).1 hSk with h | h
    · exact (hS' j).2 (.inl (I.closed k hk h j hj))
    · subst h; exact (hS' j).2 (.inl (hpred j hj))
  have hsize' : (listed.setIfInBounds i true).size = ops.length := by simp [I.size]
  -- the event
  have hev : ∃ b ∈ ce ++ te.map (·.1), b.i = i := by
    rcases R.plan.all i hil with h | h
    · obtain ⟨b, hb, rfl⟩ := List.mem_map.1 h; exact ⟨b, List.mem_append_left _ hb, rfl⟩
    · obtain ⟨p, hp, rfl⟩ := List.mem_map.1 h; exact ⟨p.1, List.mem_append_right _ (List.mem_map.2 ⟨p, hp, rfl⟩), rfl⟩
  obtain ⟨b, hb, rfl⟩ := hev
  have hfb : fitsDst b.o.dst a.tmps.size := by rw [I.tmps]; exact hfit b hb
  have two : ∀ e τ done todo, J2 ops ce te t0 σ0 σf e0 w0 (Sof listed) e τ done todo a w → wpOpIn (FR r) 0 P ops' Q b.i (Inv ops ce te t0 σ0 σm σf e0 w0 n0 d0 (listed.setIfInBounds b.i true)) a w := fun e τ done todo J => by
    by_cases hq : b ∈ ce ∨ kd ops b.i = 0
    · exact J.quiet hrec R ho I.closed hb h2 hpred hS' hfb hq fun e' a' w' J' hs hd => ⟨hsize', hclosed, hs.trans I.tmps, hd.trans I.defers, .inr ⟨e', _, _, _, J'⟩⟩
    · have hbc : b ∉ ce := fun h => hq (.inl h)
      have hbk : kd ops b.i ≠ 0 := fun h => hq (.inr h)
      rcases List.mem_append.1 hb with h | h
      · exact absurd h hbc
      · obtain ⟨p, hp, rfl⟩ := List.mem_map.1 h
        exact J.loud hrec R ho I.closed hp hbk h2 hpred hS' hfb fun e' τ' dn td a' w' J' hs hd => ⟨hsize', hclosed, hs.trans I.tmps, hd.trans I.defers, .inr ⟨e', _, _, _, J'⟩⟩
  rcases I.j with ⟨e, J⟩ | ⟨e, τ, done, todo, J⟩
  · by_cases hbc : b ∈ ce
    · exact J.calm hrec R ho hW0 I.closed hbc h2 hpred hS' hfb fun e' a' w' J' hs hd => ⟨hsize', hclosed, hs.trans I.tmps, hd.trans I.defers, .inl ⟨e', J'⟩⟩
    · rcases List.mem_append.1 hb with h | h
      · exact absurd h hbc
      · obtain ⟨p, hp, rfl⟩ := List.mem_map.1 h
        by_cases hk : kd ops p.1.i = 0
        · obtain ⟨d, hd, hdk, hdp⟩ := R.plan.rooted _ (List.mem_map.2 ⟨p, hp, rfl⟩) hk
          obtain ⟨pd, hpd, rfl⟩ := List.mem_map.1 hd
          exact absurd (hpred _ hdp) (J.loud pd hpd hdk)
        · refine two e σm [] te (J.two R hW0 fun c hc hcS => ?_)
          rcases R.plan.behind p.1.i (List.mem_map.2 ⟨p, hp, rfl⟩) with h0 | ⟨_, hbe⟩
          · exact absurd h0 hk
          · rcases hbe c.i (List.mem_map.2 ⟨c, hc, rfl⟩) with h4 | h4 | ⟨_, h4, _⟩
            · omega
            · exact absurd (hpred _ h4) hcS
            · omega
  · exact two e τ done todo J
theorem Inv.all (R : Reg P rec kept ops ce te t0 lf tf σ0 σm σf) {ops' : Array Oper} (ho : ops'.toList = ops) {listed : Array Bool} (hsz : listed.size = ops.length) (h : Region.ready .any ops' listed = []) : ∀ i, i < ops.length → Sof listed i := by
  have hsz' : ops'.size = ops.length := by rw [← ho]; simp
  intro i
  induction i using Nat.strongRecOn with
  | _ i ih =>
    intro hi
    apply Classical.byContradiction
    intro hn
    have hoi : ops[i]? = some ops[i] := List.getElem?_eq_getElem hi
    have hm : i ∈ Region.ready .any ops' listed := by
      rw [ready_mem (by rw [hsz, hsz'])]
      refine ⟨by omega, hn, ops[i], by rw [← hoi, ← ho]; simp, fun e he hb => ?_⟩
      have hlt := R.plan.lt i e.on hi (pr_set hoi he hb)
      exact ih e.on hlt (by omega)
    rw [h] at hm; cases hm
theorem any_sound (hrec : RecOk P rec) (R : Reg P rec kept ops ce te t0 lf tf σ0 σm σf) {ops' : Array Oper} (ho : ops'.toList = ops) {e0 : Env} {w0 : World} (hW0 : WRel e0 σ0 w0) {n0 : Nat} {d0 : List Deferred} (hfit : ∀ b ∈ ce ++ te.map (·.1), fitsDst b.o.dst n0)
    {r : Option Nat} {Q : Exit → Act → World → Prop} (hQ : ∀ e a w, WRel e σf w → Grow e0 σ0 w0 e σf w → ERel e [] tf a.tmps → (∀ i v, tf.get i = some v → kept i = true) → a.tmps.size = n0 → a.defers = d0 → Q .normal a w) :
    ∀ (fuel : Nat) (listed : Array Bool) (a : Act) (w : World), Inv ops ce te t0 σ0 σm σf e0 w0 n0 d0 listed a w → listed.toList.count false ≤ fuel → wpAnyIn (FR r) 0 P .any ops' Q fuel listed a w := by
  have fin : ∀ (listed : Array Bool) (a : Act) (w : World), Inv ops ce te t0 σ0 σm σf e0 w0 n0 d0 listed a w → Region.ready .any ops' listed = [] → Q .normal a w := fun listed a w I hr => by
    have hall := Inv.all R ho I.size hr
    have hS : ∀ b ∈ ce ++ te.map (·.1), Sof listed b.i := fun b hb => hall b.i (List.getElem?_eq_some_iff.1 (R.opr b hb)).1
    rcases I.j with ⟨e, J⟩ | ⟨e, τ, done, todo, J⟩
    · obtain ⟨h1, h2, h3, h4⟩ := (J.two R hW0 fun b hb hn => absurd (hS b (List.mem_append_left _ hb)) hn).done R hS
      exact hQ e a w h1 h2 h3 h4 I.tmps I.defers
    · obtain ⟨h1, h2, h3, h4⟩ := J.done R hS
      exact hQ e a w h1 h2 h3 h4 I.tmps I.defers
  have hsz' : ops'.size = ops.length := by rw [← ho]; simp
  intro fuel
  induction fuel with
  | zero =>
    intro listed a w I hc
    have hr : Region.ready .any ops' listed = [] := by
      rw [List.eq_nil_iff_forall_not_mem]
      intro i hi
      rw [ready_mem (by rw [I.size, hsz'])] at hi
      have hf : false ∈ listed.toList := by
        have hl : i < listed.size := by rw [I.size]; omega
        have hg := hi.2.1
        unfold Sof at hg
        rw [Array.getD_eq_getD_getElem?] at hg
        simp [hl] at hg
        rw [← hg]; simp
      have := List.count_pos_iff.2 hf
      omega
    exact ⟨hr, fin listed a w I hr⟩
  | succ fuel ih =>
    intro listed a w I hc
    refine ⟨fin listed a w I, fun i hi => ?_⟩
    have hi' := hi
    rw [ready_mem (by rw [I.size, hsz'])] at hi'
    refine wpOpIn_mono (fun a' w' I' => ih _ a' w' I' ?_) (I.step hrec R ho hW0 hfit hi)
    have hl : i < listed.toList.length := by simp [I.size]; omega
    have hg : listed.toList[i] = false := by
      have hg := hi'.2.1
      unfold Sof at hg
      rw [Array.getD_eq_getD_getElem?] at hg
      have : i < listed.size := by simpa using hl
      simp [this] at hg
      simpa using hg
    have hcount := List.count_set (b := false) (a := true) (l := listed.toList) (i := i) hl
    have e1 : (listed.toList[i] == false) = true := by rw [hg]; rfl
    have e2 : ¬ ((true == false) = true) := by decide
    rw [Array.toList_setIfInBounds, hcount, if_pos e1, if_neg e2]
    omega
end
end Go.AM
