/- The abstract machine: it is sound. -/
import Derived.Test.YtfmpoodienmieaaAm28
namespace Go.AM
variable {P : Program}
theorem filterMap_fst {ops : List Oper} : ∀ (l : List Nat), (∀ i ∈ l, i < ops.length) → (l.filterMap fun i => (ops[i]?).map fun o => (i, o)).map (·.1) = l := by
  intro l
  induction l with
  | nil => intro _; rfl
  | cons i l ih =>
    intro h
    have hi := h i (List.mem_cons_self ..)
    rw [List.filterMap_cons, List.getElem?_eq_getElem hi]
    simp only [Option.map_some, List.map_cons]
    rw [ih fun j hj => h j (List.mem_cons_of_mem _ hj)]
theorem filterMap_tail {ops : List Oper} (f : Nat → List Nat) : ∀ (l : List Nat), (∀ i ∈ l, i < ops.length) →
    ((l.map fun i => (i, f i)).filterMap fun q => (ops[q.1]?).map fun o => (⟨q.1, o, q.2.filterMap (ops[·]?)⟩ : TailOp)).map (·.i) = l ∧
    ∀ p ∈ ((l.map fun i => (i, f i)).filterMap fun q => (ops[q.1]?).map fun o => (⟨q.1, o, q.2.filterMap (ops[·]?)⟩ : TailOp)), ops[p.i]? = some p.o ∧ p.races = (f p.i).filterMap (ops[·]?) := by
  intro l
  induction l with
  | nil => intro _; exact ⟨rfl, fun p hp => by simp at hp⟩
  | cons i l ih =>
    intro h
    have hi := h i (List.mem_cons_self ..)
    obtain ⟨h1, h2⟩ := ih fun j hj => h j (List.mem_cons_of_mem _ hj)
    rw [List.map_cons, List.filterMap_cons, List.getElem?_eq_getElem hi]
    simp only [Option.map_some, List.map_cons]
    refine ⟨by rw [h1], fun p hp => ?_⟩
    rcases List.mem_cons.1 hp with h3 | h3
    · subst h3; exact ⟨List.getElem?_eq_getElem hi, rfl⟩
    · exact h2 p h3
theorem draw_ok {rec : Rec} (hrec : RecOk P rec) (hm : P.follows .mixedOrders = true) : DrawOk P rec := by
  intro kept id ops' e fr F a w res hF hf h
  unfold drawK at h
  rw [ob_eq] at h; obtain ⟨c, hc, h⟩ := h
  rw [ob_eq] at h; obtain ⟨q, hq, h⟩ := h
  unfold calmOps at hc
  unfold tailOps at hq
  cases hp : planA ops'.toList with
  | none => rw [hp] at hc; cases hc
  | some p =>
    rw [hp] at hc hq
    simp only [Option.map_some, Option.some.injEq] at hc hq
    obtain ⟨hpe, hpl⟩ := plan_ok hp
    subst hpe
    simp only at hc hq
    obtain ⟨ce, l1, t1, σm, hct, h⟩ := calmK_ct _ _ _ _ h
    obtain ⟨te, lf, tf, σf, htt, h⟩ := tailK_tt _ _ _ _ h
    replace h : some (tf, σf) = some res := h
    cases h
    obtain ⟨s1, s2, s3⟩ := hct.st
    obtain ⟨u1, u2, u3, u4⟩ := htt.st
    have hci : ce.map (·.i) = calmL ops'.toList := by
      have : ce.map (·.i) = (ce.map fun b => (b.i, b.o)).map (·.1) := by simp
      rw [this, s2, ← hc, filterMap_fst _ hpl.ltC]
    obtain ⟨v1, v2⟩ := filterMap_tail (ops := ops'.toList) (racesOf (kindsA ops'.toList) (predsA ops'.toList)) (tailL ops'.toList) hpl.ltT
    have hti : te.map (·.1.i) = tailL ops'.toList := by
      have : te.map (·.1.i) = (te.map fun b => (⟨b.1.i, b.1.o, b.2⟩ : TailOp)).map (·.i) := by simp
      rw [this, u2, ← hq, v1]
    have hco : ∀ b ∈ ce, ops'.toList[b.i]? = some b.o := fun b hb => by
      have h1 : (b.i, b.o) ∈ c := by rw [← s2]; exact List.mem_map.2 ⟨b, hb, rfl⟩
      rw [← hc, List.mem_filterMap] at h1
      obtain ⟨i, _, h2⟩ := h1
      cases ho : ops'.toList[i]? with
      | none => rw [ho] at h2; cases h2
      | some o => rw [ho] at h2; simp at h2; obtain ⟨rfl, rfl⟩ := h2; exact ho
    have hto : ∀ p ∈ te, ops'.toList[p.1.i]? = some p.1.o ∧ p.2 = (racesOf (kindsA ops'.toList) (predsA ops'.toList) p.1.i).filterMap (ops'.toList[·]?) := fun p hp => by
      have h1 : (⟨p.1.i, p.1.o, p.2⟩ : TailOp) ∈ q := by rw [← u2]; exact List.mem_map.2 ⟨p, hp, rfl⟩
      rw [← hq] at h1
      exact v2 _ h1
    obtain ⟨hW1, hG1⟩ := drew_sound hF.w
    have hk0 : KRel kept [] fr.t := ⟨hF.k, fun i v h => by cases h⟩
    have hfm := fits_mem hf
    obtain ⟨m1, m2, m3, m4, m5, m6, m7⟩ := hct.mem hrec e a w.drew ⟨hW1, hF.t, hk0⟩ (fun p hp => by
      have h1 : ops'.toList[p.1]? = some p.2 := by
        rw [← s2] at hp
        obtain ⟨b, hb, rfl⟩ := List.mem_map.1 hp
        exact hco b hb
      exact hfm _ (List.mem_of_getElem? h1))
    have hopr : ∀ b ∈ ce ++ te.map (·.1), ops'.toList[b.i]? = some b.o := fun b hb => by
      rcases List.mem_append.1 hb with h | h
      · exact hco b h
      · obtain ⟨p, hp, rfl⟩ := List.mem_map.1 h; exact (hto p hp).1
    have R : Reg P rec kept ops'.toList ce te fr.t lf tf fr.σ σm σf := {
      plan := by rw [hci, hti]; exact hpl
      opr := hopr
      did := fun b hb => by
        rcases List.mem_append.1 hb with h | h
        · exact s3 b h
        · obtain ⟨p, hp, rfl⟩ := List.mem_map.1 h; exact (u3 p hp).1
      str := s1.append u1
      krel := hk0
      mem := m1
      memT := m2
      memP := m3
      wall := m4
      low := m5
      ts := u4
      race := fun p hp => (u3 p hp).2
      raceI := fun p hp => (hto p hp).2 }
    obtain ⟨r, rfl⟩ := hF.fr
    have later : ∀ κ : St, Later fr.σ κ → (∀ i B, κ.heap.get i = some B → i < κ.next) → WRel e κ w.drew := fun κ hL hb =>
      ⟨fun i L hi => ⟨Nat.lt_of_lt_of_le (hW1.dom i L hi).1 hL.1, fun hn => (hW1.dom i L hi).2 (by rw [← hL.2 i (hW1.dom i L hi).1]; exact hn)⟩,
        fun i L B hi hB => hW1.blk i L B hi (by rw [← hL.2 i (hW1.dom i L hi).1]; exact hB),
        fun i j L M B C hij hi hj hB hC hr => hW1.sep i j L M B C hij hi hj (by rw [← hL.2 i (hW1.dom i L hi).1]; exact hB) (by rw [← hL.2 j (hW1.dom j M hj).1]; exact hC) hr, hb⟩
    have hS0 : ∀ i, ¬ Sof (Array.replicate ops'.size false) i := fun i h => by
      unfold Sof at h
      rw [Array.getD_eq_getD_getElem?] at h
      by_cases hi : i < ops'.size <;> simp [hi] at h
    have I0 : Inv ops'.toList ce te fr.t fr.σ σm σf e w.drew a.tmps.size a.defers (Array.replicate ops'.size false) a w.drew := by
      refine ⟨by simp, fun i _ h => absurd h (hS0 i), rfl, rfl, .inl ⟨e, ?_⟩⟩
      refine ⟨fun s => ⟨fun b _ h => absurd h (hS0 _), fun _ => hF.t s⟩, fun b hb => ?_, later σm m2 m7, fun b hb _ x hx _ => hW1.none_top (Nat.le_trans (m1 b hb).1.1 hx), fun p _ _ => hS0 _, .refl e, fun _ _ => rfl, Nat.le_refl _, rfl, rfl, rfl, fun _ _ => rfl, fun _ _ h => .inl h⟩
      have hcut : cut e b.σ.next = e := cut_top fun x hx => hW1.none_top (Nat.le_trans (m1 b hb).1.1 hx)
      rw [hcut]
      exact later b.σ (m1 b hb).1 (m6 b hb)
    refine wpIn_region_any hm ?_
    refine any_sound hrec R rfl hW1 (fun b hb => hfm _ (List.mem_of_getElem? (hopr b hb))) (fun e' a' w' h1 h2 h3 h4 h5 h6 => ?_) ops'.size _ a _ I0 ?_
    · exact ⟨rfl, rfl, h5, e', ⟨h1, h3, h4, hF.r.mono h2.env, by rw [h6]; exact hF.d.mono h2.env⟩, hG1.trans h2⟩
    · simp
theorem run_sound {Γ : Tab} (hΓ : TabOk P Γ) (hm : P.follows .mixedOrders = true) (n : Nat) : RecOk P (runF P Γ n) := run_ok hΓ (fun _ h => draw_ok h hm) n
#print axioms run_sound
end Go.AM
