/- The abstract machine: the plan, said plainly. -/
import Derived.Test.YtfmpoodienmieaaAm21
namespace Go.AM
noncomputable def kd (ops : List Oper) (i : Nat) : Nat := getN (kindsA ops) i
theorem kd_eq {ops : List Oper} {i : Nat} {o : Oper} (h : ops[i]? = some o) : kd ops i = Op.kindA o.op := by
  unfold kd kindsA
  rw [getN_eq]
  simp [List.getD, h]
structure PlanOk (ops : List Oper) (c t : List Nat) : Prop where
  all : ∀ i, i < ops.length → i ∈ c ∨ i ∈ t
  one : ∀ i, i ∈ c → i ∈ t → False
  ltC : ∀ i ∈ c, i < ops.length
  ltT : ∀ i ∈ t, i < ops.length
  sortC : c.Pairwise (· < ·)
  sortT : t.Pairwise (· < ·)
  lt : ∀ i j, i < ops.length → Pr ops i j → j < i
  guard : ∀ (i : Nat) (o : Oper) (g : Nat × Bool), ops[i]? = some o → o.guard = some g → Pr ops i g.1
  apart : ∀ (i j : Nat) (o o' : Oper), ops[i]? = some o → ops[j]? = some o' → j < i → Pr ops i j ∨ ((∀ s, o'.dst = some s → ¬ names ops o s) ∧ ∀ s, o.dst = some s → ¬ names ops o' s)
  distinct : ∀ (i j : Nat) (o o' : Oper) (s : Tmp), ops[i]? = some o → ops[j]? = some o' → i ≠ j → o.dst = some s → o'.dst ≠ some s
  closed : ∀ i ∈ c, ∀ j, Pr ops i j → j ∈ c
  rooted : ∀ b ∈ t, kd ops b = 0 → ∃ d ∈ t, kd ops d ≠ 0 ∧ Pr ops b d
  behind : ∀ b ∈ t, kd ops b = 0 ∨ (3 ≤ kd ops b ∧ ∀ j ∈ c, kd ops j = 0 ∨ Pr ops b j ∨ (kd ops b = 3 ∧ kd ops j = 1 ∧ j ∈ racesOf (kindsA ops) (predsA ops) b))
  chain : t.Pairwise fun b d => kd ops b = 0 ∨ kd ops d = 0 ∨ Pr ops d b
  steady : ∀ b ∈ t, ∀ j ∈ racesOf (kindsA ops) (predsA ops) b, ∀ (a : Nat) (oa oj : Oper), ops[a]? = some oa → ops[j]? = some oj → Pr ops j a ∨ ∀ s, oa.dst = some s → Operand.tmp s ∉ oj.op.operands.toList
theorem chain_pairwise {ops : List Oper} : ∀ {l : List Nat}, chainC (kindsA ops) (predsA ops) l = true → l.Pairwise fun b d => kd ops b = 0 ∨ kd ops d = 0 ∨ Pr ops d b := by
  intro l
  induction l with
  | nil => intro _; exact .nil
  | cons b r ih =>
    intro h
    unfold chainC at h
    rw [Bool.and_eq_true, Bool.or_eq_true] at h
    refine .cons (fun d hd => ?_) (ih h.2)
    rcases h.1 with h1 | h1
    · exact .inl (by simpa [kd] using h1)
    · rw [List.all_eq_true] at h1
      have := h1 d hd
      rw [Bool.or_eq_true] at this
      rcases this with h2 | h2
      · exact .inr (.inl (by simpa [kd] using h2))
      · exact .inr (.inr h2)
theorem plan_ok {ops : List Oper} {p : List Nat × List (Nat × List Nat)} (h : planA ops = some p) :
    p = (calmL ops, (tailL ops).map fun i => (i, racesOf (kindsA ops) (predsA ops) i)) ∧ PlanOk ops (calmL ops) (tailL ops) := by
  unfold planA at h
  rw [bc_none, bc_and, bc_and, Bool.and_eq_true, Bool.and_eq_true] at h
  obtain ⟨⟨⟨ho, hd⟩, hc⟩, h⟩ := h
  cases h
  refine ⟨rfl, ?_⟩
  unfold checkC at hc
  rw [Bool.and_eq_true, Bool.and_eq_true, Bool.and_eq_true] at hc
  obtain ⟨⟨⟨hcl, hbe⟩, hch⟩, hst⟩ := hc
  have hmt : ∀ i, i ∈ tailL ops → i < ops.length := fun i hi => by
    unfold tailL tailList at hi
    rw [List.mem_filter] at hi
    simpa using hi.1
  have hmc : ∀ i, i ∈ calmL ops ↔ i < ops.length ∧ i ∉ tailL ops := fun i => by
    unfold calmL
    rw [List.mem_filter]
    simp
  have facts : ∀ (k : Nat) (o : Oper), ops[k]? = some o → getN (predsA ops) k < 2 ^ k ∧ (∀ g, o.guard = some g → hasBit (getN (predsA ops) k) g.1 = true) ∧
      ∀ (k' : Nat) (o' : Oper), k' < k → ops[k']? = some o' → hasBit (getN (predsA ops) k) k' = true ∨ (apartN (dstBit o') (namesBits ops o) = true ∧ apartN (dstBit o) (namesBits ops o') = true) := fun k o hk => by
    have := orderOk_facts ops 0 [] ho k o hk
    simp only [Nat.zero_add] at this
    exact ⟨this.1, this.2.1, this.2.2.2⟩
  have hlt : ∀ i j, i < ops.length → Pr ops i j → j < i := fun i j hi hp => by
    have := (facts i _ (List.getElem?_eq_getElem hi)).1
    unfold Pr at hp
    rw [hasBit_eq] at hp
    exact bit_lt this hp
  refine ⟨fun i hi => ?_, fun i h1 h2 => ((hmc i).1 h1).2 h2, fun i hi => ((hmc i).1 hi).1, hmt, ?_, ?_, hlt, fun i o g hi hg => (facts i o hi).2.1 g hg, fun i j o o' hi hj hji => ?_,
    fun i j o o' s hi hj hij hs => (distinct_facts ops 0 hd).2 i j o o' s hi hj hij hs, fun i hi j hp => ?_, fun b hb h0 => ?_, fun b hb => ?_, chain_pairwise hch, fun b hb j hj a oa oj ha hoj => ?_⟩
  · by_cases h : i ∈ tailL ops
    · exact .inr h
    · exact .inl ((hmc i).2 ⟨hi, h⟩)
  · unfold calmL; exact List.Pairwise.filter _ List.pairwise_lt_range
  · unfold tailL tailList; exact List.Pairwise.filter _ List.pairwise_lt_range
  · rcases (facts i o hi).2.2 j o' hji hj with h1 | ⟨h1, h2⟩
    · exact .inl h1
    · exact .inr ⟨fun s hs hn => apart_bit h1 s ⟨dst_bit.2 hs, names_bit.2 hn⟩, fun s hs hn => apart_bit h2 s ⟨dst_bit.2 hs, names_bit.2 hn⟩⟩
  · have hil := ((hmc i).1 hi).1
    have hji := hlt i j hil hp
    refine (hmc j).2 ⟨by omega, fun hjt => ?_⟩
    unfold closedC at hcl
    rw [List.all_eq_true] at hcl
    have := hcl i hi
    rw [List.all_eq_true] at this
    have := this j hjt
    unfold Pr at hp
    rw [hp] at this; cases this
  · unfold behindC at hbe
    rw [List.all_eq_true] at hbe
    have := hbe b hb
    rw [Bool.or_eq_true, Bool.and_eq_true, Bool.and_eq_true] at this
    rcases this with ⟨_, h1⟩ | ⟨h1, _⟩
    · rw [List.any_eq_true] at h1
      obtain ⟨d, hd, h2⟩ := h1
      rw [Bool.and_eq_true] at h2
      refine ⟨d, hd, fun h3 => ?_, h2.2⟩
      have h4 := h2.1
      unfold kd at h3
      rw [h3] at h4; cases h4
    · unfold kd at h0
      rw [h0] at h1; cases h1
  · unfold behindC at hbe
    rw [List.all_eq_true] at hbe
    have := hbe b hb
    rw [Bool.or_eq_true, Bool.and_eq_true, Bool.and_eq_true] at this
    rcases this with ⟨h1, _⟩ | ⟨h1, h2⟩
    · exact .inl (by simpa [kd] using h1)
    · refine .inr ⟨by simpa [kd] using h1, fun j hj => ?_⟩
      rw [List.all_eq_true] at h2
      have := h2 j hj
      rw [Bool.or_eq_true, Bool.or_eq_true, Bool.and_eq_true, Bool.and_eq_true] at this
      rcases this with (h3 | h3) | ⟨⟨h3, h4⟩, h5⟩
      · exact .inl (by simpa [kd] using h3)
      · exact .inr (.inl h3)
      · exact .inr (.inr ⟨by simpa [kd] using h3, by simpa [kd, isRead] using h4, by simpa using h5⟩)
  · unfold steadyC at hst
    rw [List.all_eq_true] at hst
    have := hst b hb
    rw [List.all_eq_true] at this
    have := this j hj
    rw [List.all_eq_true] at this
    have hal : a < ops.length := (List.getElem?_eq_some_iff.1 ha).1
    have := this a (List.mem_range.2 hal)
    rw [Bool.or_eq_true] at this
    rcases this with h1 | h1
    · exact .inl h1
    · rw [ha, hoj] at h1
      replace h1 : apartN (dstBit oa) (operandsBits oj.op.operands.toList) = true := h1
      exact .inr fun s hs hn => apart_bit h1 s ⟨dst_bit.2 hs, operands_bit.2 hn⟩
end Go.AM
