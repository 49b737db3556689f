/- The abstract machine: what the plan of a region that draws its order says. -/
import Derived.Test.YtfmpoodienmieaaAm20
namespace Go.AM
theorem hasBit_eq (m n : Nat) : hasBit m n = m.testBit n := by
  show Nat.beq (m / 2 ^ n % 2) 1 = _
  rw [Nat.testBit_eq_decide_div_mod_eq, Bool.eq_iff_iff]; simp
theorem bitN_bit (n i : Nat) : (bitN n).testBit i = decide (n = i) := by
  show (2 ^ n).testBit i = _
  rw [Nat.testBit_two_pow]
theorem apart_bit {a b : Nat} (h : apartN a b = true) (i : Nat) : ¬ (a.testBit i = true ∧ b.testBit i = true) := by
  have h0 : a &&& b = 0 := by simpa [apartN] using h
  rintro ⟨h1, h2⟩
  have := Nat.testBit_and a b i
  rw [h0, h1, h2] at this
  simp at this
theorem bit_lt {m i j : Nat} (h : m < 2 ^ i) (hj : m.testBit j = true) : j < i := by
  rcases Nat.lt_or_ge j i with h1 | h1
  · exact h1
  · have : m < 2 ^ j := Nat.lt_of_lt_of_le h (Nat.pow_le_pow_right (by omega) h1)
    rw [Nat.testBit_lt_two_pow this] at hj; cases hj
theorem getN_eq (l : List Nat) (i : Nat) : getN l i = l.getD i 0 := by
  induction l generalizing i with
  | nil => rfl
  | cons a l ih => cases i with
    | zero => rfl
    | succ i => show getN l i = _; rw [ih]; simp
def Pr (ops : List Oper) (i j : Nat) : Prop := hasBit (getN (predsA ops) i) j = true
theorem predsGo_nil (acc : List Nat) : predsGo [] acc = acc := rfl
theorem predsGo_cons (o : Oper) (l : List Oper) (acc : List Nat) : predsGo (o :: l) acc = predsGo l (acc ++ [edgeBits acc o.after.toList]) := rfl
theorem predsGo_append (a b : List Oper) (acc : List Nat) : predsGo (a ++ b) acc = predsGo b (predsGo a acc) := by
  induction a generalizing acc with
  | nil => rfl
  | cons o a ih => exact ih _
theorem predsGo_prefix (l : List Oper) (acc : List Nat) : ∃ r, predsGo l acc = acc ++ r ∧ r.length = l.length := by
  induction l generalizing acc with
  | nil => exact ⟨[], by simp [predsGo_nil], rfl⟩
  | cons o l ih =>
    obtain ⟨r, h1, h2⟩ := ih (acc ++ [edgeBits acc o.after.toList])
    exact ⟨edgeBits acc o.after.toList :: r, by rw [predsGo_cons, h1]; simp, by simp [h2]⟩
theorem edgeBits_bit {acc : List Nat} {l : List Edge} {j : Nat} (h : (edgeBits acc l).testBit j = true) : ∃ e ∈ l, bindsAny e = true ∧ (j = e.on ∨ (getN acc e.on).testBit j = true) := by
  induction l with
  | nil => replace h : (0 : Nat).testBit j = true := h; simp at h
  | cons e l ih =>
    replace h : (bc (bindsAny e) (Nat.lor (bitN e.on) (Nat.lor (getN acc e.on) (edgeBits acc l))) (edgeBits acc l)).testBit j = true := h
    rw [bc_eq] at h
    split at h
    · rename_i hb
      replace h : (bitN e.on ||| (getN acc e.on ||| edgeBits acc l)).testBit j = true := h
      rw [Nat.testBit_or, Nat.testBit_or, Bool.or_eq_true, Bool.or_eq_true, bitN_bit] at h
      rcases h with h | h | h
      · exact ⟨e, List.mem_cons_self .., hb, .inl (by simpa using Eq.symm (of_decide_eq_true h))⟩
      · exact ⟨e, List.mem_cons_self .., hb, .inr h⟩
      · obtain ⟨e', h1, h2⟩ := ih h; exact ⟨e', List.mem_cons_of_mem _ h1, h2⟩
    · obtain ⟨e', h1, h2⟩ := ih h; exact ⟨e', List.mem_cons_of_mem _ h1, h2⟩
/-- What comes before an operation comes before through an edge that binds. -/
theorem pr_edge {ops : List Oper} {i j : Nat} {o : Oper} (ho : ops[i]? = some o) (h : Pr ops i j) : ∃ e ∈ o.after.toList, bindsAny e = true ∧ (j = e.on ∨ Pr ops e.on j) := by
  have hi : i < ops.length := (List.getElem?_eq_some_iff.1 ho).1
  have hsplit : ops = ops.take i ++ o :: ops.drop (i + 1) := by
    have h1 := List.take_append_drop i ops
    rw [List.drop_eq_getElem_cons hi] at h1
    have h2 : ops[i] = o := (List.getElem?_eq_some_iff.1 ho).2
    rw [h2] at h1; exact h1.symm
  obtain ⟨r1, e1, l1⟩ := predsGo_prefix (ops.take i) []
  rw [List.nil_append] at e1
  have hl1 : r1.length = i := by rw [l1, List.length_take]; omega
  obtain ⟨r2, e2, _⟩ := predsGo_prefix (ops.drop (i + 1)) (r1 ++ [edgeBits r1 o.after.toList])
  have hp : predsA ops = r1 ++ [edgeBits r1 o.after.toList] ++ r2 := by
    have : predsA ops = predsGo (ops.take i ++ o :: ops.drop (i + 1)) [] := by rw [← hsplit]; rfl
    rw [this, predsGo_append, e1, predsGo_cons]
    exact e2
  have hgi : getN (predsA ops) i = edgeBits r1 o.after.toList := by rw [getN_eq, hp]; simp [List.getD, ← hl1]
  unfold Pr at h
  rw [hgi, hasBit_eq] at h
  obtain ⟨e, h1, h2, h3⟩ := edgeBits_bit h
  refine ⟨e, h1, h2, ?_⟩
  rcases h3 with h3 | h3
  · exact .inl h3
  · refine .inr ?_
    unfold Pr
    rw [hasBit_eq]
    rcases Nat.lt_or_ge e.on r1.length with hlt | hge
    · have : getN (predsA ops) e.on = getN r1 e.on := by
        rw [getN_eq, getN_eq, hp, List.append_assoc]
        simp [List.getD, List.getElem?_append_left hlt]
      rw [this]; exact h3
    · rw [getN_eq] at h3
      simp [List.getD, List.getElem?_eq_none hge] at h3
theorem operands_bit {l : List Operand} {s : Nat} : (operandsBits l).testBit s = true ↔ Operand.tmp s ∈ l := by
  induction l with
  | nil => show (0 : Nat).testBit s = true ↔ _; simp
  | cons x l ih =>
    show (operandBit x ||| operandsBits l).testBit s = true ↔ _
    rw [Nat.testBit_or, Bool.or_eq_true, ih, List.mem_cons]
    have : (operandBit x).testBit s = true ↔ Operand.tmp s = x := by
      cases x with
      | tmp t => show (bitN t).testBit s = true ↔ _; rw [bitN_bit]; simp; exact eq_comm
      | const v => show (0 : Nat).testBit s = true ↔ _; simp
      | global g => show (0 : Nat).testBit s = true ↔ _; simp
      | func f => show (0 : Nat).testBit s = true ↔ _; simp
    rw [this]
theorem dst_bit {o : Oper} {s : Nat} : (dstBit o).testBit s = true ↔ o.dst = some s := by
  unfold dstBit
  cases o.dst with
  | none => show (0 : Nat).testBit s = true ↔ _; simp
  | some d => show (bitN d).testBit s = true ↔ _; rw [bitN_bit]; simp
theorem names_bit {ops : List Oper} {o : Oper} {s : Nat} : (namesBits ops o).testBit s = true ↔ names ops o s := by
  unfold namesBits names
  show (dstBit o ||| (operandsBits o.op.operands.toList ||| _)).testBit s = true ↔ _
  rw [Nat.testBit_or, Nat.testBit_or, Bool.or_eq_true, Bool.or_eq_true, dst_bit, operands_bit]
  have : (oe (guardOf ops o) 0 fun g => oe g.1 0 fun d => bitN d).testBit s = true ↔ ∃ g, guardOf ops o = some g ∧ g.1 = some s := by
    cases guardOf ops o with
    | none => show (0 : Nat).testBit s = true ↔ _; simp
    | some g =>
      obtain ⟨g1, g2⟩ := g
      cases g1 with
      | none => show (0 : Nat).testBit s = true ↔ _; simp
      | some d => show (bitN d).testBit s = true ↔ _; rw [bitN_bit]; simp
  rw [this]
theorem slotsRow_mem {m d n : Nat} {row : List (Nat × Nat × Nat)} (h : slotsRow m d n row = true) : ∀ q ∈ row, hasBit m q.1 = true ∨ (apartN q.2.1 n = true ∧ apartN d q.2.2 = true) := by
  induction row with
  | nil => intro q hq; cases hq
  | cons r row ih =>
    intro q hq
    replace h : bc (hasBit m r.1) (slotsRow m d n row) (bc (apartN r.2.1 n) (bc (apartN d r.2.2) (slotsRow m d n row) false) false) = true := h
    rw [bc_eq] at h
    cases hq with
    | head =>
      split at h
      · rename_i hb; exact .inl hb
      · rw [bc_and, bc_and] at h
        simp only [Bool.and_eq_true] at h
        exact .inr ⟨h.1, h.2.1⟩
    | tail _ hq =>
      split at h
      · exact ih h q hq
      · rw [bc_and, bc_and] at h
        simp only [Bool.and_eq_true] at h
        exact ih h.2.2 q hq
theorem orderOk_facts {ops : List Oper} {ps : List Nat} : ∀ (l : List Oper) (i : Nat) (row : List (Nat × Nat × Nat)), orderOk ops ps l i row = true → ∀ k o, l[k]? = some o →
    getN ps (i + k) < 2 ^ (i + k) ∧ (∀ g, o.guard = some g → hasBit (getN ps (i + k)) g.1 = true) ∧
    (∀ q ∈ row, hasBit (getN ps (i + k)) q.1 = true ∨ (apartN q.2.1 (namesBits ops o) = true ∧ apartN (dstBit o) q.2.2 = true)) ∧
    ∀ k' o', k' < k → l[k']? = some o' → hasBit (getN ps (i + k)) (i + k') = true ∨ (apartN (dstBit o') (namesBits ops o) = true ∧ apartN (dstBit o) (namesBits ops o') = true) := by
  intro l
  induction l with
  | nil => intro i row h k o ho; simp at ho
  | cons a l ih =>
    intro i row h k o ho
    replace h : bc (Nat.blt (getN ps i) (bitN i)) (bc (oe a.guard true fun g => hasBit (getN ps i) g.1)
      (bc (slotsRow (getN ps i) (dstBit a) (namesBits ops a) row) (orderOk ops ps l (i + 1) ((i, dstBit a, namesBits ops a) :: row)) false) false) false = true := h
    rw [bc_and, bc_and, bc_and] at h
    simp only [Bool.and_eq_true] at h
    obtain ⟨h1, h2, h3, h4⟩ := h
    cases k with
    | zero =>
      simp at ho
      subst ho
      refine ⟨?_, fun g hg => by rw [hg] at h2; exact h2, slotsRow_mem h3, fun k' o' hk' => by omega⟩
      have : getN ps i < bitN i := by simpa [Nat.blt_eq] using h1
      exact this
    | succ k =>
      simp at ho
      obtain ⟨g1, g2, g3, g4⟩ := ih (i + 1) _ h4 k o ho
      have e1 : i + 1 + k = i + (k + 1) := by omega
      rw [e1] at g1 g2 g3 g4
      refine ⟨g1, g2, fun q hq => g3 q (List.mem_cons_of_mem _ hq), fun k' o' hk' ho' => ?_⟩
      cases k' with
      | zero =>
        simp at ho'
        subst ho'
        exact g3 _ (List.mem_cons_self ..)
      | succ k' =>
        simp at ho'
        have := g4 k' o' (by omega) ho'
        have e2 : i + 1 + k' = i + (k' + 1) := by omega
        rw [e2] at this
        exact this
theorem distinct_facts : ∀ (l : List Oper) (m : Nat), distinctA l m = true → (∀ o ∈ l, ∀ s, o.dst = some s → m.testBit s = false) ∧ ∀ (i j : Nat) (o o' : Oper) (s : Tmp), l[i]? = some o → l[j]? = some o' → i ≠ j → o.dst = some s → o'.dst ≠ some s := by
  intro l
  induction l with
  | nil => intro m _; exact ⟨fun o ho => (by cases ho), fun i j o o' s h => (by simp at h)⟩
  | cons a l ih =>
    intro m h
    replace h : bc (apartN (dstBit a) m) (distinctA l (Nat.lor (dstBit a) m)) false = true := h
    rw [bc_and, Bool.and_eq_true] at h
    obtain ⟨h1, h2⟩ := ih _ h.2
    have hor : ∀ s, (Nat.lor (dstBit a) m).testBit s = false → (dstBit a).testBit s = false ∧ m.testBit s = false := fun s hs => by
      have : (dstBit a ||| m).testBit s = false := hs
      rw [Nat.testBit_or, Bool.or_eq_false_iff] at this
      exact this
    refine ⟨fun o ho s hs => ?_, fun i j o o' s hi hj hij hs => ?_⟩
    · cases ho with
      | head =>
        cases hm : m.testBit s with
        | false => rfl
        | true => exact absurd ⟨dst_bit.2 hs, hm⟩ (apart_bit h.1 s)
      | tail _ ho => exact (hor s (h1 o ho s hs)).2
    · cases i with
      | zero =>
        cases j with
        | zero => omega
        | succ j =>
          simp at hi hj
          subst hi
          intro hs'
          have := (hor s (h1 o' (List.mem_of_getElem? hj) s hs')).1
          rw [dst_bit.2 hs] at this; cases this
      | succ i =>
        cases j with
        | zero =>
          simp at hi hj
          subst hj
          intro hs'
          have := (hor s (h1 o (List.mem_of_getElem? hi) s hs)).1
          rw [dst_bit.2 hs'] at this; cases this
        | succ j =>
          simp at hi hj
          exact h2 i j o o' s hi hj (by omega) hs
end Go.AM
