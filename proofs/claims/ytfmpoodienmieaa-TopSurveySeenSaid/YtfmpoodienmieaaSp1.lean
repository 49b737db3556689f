/- Plain laws: the largest ranges of neighbouring numbers for which something holds. -/
import Derived.Test.YtfmpoodienmieaaSv9
namespace Go.AM.W
variable {p q : Int → Bool} {lo : Int}
theorem mem_step {p : Int → Bool} {n : Int} {out : List (Int × Int)} {g : Int × Int} (h : g ∈ stepR p n out) : g ∈ out ∨ (p n = true ∧ (g = (n, n) ∨ ∃ r, out.getLast? = some r ∧ r.2 = n - 1 ∧ g = (r.1, n))) := by
  unfold stepR at h
  split at h
  · rename_i hp
    split at h
    · rename_i r hr
      split at h
      · rename_i h2
        rcases List.mem_append.1 h with h | h
        · exact .inl ((List.dropLast_sublist out).subset h)
        · exact .inr ⟨hp, .inr ⟨r, hr, h2, List.mem_singleton.1 h⟩⟩
      · rcases List.mem_append.1 h with h | h
        · exact .inl h
        · exact .inr ⟨hp, .inl (List.mem_singleton.1 h)⟩
    · rcases List.mem_append.1 h with h | h
      · exact .inl h
      · exact .inr ⟨hp, .inl (List.mem_singleton.1 h)⟩
  · exact .inl h
theorem runs_in (k : Nat) : ∀ g ∈ runsL p lo k, lo ≤ g.1 ∧ g.1 ≤ g.2 ∧ g.2 < lo + k ∧ ∀ x, g.1 ≤ x → x ≤ g.2 → p x = true := by
  induction k with
  | zero => intro g h; cases h
  | succ k ih =>
    intro g h
    rcases mem_step h with h | ⟨hp, rfl | ⟨r, hr, h2, rfl⟩⟩
    · obtain ⟨h1, h2, h3, h4⟩ := ih g h
      exact ⟨h1, h2, by omega, h4⟩
    · refine ⟨by simp only; omega, by simp only; omega, by simp only; omega, fun x h1 h2 => ?_⟩
      simp only at h1 h2
      obtain rfl : x = lo + k := by omega
      exact hp
    · obtain ⟨h1, h3, h4, h5⟩ := ih r (List.mem_of_getLast? hr)
      refine ⟨h1, by simp only; omega, by simp only; omega, fun x h6 h7 => ?_⟩
      simp only at h6 h7
      by_cases hx : x = lo + k
      · rw [hx]; exact hp
      · exact h5 x h6 (by omega)
theorem step_keeps {p : Int → Bool} {n : Int} {out : List (Int × Int)} {r : Int × Int} (h : r ∈ out) (hn : ∀ r ∈ out, r.2 < n) : ∃ g ∈ stepR p n out, g.1 ≤ r.1 ∧ r.2 ≤ g.2 := by
  unfold stepR
  split
  · split
    · rename_i s hs
      split
      · rename_i h2
        have hne : out ≠ [] := by intro e; rw [e] at h; cases h
        have hsplit : out = out.dropLast ++ [s] := by
          rw [List.getLast?_eq_some_getLast hne] at hs
          cases hs
          exact (List.dropLast_concat_getLast hne).symm
        rw [hsplit] at h
        rcases List.mem_append.1 h with h | h
        · exact ⟨r, List.mem_append.2 (.inl h), Int.le_refl _, Int.le_refl _⟩
        · rw [List.mem_singleton.1 h]
          exact ⟨(s.1, n), List.mem_append.2 (.inr (List.mem_singleton.2 rfl)), Int.le_refl _, by simp only; omega⟩
      · exact ⟨r, List.mem_append.2 (.inl h), Int.le_refl _, Int.le_refl _⟩
    · exact ⟨r, List.mem_append.2 (.inl h), Int.le_refl _, Int.le_refl _⟩
  · exact ⟨r, h, Int.le_refl _, Int.le_refl _⟩
theorem runs_keeps {r : Int × Int} {k : Nat} (h : r ∈ runsL p lo k) : ∀ m, k ≤ m → ∃ g ∈ runsL p lo m, g.1 ≤ r.1 ∧ r.2 ≤ g.2 := by
  intro m hm
  induction m with
  | zero => obtain rfl : k = 0 := by omega
            exact ⟨r, h, Int.le_refl _, Int.le_refl _⟩
  | succ m ih =>
    by_cases he : k = m + 1
    · subst he; exact ⟨r, h, Int.le_refl _, Int.le_refl _⟩
    · obtain ⟨g, hg, h1, h2⟩ := ih (by omega)
      obtain ⟨g', hg', h3, h4⟩ := step_keeps (p := p) (n := lo + m) hg (fun s hs => (runs_in m s hs).2.2.1)
      exact ⟨g', hg', by omega, by omega⟩
theorem runs_last (k : Nat) (hp : p (lo + k) = true) : ∃ r, (runsL p lo (k + 1)).getLast? = some r ∧ r.2 = lo + k ∧ ∀ a, lo ≤ a → a ≤ lo + k → (∀ x, a ≤ x → x ≤ lo + k → p x = true) → r.1 ≤ a := by
  induction k with
  | zero =>
    refine ⟨(lo, lo), ?_, by simp, fun a h1 h2 _ => h1⟩
    show (stepR p (lo + (0 : Nat)) []).getLast? = _
    unfold stepR
    rw [if_pos hp]; simp
  | succ k ih =>
    show ∃ r, (stepR p (lo + (k + 1 : Nat)) (runsL p lo (k + 1))).getLast? = some r ∧ _
    unfold stepR
    rw [if_pos hp]
    by_cases hk : p (lo + k) = true
    · obtain ⟨r, h1, h2, h3⟩ := ih hk
      rw [h1]
      simp only [h2]
      rw [if_pos (by omega)]
      refine ⟨(r.1, lo + (k + 1 : Nat)), by simp, rfl, fun a ha1 ha2 ha3 => ?_⟩
      by_cases he : a = lo + (k + 1 : Nat)
      · have := runs_in (k + 1) r (List.mem_of_getLast? h1)
        simp only; omega
      · exact h3 a ha1 (by omega) fun x hx1 hx2 => ha3 x hx1 (by omega)
    · have hlast : ∀ r, (runsL p lo (k + 1)).getLast? = some r → ¬ r.2 = lo + (k + 1 : Nat) - 1 := by
        intro r hr he
        have := (runs_in (k + 1) r (List.mem_of_getLast? hr))
        exact hk (this.2.2.2 (lo + k) (by omega) (by omega))
      refine ⟨(lo + (k + 1 : Nat), lo + (k + 1 : Nat)), ?_, rfl, fun a ha1 ha2 ha3 => ?_⟩
      · split
        · rename_i r hr
          rw [if_neg (hlast r hr)]; simp
        · simp
      · by_cases he : a = lo + (k + 1 : Nat)
        · simp only; omega
        · exact absurd (ha3 (lo + k) (by omega) (by omega)) hk
theorem runs_has (k : Nat) (a b : Int) (h1 : lo ≤ a) (h2 : a ≤ b) (h3 : b < lo + k) (h : ∀ x, a ≤ x → x ≤ b → p x = true) : ∃ g ∈ runsL p lo k, g.1 ≤ a ∧ b ≤ g.2 := by
  obtain ⟨j, hj⟩ : ∃ j : Nat, b = lo + j := ⟨(b - lo).toNat, by omega⟩
  obtain ⟨r, hr1, hr2, hr3⟩ := runs_last (p := p) (lo := lo) j (by rw [← hj]; exact h b h2 (Int.le_refl _))
  obtain ⟨g, hg, h4, h5⟩ := runs_keeps (List.mem_of_getLast? hr1) k (by omega)
  exact ⟨g, hg, by have := hr3 a h1 (by omega) (fun x hx1 hx2 => h x hx1 (by omega)); omega, by omega⟩
theorem runs_iff (k : Nat) (x : Int) (h1 : lo ≤ x) (h2 : x < lo + k) : (∃ g ∈ runsL p lo k, g.1 ≤ x ∧ x ≤ g.2) ↔ p x = true := by
  constructor
  · rintro ⟨g, hg, h3, h4⟩
    exact (runs_in k g hg).2.2.2 x h3 h4
  · intro h
    obtain ⟨g, hg, h3, h4⟩ := runs_has (p := p) (lo := lo) k x x h1 (Int.le_refl _) h2 (fun y hy1 hy2 => by rw [show y = x by omega]; exact h)
    exact ⟨g, hg, h3, h4⟩
theorem runs_mono (k : Nat) (h : ∀ x, p x = true → q x = true) : ∀ g ∈ runsL p lo k, ∃ g' ∈ runsL q lo k, g'.1 ≤ g.1 ∧ g.2 ≤ g'.2 := by
  intro g hg
  obtain ⟨h1, h2, h3, h4⟩ := runs_in k g hg
  exact runs_has k g.1 g.2 h1 h2 h3 fun x hx1 hx2 => h x (h4 x hx1 hx2)
theorem runs_all (k : Nat) (h : ∀ x, p x = true) : runsL p lo (k + 1) = [(lo, lo + k)] := by
  induction k with
  | zero => show stepR p (lo + (0 : Nat)) [] = _; unfold stepR; rw [if_pos (h _)]; simp
  | succ k ih =>
    show stepR p (lo + (k + 1 : Nat)) (runsL p lo (k + 1)) = _
    rw [ih]; unfold stepR
    rw [if_pos (h _)]
    simp only [List.getLast?_singleton]
    rw [if_pos (by omega)]; rfl
theorem cnt_pos (x : Int) (l : List (Int × Int)) : cnt x l < 1 ↔ ¬ ∃ r ∈ l, r.1 ≤ x ∧ x ≤ r.2 := by
  induction l with
  | nil => simp [cnt]
  | cons r l ih =>
    have := cnt_bd x l
    unfold cnt
    by_cases h : r.1 ≤ x ∧ x ≤ r.2
    · rw [if_pos h]
      constructor
      · intro h2; omega
      · intro h2; exact absurd ⟨r, List.mem_cons_self .., h⟩ h2
    · rw [if_neg h, show (0 : Int) + cnt x l = cnt x l by omega, ih]
      constructor
      · rintro h2 ⟨s, hs, h3⟩
        rcases List.mem_cons.1 hs with rfl | hs
        · exact h h3
        · exact h2 ⟨s, hs, h3⟩
      · rintro h2 ⟨s, hs, h3⟩
        exact h2 ⟨s, List.mem_cons_of_mem _ hs, h3⟩
end Go.AM.W
