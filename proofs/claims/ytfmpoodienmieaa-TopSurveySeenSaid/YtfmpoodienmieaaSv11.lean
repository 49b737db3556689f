/- TopSurveySeen: the loops of the statement itself. -/
import Derived.Test.YtfmpoodienmieaaSv10
namespace Go.AM.W
open Go Go.AM
def swaths (l : List Ray) : List (Int × Int) := l.map fun r => (loR r.fx r.tx, hiR r.fx r.tx)
theorem ne_bool (a b : Bool) : binA P .neq 4 (.tmp 126) (.tmp 131) (BL a) (BL b) = some (BL (a != b)) := by
  cases a <;> cases b <;> as_aux_lemma => kernel_rfl
abbrev TrueRes (σ0 : St) : Res → Prop := fun r => r = .val (BL true) σ0
section
variable (σ0 : St) (hw : σ0.wall ≤ σ0.next) (n0 : Int) (a1 : Option Addr) (m1 c1 : Nat) (l : List Ray) (hm : m1 ≤ 9)
include hw hm in
theorem lp_top1 (i5 B : Nat) (σb : St) (hB : σ0.next ≤ B) (hBn : B ≤ σb.next) (hs : SD eRay σ0.next σ0 a1 m1 l) (hl : RowRays 12 l) (Q : Res → Prop)
    (hQ : ∀ (σ : St) (a6 : Option Addr) (m6 : Nat) (j4 j23 j31 j39 j7 j43 j8 j9 j11 j13 j10 j12 j99 j14 j102 j16 j108 j15 j132 j135 j18 j17 j162 j19 j166 j21 j172 j20 j203 : Value), In σ0 σ → Keep B σb σ → Own eII B σ a6 m6 (swaths l) →
      Wp (k_top_TopSurveySeen_1 rn σ0 (.exit 0) (x_top_TopSurveySeen_1_0 σ n0 a1 m1 c1 i5 0 a6 m6 0 j4 j23 j31 j39 j7 j43 j8 j9 j11 j13 j10 j12 j99 j14 j102 j16 j108 j15 j132 j135 j18 j17 j162 j19 j166 j21 j172 j20 j203)) Q) :
    ∀ (k i : Nat), i + k = m1 → ∀ (σ : St) (a6 : Option Addr) (m6 : Nat), In σ0 σ → Keep B σb σ → Own eII B σ a6 m6 (swaths (l.take i)) → ∀ (j4 j23 j31 j39 j43 j8 j9 j11 j13 j10 j12 j99 j14 j102 j16 j108 j15 j132 j135 j18 j17 j162 j19 j166 j21 j172 j20 j203 : Value),
      Wp (rn (.loop c_top_TopSurveySeen_1 (keptIn P 3) (h_top_TopSurveySeen_1 σ n0 a1 m1 c1 i5 0 i a6 m6 0 j4 j23 j31 j39 j43 j8 j9 j11 j13 j10 j12 j99 j14 j102 j16 j108 j15 j132 j135 j18 j17 j162 j19 j166 j21 j172 j20 j203))) fun r => ∃ e fr, r = .ex e fr ∧ Wp (k_top_TopSurveySeen_1 rn σ0 e fr) Q := by
  have hnl := hs.n_eq
  intro k
  induction k with
  | zero =>
    intro i hk σ a6 m6 hin hkp ho j4 j23 j31 j39 j43 j8 j9 j11 j13 j10 j12 j99 j14 j102 j16 j108 j15 j132 j135 j18 j17 j162 j19 j166 j21 j172 j20 j203
    have hs' : SD eRay σ0.next σ a1 m1 l := hs.keep hin.old
    apply wp_loop (l_top_TopSurveySeen_1 _ _ _ _ _ _ _ _ _ _ _ _ _ _ _ _ _ _ _ _ _ _ _ _ _ _ _ _ _ _ _ _ _ _ _ _ _ _ _ _)
    rw [hs'.lenT, bc_ltI, if_neg (by omega)]
    rw [List.take_of_length_le (by omega)] at ho
    exact wp_some ⟨_, _, rfl, hQ σ a6 m6 _ _ _ _ _ _ _ _ _ _ _ _ _ _ _ _ _ _ _ _ _ _ _ _ _ _ _ _ _ hin hkp ho⟩
  | succ k ih =>
    intro i hk σ a6 m6 hin hkp ho j4 j23 j31 j39 j43 j8 j9 j11 j13 j10 j12 j99 j14 j102 j16 j108 j15 j132 j135 j18 j17 j162 j19 j166 j21 j172 j20 j203
    have hs' : SD eRay σ0.next σ a1 m1 l := hs.keep hin.old
    apply wp_loop (l_top_TopSurveySeen_1 _ _ _ _ _ _ _ _ _ _ _ _ _ _ _ _ _ _ _ _ _ _ _ _ _ _ _ _ _ _ _ _ _ _ _ _ _ _ _ _)
    have hi : i < l.length := by omega
    obtain ⟨_, _, h1, h2, h3, h4⟩ := hl l[i] (List.getElem_mem hi)
    have hlen : m6 = i := by have := ho.len; rw [this]; unfold swaths; rw [List.length_map, List.length_take]; omega
    rw [hs'.lenT, bc_ltI, if_pos (by omega), hs'.ld1 (get_some hi) c1 (off := fun o => Nat.add (Nat.add o 0) 0) (j := 0) (fun _ => rfl) rfl, asI_eq, hs'.ld1 (get_some hi) c1 (off := fun o => Nat.add (Nat.add o 2) 0) (j := 2) (fun _ => rfl) rfl, asI_eq, zop_eq, zop_eq]
    obtain ⟨a', σ', g1, g2, g3, _⟩ := ho.push (by' := 16) (by have := hin.wall; show σ.wall ≤ B; rw [this]; exact Nat.le_trans hw hB) (by have := hkp.next; omega) (by omega) (loR l[i].fx l[i].tx, hiR l[i].fx l[i].tx)
    refine wp_eq (g1 _) ?_
    rw [zadd_ok (by omega)]
    refine ih (i + 1) (by omega) σ' a' (m6 + 1) (hin.trans (g3.weak hB)) (hkp.trans g3) ?_ _ _ _ _ _ _ _ _ _ _ _ _ _ _ _ _ _ _ _ _ _ _ _ _ _ _ _ _
    have e : swaths (l.take (i + 1)) = swaths (l.take i) ++ [(loR l[i].fx l[i].tx, hiR l[i].fx l[i].tx)] := by
      unfold swaths; rw [List.take_add_one, get_some hi, List.map_append]; rfl
    rw [e]; exact g2
end
section
variable (σ0 σ : St) (n0 : Int) (a1 : Option Addr) (m1 c1 : Nat) (a6 : Option Addr) (m6 c6 : Nat) (a10 : Option Addr) (m10 c10 : Nat) (a12 : Option Addr) (m12 c12 b : Nat) (gaps : List (Int × Int)) (hg : SD eII b σ a12 m12 gaps) (hgl : gaps.length < 100)
def inG (gaps : List (Int × Int)) (n : Int) : Bool := gaps.any fun g => decide (g.1 ≤ n ∧ n ≤ g.2)
include hg hgl in
theorem lp_top3 (n14 : Int) (Q : Res → Prop)
    (hQ : ∀ (j4 j23 j31 j5 j39 j7 j43 j8 j9 j11 j13 j99 j102 j16 j108 j132 j135 j18 j17 j162 j19 j166 j21 j172 j20 j203 : Value), Wp (k_top_TopSurveySeen_3 rn (.exit 4) (x_top_TopSurveySeen_3_4 σ n0 a1 m1 c1 a6 m6 c6 a10 m10 c10 a12 m12 c12 n14 (inG gaps n14) j4 j23 j31 j5 j39 j7 j43 j8 j9 j11 j13 j99 j102 j16 j108 j132 j135 j18 j17 j162 j19 j166 j21 j172 j20 j203)) Q) :
    ∀ (k i : Nat), i + k = m12 → ∀ (j4 j23 j31 j5 j39 j7 j43 j8 j9 j11 j13 j99 j102 j108 j132 j135 j18 j17 j162 j19 j166 j21 j172 j20 j203 : Value),
      Wp (rn (.loop c_top_TopSurveySeen_3 (keptIn P 3) (h_top_TopSurveySeen_3 σ n0 a1 m1 c1 a6 m6 c6 a10 m10 c10 a12 m12 c12 n14 i (inG (gaps.take i) n14) j4 j23 j31 j5 j39 j7 j43 j8 j9 j11 j13 j99 j102 j108 j132 j135 j18 j17 j162 j19 j166 j21 j172 j20 j203))) fun r => ∃ e fr, r = .ex e fr ∧ Wp (k_top_TopSurveySeen_3 rn e fr) Q := by
  have hnl := hg.n_eq
  intro k
  induction k with
  | zero =>
    intro i hk j4 j23 j31 j5 j39 j7 j43 j8 j9 j11 j13 j99 j102 j108 j132 j135 j18 j17 j162 j19 j166 j21 j172 j20 j203
    apply wp_loop (l_top_TopSurveySeen_3 _ _ _ _ _ _ _ _ _ _ _ _ _ _ _ _ _ _ _ _ _ _ _ _ _ _ _ _ _ _ _ _ _ _ _ _ _ _ _ _ _ _ _)
    rw [hg.lenT, bc_ltI, if_neg (by omega), List.take_of_length_le (by omega)]
    exact wp_some ⟨_, _, rfl, hQ _ _ _ _ _ _ _ _ _ _ _ _ _ _ _ _ _ _ _ _ _ _ _ _ _ _⟩
  | succ k ih =>
    intro i hk j4 j23 j31 j5 j39 j7 j43 j8 j9 j11 j13 j99 j102 j108 j132 j135 j18 j17 j162 j19 j166 j21 j172 j20 j203
    apply wp_loop (l_top_TopSurveySeen_3 _ _ _ _ _ _ _ _ _ _ _ _ _ _ _ _ _ _ _ _ _ _ _ _ _ _ _ _ _ _ _ _ _ _ _ _ _ _ _ _ _ _ _)
    have hi : i < gaps.length := by omega
    have e : inG (gaps.take (i + 1)) n14 = (inG (gaps.take i) n14 || decide (gaps[i].1 ≤ n14 ∧ n14 ≤ gaps[i].2)) := by
      unfold inG; rw [List.take_add_one, get_some hi, List.any_append]; show (_ || List.any [gaps[i]] _) = _; rw [List.any_cons, List.any_nil, Bool.or_false]
    have hih := ih (i + 1) (by omega)
    rw [e] at hih
    rw [hg.lenT, bc_ltI, if_pos (by omega)]
    cases hb : inG (gaps.take i) n14 with
    | true =>
      rw [hb] at hih
      rw [bcT, zadd_ok (by omega)]
      exact hih _ _ _ _ _ _ _ _ _ _ _ _ _ _ _ _ _ _ _ _ _ _ _ _ _
    | false =>
      rw [hb, Bool.false_or] at hih
      rw [bcF, hg.ld1 (get_some hi) c12 (off := fun o => Nat.add o 0) (j := 0) (fun _ => rfl) rfl, asI_eq, hg.ld1 (get_some hi) c12 (off := fun o => Nat.add o 1) (j := 1) (fun _ => rfl) rfl, asI_eq, callT_of (s_base_Within _ _ _ _), asB_eq, zadd_ok (by omega)]
      exact hih _ _ _ _ _ _ _ _ _ _ _ _ _ _ _ _ _ _ _ _ _ _ _ _ _
include hg hgl in
theorem lp_top2 (wide : Nat) (hwd : n0 = wide) (hw12 : wide ≤ 12) (out : List Int) (b' : Nat) (hso : SD eI b' σ a10 m10 out) (hol : out.length = wide) (hyes : ∀ (n : Nat) (v : Int), out[n]? = some v → inG gaps n = decide (v = 0)) (Q : Res → Prop)
    (hQ : ∀ (j4 j23 j31 j5 j39 j7 j43 j8 j9 j11 j13 j10 j99 j14 j102 j16 j108 j15 j132 j135 j18 j17 j162 j19 j166 j21 j172 j20 j203 : Value), Wp (k_top_TopSurveySeen_2 rn σ0 (.exit 2) (x_top_TopSurveySeen_2_2 σ n0 a1 m1 c1 a6 m6 c6 a12 m12 c12 j4 j23 j31 j5 j39 j7 j43 j8 j9 j11 j13 j10 j99 j14 j102 j16 j108 j15 j132 j135 j18 j17 j162 j19 j166 j21 j172 j20 j203)) Q) :
    ∀ (k i : Nat), i + k = wide → ∀ (j4 j23 j31 j5 j39 j7 j43 j8 j9 j11 j13 j99 j102 j16 j108 j15 j132 j135 j18 j17 j162 j19 j166 j21 j172 j20 j203 : Value),
      Wp (rn (.loop c_top_TopSurveySeen_2 (keptIn P 3) (h_top_TopSurveySeen_2 σ n0 a1 m1 c1 a6 m6 c6 a10 m10 c10 a12 m12 c12 i j4 j23 j31 j5 j39 j7 j43 j8 j9 j11 j13 j99 j102 j16 j108 j15 j132 j135 j18 j17 j162 j19 j166 j21 j172 j20 j203))) fun r => ∃ e fr, r = .ex e fr ∧ Wp (k_top_TopSurveySeen_2 rn σ0 e fr) Q := by
  intro k
  induction k with
  | zero =>
    intro i hk j4 j23 j31 j5 j39 j7 j43 j8 j9 j11 j13 j99 j102 j16 j108 j15 j132 j135 j18 j17 j162 j19 j166 j21 j172 j20 j203
    apply wp_loop (l_top_TopSurveySeen_2 _ _ _ _ _ _ _ _ _ _ _ _ _ _ _ _ _ _ _ _ _ _ _ _ _ _ _ _ _ _ _ _ _ _ _ _ _ _ _ _ _ _ _)
    rw [bc_ltI, if_neg (by omega)]
    exact wp_some ⟨_, _, rfl, hQ _ _ _ _ _ _ _ _ _ _ _ _ _ _ _ _ _ _ _ _ _ _ _ _ _ _ _ _ _⟩
  | succ k ih =>
    intro i hk j4 j23 j31 j5 j39 j7 j43 j8 j9 j11 j13 j99 j102 j16 j108 j15 j132 j135 j18 j17 j162 j19 j166 j21 j172 j20 j203
    apply wp_loop (l_top_TopSurveySeen_2 _ _ _ _ _ _ _ _ _ _ _ _ _ _ _ _ _ _ _ _ _ _ _ _ _ _ _ _ _ _ _ _ _ _ _ _ _ _ _ _ _ _ _)
    rw [bc_ltI, if_pos (by omega)]
    refine lp_loopT (lp_top3 σ n0 a1 m1 c1 a6 m6 c6 a10 m10 c10 a12 m12 c12 b gaps hg hgl i _ ?_ m12 0 (by omega) _ _ _ _ _ _ _ _ _ _ _ _ _ _ _ _ _ _ _ _ _ _ _ _ _)
    intro j4 j23 j31 j5 j39 j7 j43 j8 j9 j11 j13 j99 j102 j16 j108 j132 j135 j18 j17 j162 j19 j166 j21 j172 j20 j203
    have hi : i < out.length := by omega
    rw [← a_top_TopSurveySeen_3_4, hso.ld0 (get_some hi) c10 rfl, asI_eq, ne_bool, ob_some, asB_eq, eqI_eq, hyes i _ (get_some hi)]
    have e : (decide (out[i] = 0) != (out[i] == 0)) = false := by by_cases h : out[i] = 0 <;> simp [h]
    rw [e, bcF, zadd_ok (by omega)]
    exact ih (i + 1) (by omega) _ _ _ _ _ _ _ _ _ _ _ _ _ _ _ _ _ _ _ _ _ _ _ _ _ _ _
end
section
variable (σ0 σ : St) (a12 : Option Addr) (m12 c12 b : Nat) (a17 : Option Addr) (m17 c17 b' : Nat) (gaps before : List (Int × Int)) (hg : SD eII b σ a12 m12 gaps) (hgl : gaps.length < 100) (hf : SD eII b' σ a17 m17 before) (hfl : before.length < 100)
def has (g : Int × Int) (l : List (Int × Int)) : Bool := l.any fun r => decide (r.1 ≤ g.1 ∧ g.2 ≤ r.2)
include hg hf hfl in
theorem lp_top5 (k19 : Nat) (hk19 : k19 < gaps.length) (Q : Res → Prop)
    (hQ : ∀ (j4 j23 j0 j1 j31 j5 j39 j7 j43 j6 j8 j9 j11 j13 j10 j99 j14 j102 j16 j108 j15 j132 j135 j18 j162 j166 j21 j172 j203 : Value), Wp (k_top_TopSurveySeen_5 rn (.exit 8) (x_top_TopSurveySeen_5_8 σ a12 m12 c12 a17 m17 c17 k19 (has gaps[k19] before) j4 j23 j0 j1 j31 j5 j39 j7 j43 j6 j8 j9 j11 j13 j10 j99 j14 j102 j16 j108 j15 j132 j135 j18 j162 j166 j21 j172 j203)) Q) :
    ∀ (k i : Nat), i + k = m17 → ∀ (j4 j23 j0 j1 j31 j5 j39 j7 j43 j6 j8 j9 j11 j13 j10 j99 j14 j102 j16 j108 j15 j132 j135 j18 j162 j166 j172 j203 : Value),
      Wp (rn (.loop c_top_TopSurveySeen_5 (keptIn P 3) (h_top_TopSurveySeen_5 σ a12 m12 c12 a17 m17 c17 k19 i (has gaps[k19] (before.take i)) j4 j23 j0 j1 j31 j5 j39 j7 j43 j6 j8 j9 j11 j13 j10 j99 j14 j102 j16 j108 j15 j132 j135 j18 j162 j166 j172 j203))) fun r => ∃ e fr, r = .ex e fr ∧ Wp (k_top_TopSurveySeen_5 rn e fr) Q := by
  have hnl := hf.n_eq
  intro k
  induction k with
  | zero =>
    intro i hk j4 j23 j0 j1 j31 j5 j39 j7 j43 j6 j8 j9 j11 j13 j10 j99 j14 j102 j16 j108 j15 j132 j135 j18 j162 j166 j172 j203
    apply wp_loop (l_top_TopSurveySeen_5 _ _ _ _ _ _ _ _ _ _ _ _ _ _ _ _ _ _ _ _ _ _ _ _ _ _ _ _ _ _ _ _ _ _ _ _ _ _ _)
    rw [hf.lenT, bc_ltI, if_neg (by omega), List.take_of_length_le (by omega)]
    exact wp_some ⟨_, _, rfl, hQ _ _ _ _ _ _ _ _ _ _ _ _ _ _ _ _ _ _ _ _ _ _ _ _ _ _ _ _ _⟩
  | succ k ih =>
    intro i hk j4 j23 j0 j1 j31 j5 j39 j7 j43 j6 j8 j9 j11 j13 j10 j99 j14 j102 j16 j108 j15 j132 j135 j18 j162 j166 j172 j203
    apply wp_loop (l_top_TopSurveySeen_5 _ _ _ _ _ _ _ _ _ _ _ _ _ _ _ _ _ _ _ _ _ _ _ _ _ _ _ _ _ _ _ _ _ _ _ _ _ _ _)
    have hi : i < before.length := by omega
    have e : has gaps[k19] (before.take (i + 1)) = (has gaps[k19] (before.take i) || decide (before[i].1 ≤ gaps[k19].1 ∧ gaps[k19].2 ≤ before[i].2)) := by
      unfold has; rw [List.take_add_one, get_some hi, List.any_append]; show (_ || List.any [before[i]] _) = _; rw [List.any_cons, List.any_nil, Bool.or_false]
    have hih := ih (i + 1) (by omega)
    rw [e] at hih
    rw [hf.lenT, bc_ltI, if_pos (by omega)]
    cases hb : has gaps[k19] (before.take i) with
    | true =>
      rw [hb] at hih
      rw [bcT, zadd_ok (by omega)]
      exact hih _ _ _ _ _ _ _ _ _ _ _ _ _ _ _ _ _ _ _ _ _ _ _ _ _ _ _ _
    | false =>
      rw [hb, Bool.false_or] at hih
      rw [bcF, hf.ld1 (get_some hi) c17 (off := fun o => Nat.add o 0) (j := 0) (fun _ => rfl) rfl, asI_eq, hg.ld1 (get_some hk19) c12 (off := fun o => Nat.add o 0) (j := 0) (fun _ => rfl) rfl, asI_eq, bc_leI]
      refine wp_if (fun h1 => ?_) fun h1 => ?_
      · rw [hg.ld1 (get_some hk19) c12 (off := fun o => Nat.add o 1) (j := 1) (fun _ => rfl) rfl, asI_eq, hf.ld1 (get_some hi) c17 (off := fun o => Nat.add o 1) (j := 1) (fun _ => rfl) rfl, asI_eq, zadd_ok (by omega), leI_eq]
        have e2 : decide (before[i].1 ≤ gaps[k19].1 ∧ gaps[k19].2 ≤ before[i].2) = decide (gaps[k19].2 ≤ before[i].2) := by simp [h1]
        rw [e2] at hih
        exact hih _ _ _ _ _ _ _ _ _ _ _ _ _ _ _ _ _ _ _ _ _ _ _ _ _ _ _ _
      · rw [zadd_ok (by omega)]
        have e2 : decide (before[i].1 ≤ gaps[k19].1 ∧ gaps[k19].2 ≤ before[i].2) = false := by simp [h1]
        rw [e2] at hih
        exact hih _ _ _ _ _ _ _ _ _ _ _ _ _ _ _ _ _ _ _ _ _ _ _ _ _ _ _ _
include hg hgl hf hfl in
theorem lp_top4 (hin : In σ0 σ) (hyes : ∀ g ∈ gaps, has g before = true) :
    ∀ (k i : Nat), i + k = m12 → ∀ (j4 j23 j0 j1 j31 j5 j39 j7 j43 j6 j8 j9 j11 j13 j10 j99 j14 j102 j16 j108 j15 j132 j135 j18 j162 j166 j21 j172 j20 j203 : Value),
      Wp (rn (.loop c_top_TopSurveySeen_4 (keptIn P 3) (h_top_TopSurveySeen_4 σ a12 m12 c12 a17 m17 c17 i j4 j23 j0 j1 j31 j5 j39 j7 j43 j6 j8 j9 j11 j13 j10 j99 j14 j102 j16 j108 j15 j132 j135 j18 j162 j166 j21 j172 j20 j203))) fun r => ∃ e fr, r = .ex e fr ∧ Wp (k_top_TopSurveySeen_4 rn σ0 e fr) (TrueRes σ0) := by
  have hnl := hg.n_eq
  intro k
  induction k with
  | zero =>
    intro i hk j4 j23 j0 j1 j31 j5 j39 j7 j43 j6 j8 j9 j11 j13 j10 j99 j14 j102 j16 j108 j15 j132 j135 j18 j162 j166 j21 j172 j20 j203
    apply wp_loop (l_top_TopSurveySeen_4 _ _ _ _ _ _ _ _ _ _ _ _ _ _ _ _ _ _ _ _ _ _ _ _ _ _ _ _ _ _ _ _ _ _ _ _ _ _ _)
    rw [hg.lenT, bc_ltI, if_neg (by omega)]
    refine wp_some ⟨_, _, rfl, ?_⟩
    rw [← a_top_TopSurveySeen_4_6, retT_flat rfl hin.lo]
    exact wp_some rfl
  | succ k ih =>
    intro i hk j4 j23 j0 j1 j31 j5 j39 j7 j43 j6 j8 j9 j11 j13 j10 j99 j14 j102 j16 j108 j15 j132 j135 j18 j162 j166 j21 j172 j20 j203
    apply wp_loop (l_top_TopSurveySeen_4 _ _ _ _ _ _ _ _ _ _ _ _ _ _ _ _ _ _ _ _ _ _ _ _ _ _ _ _ _ _ _ _ _ _ _ _ _ _ _)
    have hi : i < gaps.length := by omega
    rw [hg.lenT, bc_ltI, if_pos (by omega)]
    refine lp_loopT (lp_top5 σ a12 m12 c12 b a17 m17 c17 b' gaps before hg hf hfl i hi _ ?_ m17 0 (by omega) _ _ _ _ _ _ _ _ _ _ _ _ _ _ _ _ _ _ _ _ _ _ _ _ _ _ _ _)
    intro j4 j23 j0 j1 j31 j5 j39 j7 j43 j6 j8 j9 j11 j13 j10 j99 j14 j102 j16 j108 j15 j132 j135 j18 j162 j166 j21 j172 j203
    rw [← a_top_TopSurveySeen_5_8, hyes _ (List.getElem_mem hi), bc_not, bcT, zadd_ok (by omega)]
    exact ih (i + 1) (by omega) _ _ _ _ _ _ _ _ _ _ _ _ _ _ _ _ _ _ _ _ _ _ _ _ _ _ _ _ _ _
end
end Go.AM.W
