/- What the functions that TopSurveySeen calls come to: small ones. -/
import Derived.Test.YtfmpoodienmieaaTr1
namespace Go.AM.W
open Go Go.AM
/-- What is known ahead: the examples of the chapter hold. -/
noncomputable def Γ : Tab := fun k args σ => bc (Nat.beq k 4) (le args (some (BL true, σ)) fun _ _ => none) none
noncomputable abbrev rn : Rec := run P Γ
def firstE : List Int → Int
  | [] => 0
  | e :: l => if e = 0 then firstE l else e

theorem s_sonar_within (σ : St) (n lo hi : Int) : rn (.call f_sonar_within [I64 n, I64 lo, I64 hi] σ) = some (.val (BL (decide (lo ≤ n ∧ n ≤ hi))) σ) := by
  apply eq_call rfl (t_sonar_within _ _ _ _ _)
  rw [reS_eq, bc_leI]
  split
  · rw [retT_flat rfl (Nat.le_refl _), leI_eq]; exact res_dec (by simp [*])
  · rw [retT_flat rfl (Nat.le_refl _)]; exact res_F (by simp [*])
theorem s_sonar_unless (σ : St) (b : Bool) (e : Int) : rn (.call f_sonar_unless [BL b, I64 e] σ) = some (.val (I64 (if b = true then 0 else e)) σ) := by
  apply eq_call rfl (t_sonar_unless _ _ _ _)
  rw [reS_eq]
  cases b
  · rw [bcF, retT_flat rfl (Nat.le_refl _)]; rfl
  · rw [bcT, retT_flat rfl (Nat.le_refl _)]; rfl
theorem lp_sonar_first (σ0 σ : St) (hin : In σ0 σ) (a : Option Addr) (n c b : Nat) (l : List Int) (hs : SD eI b σ a n l) (hb : n < 1000) : ∀ (k i : Nat), i + k = n → ∀ (j2 j0 j8 j4 j12 : Value),
    Wp (rn (.loop c_sonar_first_1 (keptIn P 59) (h_sonar_first_1 σ i n a n c j2 j0 j8 j4 j12))) fun r => ∃ e fr, r = .ex e fr ∧ k_sonar_first_1 rn σ0 e fr = some (.val (I64 (firstE (l.drop i))) σ0) := by
  have hn := hs.n_eq
  intro k
  induction k with
  | zero =>
    intro i hk j2 j0 j8 j4 j12
    apply wp_loop (l_sonar_first_1 _ _ _ _ _ _ _ _ _ _ _ _)
    rw [bc_ltI, if_neg (by omega)]
    refine wp_some ⟨_, _, rfl, ?_⟩
    rw [← a_sonar_first_1_0, retT_flat rfl hin.lo, List.drop_of_length_le (by omega)]; rfl
  | succ k ih =>
    intro i hk j2 j0 j8 j4 j12
    apply wp_loop (l_sonar_first_1 _ _ _ _ _ _ _ _ _ _ _ _)
    have hi : i < l.length := by omega
    rw [bc_ltI, if_pos (by omega), hs.ld0 (get_some hi) c rfl, asI_eq, bc_neI, List.drop_eq_getElem_cons hi]
    by_cases h : l[i] = 0
    · rw [if_pos h, zadd_ok (by omega)]
      have := ih (i + 1) (by omega) j2 j0 (BL true) (I64 l[i]) (BL false)
      simp only [firstE, if_pos h]
      exact this
    · rw [if_neg h]
      refine wp_some ⟨_, _, rfl, ?_⟩
      rw [← a_sonar_first_1_ret, retT_flat rfl hin.lo]
      simp only [firstE, if_neg h]
theorem s_sonar_first (σ : St) (a : Option Addr) (n c b : Nat) (l : List Int) (hs : SD eI b σ a n l) (hn : n < 1000) : rn (.call f_sonar_first [SL a n c] σ) = some (.val (I64 (firstE l)) σ) := by
  apply eq_call rfl (t_sonar_first _ _ _ _ _)
  rw [reS_eq, hs.lenT]
  exact eq_loopT (lp_sonar_first σ _ (In.start σ) a n c b l (hs.keep fun _ _ => rfl) hn n 0 (by omega) (I64 0) (SL a n c) poison poison poison)
theorem s_sonar_first2 (σ : St) (x y : Int) : rn (.call f_sonar_first [SL (some ⟨σ.next, 0, none⟩) 2 3] (newBlk σ (.cells false 1 [I64 x, I64 y]))) = some (.val (I64 (if x = 0 then y else x)) (newBlk σ (.cells false 1 [I64 x, I64 y]))) := by
  rw [s_sonar_first (newBlk σ (.cells false 1 [I64 x, I64 y])) _ 2 3 (σ.next + 1) [x, y] (sd_lit eI σ [x, y]) (by omega)]
  simp only [firstE]; by_cases hx : x = 0 <;> by_cases hy : y = 0 <;> simp [hx, hy]
theorem s_sonar_first3 (σ : St) (x y z : Int) : rn (.call f_sonar_first [SL (some ⟨σ.next, 0, none⟩) 3 4] (newBlk σ (.cells false 1 [I64 x, I64 y, I64 z]))) = some (.val (I64 (if x = 0 then if y = 0 then z else y else x)) (newBlk σ (.cells false 1 [I64 x, I64 y, I64 z]))) := by
  rw [s_sonar_first (newBlk σ (.cells false 1 [I64 x, I64 y, I64 z])) _ 3 4 (σ.next + 1) [x, y, z] (sd_lit eI σ [x, y, z]) (by omega)]
  simp only [firstE]; by_cases hx : x = 0 <;> by_cases hy : y = 0 <;> by_cases hz : z = 0 <;> simp [hx, hy, hz]


theorem s_survey_within (σ : St) (n lo hi : Int) : rn (.call f_survey_within [I64 n, I64 lo, I64 hi] σ) = some (.val (BL (decide (lo ≤ n ∧ n ≤ hi))) σ) := by
  apply eq_call rfl (t_survey_within _ _ _ _ _)
  rw [reS_eq, bc_leI]
  split
  · rw [retT_flat rfl (Nat.le_refl _), leI_eq]; exact res_dec (by simp [*])
  · rw [retT_flat rfl (Nat.le_refl _)]; exact res_F (by simp [*])
theorem s_survey_unless (σ : St) (b : Bool) (e : Int) : rn (.call f_survey_unless [BL b, I64 e] σ) = some (.val (I64 (if b = true then 0 else e)) σ) := by
  apply eq_call rfl (t_survey_unless _ _ _ _)
  rw [reS_eq]
  cases b
  · rw [bcF, retT_flat rfl (Nat.le_refl _)]; rfl
  · rw [bcT, retT_flat rfl (Nat.le_refl _)]; rfl
theorem lp_survey_first (σ0 σ : St) (hin : In σ0 σ) (a : Option Addr) (n c b : Nat) (l : List Int) (hs : SD eI b σ a n l) (hb : n < 1000) : ∀ (k i : Nat), i + k = n → ∀ (j2 j0 j8 j4 j12 : Value),
    Wp (rn (.loop c_survey_first_1 (keptIn P 20) (h_survey_first_1 σ i n a n c j2 j0 j8 j4 j12))) fun r => ∃ e fr, r = .ex e fr ∧ k_survey_first_1 rn σ0 e fr = some (.val (I64 (firstE (l.drop i))) σ0) := by
  have hn := hs.n_eq
  intro k
  induction k with
  | zero =>
    intro i hk j2 j0 j8 j4 j12
    apply wp_loop (l_survey_first_1 _ _ _ _ _ _ _ _ _ _ _ _)
    rw [bc_ltI, if_neg (by omega)]
    refine wp_some ⟨_, _, rfl, ?_⟩
    rw [← a_survey_first_1_0, retT_flat rfl hin.lo, List.drop_of_length_le (by omega)]; rfl
  | succ k ih =>
    intro i hk j2 j0 j8 j4 j12
    apply wp_loop (l_survey_first_1 _ _ _ _ _ _ _ _ _ _ _ _)
    have hi : i < l.length := by omega
    rw [bc_ltI, if_pos (by omega), hs.ld0 (get_some hi) c rfl, asI_eq, bc_neI, List.drop_eq_getElem_cons hi]
    by_cases h : l[i] = 0
    · rw [if_pos h, zadd_ok (by omega)]
      have := ih (i + 1) (by omega) j2 j0 (BL true) (I64 l[i]) (BL false)
      simp only [firstE, if_pos h]
      exact this
    · rw [if_neg h]
      refine wp_some ⟨_, _, rfl, ?_⟩
      rw [← a_survey_first_1_ret, retT_flat rfl hin.lo]
      simp only [firstE, if_neg h]
theorem s_survey_first (σ : St) (a : Option Addr) (n c b : Nat) (l : List Int) (hs : SD eI b σ a n l) (hn : n < 1000) : rn (.call f_survey_first [SL a n c] σ) = some (.val (I64 (firstE l)) σ) := by
  apply eq_call rfl (t_survey_first _ _ _ _ _)
  rw [reS_eq, hs.lenT]
  exact eq_loopT (lp_survey_first σ _ (In.start σ) a n c b l (hs.keep fun _ _ => rfl) hn n 0 (by omega) (I64 0) (SL a n c) poison poison poison)
theorem s_survey_first2 (σ : St) (x y : Int) : rn (.call f_survey_first [SL (some ⟨σ.next, 0, none⟩) 2 3] (newBlk σ (.cells false 1 [I64 x, I64 y]))) = some (.val (I64 (if x = 0 then y else x)) (newBlk σ (.cells false 1 [I64 x, I64 y]))) := by
  rw [s_survey_first (newBlk σ (.cells false 1 [I64 x, I64 y])) _ 2 3 (σ.next + 1) [x, y] (sd_lit eI σ [x, y]) (by omega)]
  simp only [firstE]; by_cases hx : x = 0 <;> by_cases hy : y = 0 <;> simp [hx, hy]
theorem s_survey_first3 (σ : St) (x y z : Int) : rn (.call f_survey_first [SL (some ⟨σ.next, 0, none⟩) 3 4] (newBlk σ (.cells false 1 [I64 x, I64 y, I64 z]))) = some (.val (I64 (if x = 0 then if y = 0 then z else y else x)) (newBlk σ (.cells false 1 [I64 x, I64 y, I64 z]))) := by
  rw [s_survey_first (newBlk σ (.cells false 1 [I64 x, I64 y, I64 z])) _ 3 4 (σ.next + 1) [x, y, z] (sd_lit eI σ [x, y, z]) (by omega)]
  simp only [firstE]; by_cases hx : x = 0 <;> by_cases hy : y = 0 <;> by_cases hz : z = 0 <;> simp [hx, hy, hz]

theorem s_base_Within (σ : St) (n lo hi : Int) : rn (.call f_base_Within [I64 n, I64 lo, I64 hi] σ) = some (.val (BL (decide (lo ≤ n ∧ n ≤ hi))) σ) := by
  apply eq_call rfl (t_base_Within _ _ _ _ _)
  rw [reS_eq, bc_leI]
  split
  · rw [retT_flat rfl (Nat.le_refl _), leI_eq]; exact res_dec (by simp [*])
  · rw [retT_flat rfl (Nat.le_refl _)]; exact res_F (by simp [*])
theorem s_sonar_isCell (σ : St) (x y w h : Int) (hw : 0 ≤ w ∧ w ≤ 9223372036854775807) (hh : 0 ≤ h ∧ h ≤ 9223372036854775807) :
    rn (.call f_sonar_isCell [AG [I64 x, I64 y], I64 w, I64 h] σ) = some (.val (BL (decide ((0 ≤ x ∧ x < w) ∧ 0 ≤ y ∧ y < h))) σ) := by
  apply eq_call rfl (t_sonar_isCell _ _ _ _ _ _)
  rw [reS_eq, newC_ok rfl, (Bx.new _ _).ld1 rfl, asI_eq, zsub_ok (by omega), callT_of (s_sonar_within _ _ _ _), asB_eq, bc_dec]
  split
  · rw [(Bx.new _ _).ld1 rfl, asI_eq, zsub_ok (by omega), callT_of (s_sonar_within _ _ _ _), asB_eq, retT_flat rfl (Nat.le_refl _)]
    exact res_dec (by omega)
  · rw [retT_flat rfl (Nat.le_refl _)]
    exact res_F (by omega)
theorem s_ref04_isCell (σ : St) (x y w h : Int) (hw : 0 ≤ w ∧ w ≤ 9223372036854775807) (hh : 0 ≤ h ∧ h ≤ 9223372036854775807) :
    rn (.call f_ref04_isCell [AG [I64 x, I64 y], I64 w, I64 h] σ) = some (.val (BL (decide ((0 ≤ x ∧ x < w) ∧ 0 ≤ y ∧ y < h))) σ) := by
  apply eq_call rfl (t_ref04_isCell _ _ _ _ _ _)
  rw [reS_eq, newC_ok rfl, (Bx.new _ _).ld1 rfl, asI_eq, zsub_ok (by omega), callT_of (s_base_Within _ _ _ _), asB_eq, bc_dec]
  split
  · rw [(Bx.new _ _).ld1 rfl, asI_eq, zsub_ok (by omega), callT_of (s_base_Within _ _ _ _), asB_eq, retT_flat rfl (Nat.le_refl _)]
    exact res_dec (by omega)
  · rw [retT_flat rfl (Nat.le_refl _)]
    exact res_F (by omega)
end Go.AM.W
