/- What the functions that TopSurveySeen calls come to: whether a scene is valid, by both texts; the cells that a ray crosses. -/
import Derived.Test.YtfmpoodienmieaaSv3
namespace Go.AM.W
open Go Go.AM
theorem s_sonar_sceneErr (σ : St) (hw : σ.wall ≤ σ.next) (w h : Int) (a : Option Addr) (n c : Nat) (l : List Ray) (hn : n < 1000) (hs : SD eRay σ.next σ a n l) :
    rn (.call f_sonar_sceneErr [AG [I64 w, I64 h, SL a n c]] σ) = some (.val (I64 (scE w h l)) σ) := by
  apply eq_call rfl (t_sonar_sceneErr _ _ _ _ _ _ _)
  rw [reS_eq, newC_ok rfl, (Bx.new _ _).ldN (by simp)]
  show hdI .i64 [I64 w, I64 h, SL a n c] _ = _
  obtain ⟨k, hk⟩ := s_sonar_CheckScene (newBlk { σ with low := σ.next } (.cells false 0 [I64 w, I64 h, SL a n c])) (by show σ.wall ≤ σ.next + 1; omega) w h a n c l hn ((hs.keep fun j hj => by rw [nb_get, if_neg (by show ¬ σ.next = j; omega)]).weak (Nat.le_succ _))
  rw [hdI_eq, hdI_eq, hdL_eq, nl_eq, callT_of hk, asT_eq, hdI_eq, hdI_eq, nl_eq, retT_flat rfl (Nat.le_refl _)]
theorem lp_ref04_CheckScene (σ0 σ : St) (hin : In σ0 σ) (i1 : Nat) (w h : Int) (a : Option Addr) (n c b : Nat) (l : List Ray) (hn : n < 1000) (hb : Bx σ i1 [I64 w, I64 h, SL a n c]) (hs : SD eRay b σ a n l)
    (hw : 0 ≤ w ∧ w ≤ 9223372036854775807) (hh : 0 ≤ h ∧ h ≤ 9223372036854775807) : ∀ (k i : Nat), i + k = n → ∀ (j2 j3 j0 j4 j13 j18 j23 j6 j37 : Value),
    Wp (rn (.loop c_ref04_CheckScene_1 (keptIn P 16) (h_ref04_CheckScene_1 σ i1 0 i j2 j3 j0 j4 j13 j18 j23 j6 j37))) fun r => ∃ e fr, r = .ex e fr ∧
      k_ref04_CheckScene_1 rn σ0 e fr = some (.val (TU [I64 (eachE (rayE w h) i (l.drop i)).1, I64 (eachE (rayE w h) i (l.drop i)).2]) σ0) := by
  have hl := hs.n_eq
  intro k
  induction k with
  | zero =>
    intro i hk j2 j3 j0 j4 j13 j18 j23 j6 j37
    apply wp_loop (l_ref04_CheckScene_1 _ _ _ _ _ _ _ _ _ _ _ _ _ _)
    rw [hb.ld1 rfl, asL_eq, hs.lenT, bc_ltI, if_neg (by omega)]
    refine wp_some ⟨_, _, rfl, ?_⟩
    rw [← a_ref04_CheckScene_1_0, retT_flat rfl hin.lo, List.drop_of_length_le (by omega)]; rfl
  | succ k ih =>
    intro i hk j2 j3 j0 j4 j13 j18 j23 j6 j37
    apply wp_loop (l_ref04_CheckScene_1 _ _ _ _ _ _ _ _ _ _ _ _ _ _)
    have hi : i < l.length := by omega
    rw [hb.ld1 rfl, asL_eq, hs.lenT, bc_ltI, if_pos (by omega), hb.ld1 rfl, asL_eq, hs.ldN (get_some hi) c, List.drop_eq_getElem_cons hi]
    generalize l[i] = r
    rw [hdI_eq, hdI_eq, hdI_eq, hdI_eq, hdB_eq, nl_eq, hb.ld1 rfl, asI_eq, hb.ld1 rfl, asI_eq, callT_of (s_ref04_RayErr σ r w h hw hh), asI_eq, bc_neI]
    by_cases hr : rayE w h r = 0
    · rw [if_pos hr, zadd_ok (by omega)]
      simp only [eachE, if_pos hr]
      exact ih (i + 1) (by omega) _ _ _ _ _ _ _ _ _
    · rw [if_neg hr]
      refine wp_some ⟨_, _, rfl, ?_⟩
      rw [← a_ref04_CheckScene_1_ret, retT_flat rfl hin.lo]
      simp only [eachE, if_neg hr]
theorem s_ref04_CheckScene (σ : St) (w h : Int) (a : Option Addr) (n c : Nat) (l : List Ray) (hn : n < 1000) (hs : SD eRay σ.next σ a n l) :
    ∃ k, rn (.call f_ref04_CheckScene [AG [I64 w, I64 h, SL a n c]] σ) = some (.val (TU [I64 k, I64 (scE w h l)]) σ) := by
  have hl := hs.n_eq
  suffices hh : ∃ k, (reS { σ with low := σ.next } fun σ1 => _) = some (.val (TU [I64 k, I64 (scE w h l)]) σ) by
    obtain ⟨k, hk⟩ := hh
    exact ⟨k, eq_call rfl (t_ref04_CheckScene _ _ w h a n c) hk⟩
  have hs' : SD eRay σ.next (newBlk { σ with low := σ.next } (.cells false 0 [I64 w, I64 h, SL a n c])) a n l := hs.keep fun j hj => by rw [nb_get, if_neg (by show ¬ σ.next = j; omega)]
  rw [reS_eq, newC_ok rfl, (Bx.new _ _).ld1 rfl, asI_eq, (Bx.new _ _).ld1 rfl, asI_eq, callT_of (s_ref04_gridErr _ _ _), asI_eq, bc_neI]
  unfold scE gridE
  rw [← hl]
  by_cases hg : (1 ≤ w ∧ w ≤ 12) ∧ 1 ≤ h ∧ h ≤ 12
  · rw [if_pos hg, if_pos rfl, (Bx.new _ _).ld1 rfl, asL_eq, hs'.lenT, bc_ltI]
    simp only [if_pos hg]
    by_cases h10 : (n : Int) ≤ 10
    · rw [if_neg (by omega), if_pos h10, if_pos rfl]
      exact ⟨_, eq_loopT (lp_ref04_CheckScene σ _ ((In.start σ).box _) σ.next w h a n c σ.next l hn (Bx.new _ _) hs' (by omega) (by omega) n 0 (by omega) _ _ _ _ _ _ _ _ _)⟩
    · rw [if_pos (by omega), if_neg h10, if_neg (by omega), retT_flat rfl (Nat.le_refl _)]
      exact ⟨_, rfl⟩
  · simp only [if_neg hg]
    rw [if_neg (by omega), if_neg (by omega), retT_flat rfl (Nat.le_refl _)]
    exact ⟨_, rfl⟩
theorem s_ref04_SceneErr (σ : St) (w h : Int) (a : Option Addr) (n c : Nat) (l : List Ray) (hn : n < 1000) (hs : SD eRay σ.next σ a n l) :
    rn (.call f_ref04_SceneErr [AG [I64 w, I64 h, SL a n c]] σ) = some (.val (I64 (scE w h l)) σ) := by
  apply eq_call rfl (t_ref04_SceneErr _ _ _ _ _ _ _)
  rw [reS_eq, newC_ok rfl, (Bx.new _ _).ldN (by simp)]
  show hdI .i64 [I64 w, I64 h, SL a n c] _ = _
  obtain ⟨k, hk⟩ := s_ref04_CheckScene (newBlk { σ with low := σ.next } (.cells false 0 [I64 w, I64 h, SL a n c])) w h a n c l hn ((hs.keep fun j hj => by rw [nb_get, if_neg (by show ¬ σ.next = j; omega)]).weak (Nat.le_succ _))
  rw [hdI_eq, hdI_eq, hdL_eq, nl_eq, callT_of hk, asT_eq, hdI_eq, hdI_eq, nl_eq, retT_flat rfl (Nat.le_refl _)]
theorem s_sonar_size (σ : St) (n : Int) (h : -1000000000000 ≤ n ∧ n ≤ 1000000000000) : rn (.call f_sonar_size [I64 n] σ) = some (.val (I64 (if 0 ≤ n then n else -n)) σ) := by
  apply eq_call rfl (t_sonar_size _ _ _)
  rw [reS_eq, wrap_neg (by omega), zop_eq, zop_eq, retT_flat rfl (Nat.le_refl _)]
  congr 3
  by_cases h1 : 0 ≤ n
  · rw [if_pos h1]; split <;> omega
  · rw [if_neg h1]; split <;> omega
theorem s_sonar_cell (σ : St) (x y w : Int) (hx : 0 ≤ x ∧ x < 100) (hy : y = 0) : rn (.call f_sonar_cell [AG [I64 x, I64 y], I64 w] σ) = some (.val (I64 x) σ) := by
  apply eq_call rfl (t_sonar_cell _ _ _ _ _)
  subst hy
  rw [reS_eq, newC_ok rfl, (Bx.new _ _).ld1 rfl, asI_eq, zmul_ok (by omega), (Bx.new _ _).ld1 rfl, asI_eq, zadd_ok (by omega), retT_flat rfl (Nat.le_refl _)]
  congr 3; omega
end Go.AM.W
