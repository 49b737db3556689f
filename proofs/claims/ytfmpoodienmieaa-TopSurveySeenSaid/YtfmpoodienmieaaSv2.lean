/- What the functions that TopSurveySeen calls come to: scenes and rays. -/
import Derived.Test.YtfmpoodienmieaaSv1
namespace Go.AM.W
open Go Go.AM
structure Ray where
  fx : Int
  fy : Int
  tx : Int
  ty : Int
  hit : Bool
abbrev eRay : Enc Ray 5 := ⟨fun r => [I64 r.fx, I64 r.fy, I64 r.tx, I64 r.ty, BL r.hit], fun _ => rfl, by omega, fun _ => rfl⟩
def Ray.inn (w h : Int) (r : Ray) : Prop := ((0 ≤ r.fx ∧ r.fx < w) ∧ 0 ≤ r.fy ∧ r.fy < h) ∧ (0 ≤ r.tx ∧ r.tx < w) ∧ 0 ≤ r.ty ∧ r.ty < h
instance (w h : Int) (r : Ray) : Decidable (r.inn w h) := by unfold Ray.inn; infer_instance
def rayE (w h : Int) (r : Ray) : Int := if r.inn w h then 0 else 6
theorem s_sonar_gridErr_1 (σ : St) (n : Int) : rn (.call f_sonar_gridErr_1 [I64 n] σ) = some (.val (BL (decide (1 ≤ n ∧ n ≤ 12))) σ) := by
  apply eq_call rfl (t_sonar_gridErr_1 _ _ _)
  rw [reS_eq, callT_of (s_sonar_within _ _ _ _), asB_eq, retT_flat rfl (Nat.le_refl _)]
def gridE (w h n : Int) : Int := if (1 ≤ w ∧ w ≤ 12) ∧ 1 ≤ h ∧ h ≤ 12 then (if n ≤ 10 then 0 else 8) else 2
theorem s_sonar_gridErr (σ : St) (w h n : Int) : rn (.call f_sonar_gridErr [I64 w, I64 h, I64 n] σ) = some (.val (I64 (gridE w h n)) σ) := by
  apply eq_call rfl (t_sonar_gridErr _ _ _ _ _)
  rw [reS_eq, callT_of (s_sonar_gridErr_1 _ _), asB_eq, bc_dec]
  split
  · rw [callT_of (s_sonar_gridErr_1 _ _), asB_eq, callT_of (s_sonar_unless _ _ _), asI_eq, callT_of (s_sonar_unless _ _ _), asI_eq, newZ_eq, callT_of (s_sonar_first2 _ _ _), asI_eq, retT_flat rfl (Nat.le_refl _), leI_eq]
    unfold gridE
    congr 3
    by_cases h1 : 1 ≤ h ∧ h ≤ 12 <;> by_cases h2 : n ≤ 10 <;> simp [*]
  · rw [callT_of (s_sonar_unless _ _ _), asI_eq, callT_of (s_sonar_unless _ _ _), asI_eq, newZ_eq, callT_of (s_sonar_first2 _ _ _), asI_eq, retT_flat rfl (Nat.le_refl _)]
    unfold gridE
    rename_i h1
    simp [h1]
theorem s_ref04_gridErr (σ : St) (w h : Int) : rn (.call f_ref04_gridErr [I64 w, I64 h] σ) = some (.val (I64 (if (1 ≤ w ∧ w ≤ 12) ∧ 1 ≤ h ∧ h ≤ 12 then 0 else 2)) σ) := by
  apply eq_call rfl (t_ref04_gridErr _ _ _ _)
  rw [reS_eq, callT_of (s_base_Within _ _ _ _), asB_eq, bc_not, bc_dec]
  split
  · rw [callT_of (s_base_Within _ _ _ _), asB_eq, bc_not, bc_dec]
    split
    · rw [retT_flat rfl (Nat.le_refl _)]; simp [*]
    · rename_i h1; rw [retT_flat rfl (Nat.le_refl _)]; simp [h1]
  · rename_i h1; rw [retT_flat rfl (Nat.le_refl _)]; simp [h1]
theorem s_sonar_rayErr (σ : St) (r : Ray) (w h : Int) (hw : 0 ≤ w ∧ w ≤ 9223372036854775807) (hh : 0 ≤ h ∧ h ≤ 9223372036854775807) : rn (.call f_sonar_rayErr [AG (eRay.enc r), I64 w, I64 h] σ) = some (.val (I64 (rayE w h r)) σ) := by
  apply eq_call rfl (t_sonar_rayErr _ _ _ _ _ _ _ _ _)
  rw [reS_eq, newC_ok rfl, (Bx.new _ _).ldN (by simp)]
  show hdI .i64 [I64 r.fx, I64 r.fy] _ = _
  rw [hdI_eq, hdI_eq, nl_eq, callT_of (s_sonar_isCell _ _ _ _ _ hw hh), asB_eq, bc_dec]
  split
  · rw [(Bx.new _ _).ldN (by simp)]
    show hdI .i64 [I64 r.tx, I64 r.ty] _ = _
    rw [hdI_eq, hdI_eq, nl_eq, callT_of (s_sonar_isCell _ _ _ _ _ hw hh), asB_eq, callT_of (s_sonar_unless _ _ _), asI_eq, retT_flat rfl (Nat.le_refl _)]
    unfold rayE Ray.inn; simp [*]
  · rename_i h1
    rw [callT_of (s_sonar_unless _ _ _), asI_eq, retT_flat rfl (Nat.le_refl _)]
    unfold rayE Ray.inn; simp [h1]
theorem s_ref04_RayErr (σ : St) (r : Ray) (w h : Int) (hw : 0 ≤ w ∧ w ≤ 9223372036854775807) (hh : 0 ≤ h ∧ h ≤ 9223372036854775807) : rn (.call f_ref04_RayErr [AG (eRay.enc r), I64 w, I64 h] σ) = some (.val (I64 (rayE w h r)) σ) := by
  apply eq_call rfl (t_ref04_RayErr _ _ _ _ _ _ _ _ _)
  rw [reS_eq, newC_ok rfl, (Bx.new _ _).ldN (by simp)]
  show hdI .i64 [I64 r.fx, I64 r.fy] _ = _
  rw [hdI_eq, hdI_eq, nl_eq, callT_of (s_ref04_isCell _ _ _ _ _ hw hh), asB_eq, bc_not, bc_dec]
  split
  · rw [(Bx.new _ _).ldN (by simp)]
    show hdI .i64 [I64 r.tx, I64 r.ty] _ = _
    rw [hdI_eq, hdI_eq, nl_eq, callT_of (s_ref04_isCell _ _ _ _ _ hw hh), asB_eq, bc_not, bc_dec]
    split
    · rw [retT_flat rfl (Nat.le_refl _)]; unfold rayE Ray.inn; simp [*]
    · rename_i h1 h2; rw [retT_flat rfl (Nat.le_refl _)]; unfold rayE Ray.inn; simp [h2]
  · rename_i h1
    rw [retT_flat rfl (Nat.le_refl _)]
    unfold rayE Ray.inn; simp [h1]
end Go.AM.W
