/- What the functions that TopSurveySeen calls come to: the cells that a ray along the row crosses. -/
import Derived.Test.YtfmpoodienmieaaSv4
namespace Go.AM.W
open Go Go.AM
def cellsL (lo hi : Int) : List (Int × Int) := (List.range (hi + 1 - lo).toNat).map fun (k : Nat) => (lo + (k : Int), (0 : Int))
theorem cellsL_succ {lo x : Int} (h : lo ≤ x) : cellsL lo x = cellsL lo (x - 1) ++ [(x, 0)] := by
  unfold cellsL
  have e : (x + 1 - lo).toNat = (x - 1 + 1 - lo).toNat + 1 := by omega
  rw [e, List.range_succ, List.map_append, List.map_singleton]
  have e2 : lo + (((x - 1 + 1 - lo).toNat : Nat) : Int) = x := by omega
  rw [e2]
theorem cellsL_nil {lo : Int} : cellsL lo (lo - 1) = [] := by
  unfold cellsL
  have e : (lo - 1 + 1 - lo).toNat = 0 := by omega
  rw [e]; rfl
theorem cellsL_len {lo hi : Int} : (cellsL lo hi).length = (hi + 1 - lo).toNat := by unfold cellsL; simp
def loR (fx tx : Int) : Int := if tx < fx then tx else fx
def hiR (fx tx : Int) : Int := if fx < tx then tx else fx
section
variable (σ0 : St) (hw : σ0.wall ≤ σ0.next) (fx tx : Int) (hit : Bool) (hf : 0 ≤ fx ∧ fx < 12) (ht : 0 ≤ tx ∧ tx < 12)
abbrev rowRay (fx tx : Int) (hit : Bool) : Ray := ⟨fx, 0, tx, 0, hit⟩
include hw hf ht in
theorem lp_crossed_2 {Q : Res → Prop}
    (hQ : ∀ (σ : St) (a : Option Addr) (n : Nat) (j2 j0 j38 j7 j56 j8 j91 : Value), In σ0 σ → Bx σ σ0.next [I64 fx, I64 0, I64 tx, I64 0, BL hit] → Own eII (σ0.next + 1) σ a n (cellsL (loR fx tx) (hiR fx tx)) →
      Wp (k_sonar_crossed_2 rn (.exit 2) (x_sonar_crossed_2_2 σ σ0.next 0 0 (tx - fx) 0 a n 0 j2 j0 j38 j7 j56 j8 j91)) Q) :
    ∀ (k : Nat) (x : Int), x + k = hiR fx tx + 1 → loR fx tx ≤ x → ∀ (σ : St) (a : Option Addr) (n : Nat), In σ0 σ → Bx σ σ0.next [I64 fx, I64 0, I64 tx, I64 0, BL hit] → Own eII (σ0.next + 1) σ a n (cellsL (loR fx tx) (x - 1)) →
      ∀ (j2 j0 j38 j56 j8 j91 : Value), Wp (rn (.loop c_sonar_crossed_2 (keptIn P 50) (h_sonar_crossed_2 σ σ0.next 0 0 x (tx - fx) 0 a n 0 j2 j0 j38 j56 j8 j91)))
        fun r => ∃ e fr, r = .ex e fr ∧ Wp (k_sonar_crossed_2 rn e fr) Q := by
  have hhi : hiR fx tx < 12 := by unfold hiR; split <;> omega
  have hlo : 0 ≤ loR fx tx := by unfold loR; split <;> omega
  intro k
  induction k with
  | zero =>
    intro x hx hxl σ a n hin hb ho j2 j0 j38 j56 j8 j91
    apply wp_loop (l_sonar_crossed_2 _ _ _ _ _ _ _ _ _ _ _ _ _ _ _ _ _)
    rw [hb.ld1 rfl, asI_eq, hb.ld1 rfl, asI_eq, zop_eq, bc_leI, if_neg (by show ¬ x ≤ hiR fx tx; omega)]
    refine wp_some ⟨_, _, rfl, ?_⟩
    have e : x - 1 = hiR fx tx := by omega
    rw [e] at ho
    exact hQ σ a n _ _ _ _ _ _ _ hin hb ho
  | succ k ih =>
    intro x hx hxl σ a n hin hb ho j2 j0 j38 j56 j8 j91
    apply wp_loop (l_sonar_crossed_2 _ _ _ _ _ _ _ _ _ _ _ _ _ _ _ _ _)
    rw [hb.ld1 rfl, asI_eq, hb.ld1 rfl, asI_eq, zop_eq, bc_leI, if_pos (by show x ≤ hiR fx tx; omega), zmul_ok (by omega), hb.ld1 rfl, asI_eq, zsub_ok (by omega), zmul_ok (by omega), zmul_ok (by omega), hb.ld1 rfl, asI_eq, zsub_ok (by omega), zmul_ok (by omega), zsub_ok (by omega)]
    rw [callT_of (s_sonar_size _ _ (by omega)), asI_eq, callT_of (s_sonar_size _ _ (by omega)), asI_eq, callT_of (s_sonar_size _ _ (by omega)), asI_eq, zadd_ok (by split <;> split <;> omega), bc_ltI, bc_eqI, bc_eqI]
    have hn : n = (cellsL (loR fx tx) (x - 1)).length := ho.len
    rw [cellsL_len] at hn
    have hgo : ∀ (m : Int), Wp (newZ 2 [I64 x, I64 0] σ fun σ28 => appT 2 16 (SL a n 0) (SL (some ⟨σ.next, 0, Option.none⟩) 1 2) σ28 fun d29 e30 f31 σ32 => zadd x 1 fun x33 =>
        run P Γ (.loop c_sonar_crossed_2 (keptIn P 50) (F P 50 σ32 [j2, j0, PT σ0.next 0, I64 0, j38, I64 x33, BL true, I64 (tx - fx), I64 0, I64 m, BL true, SL d29 e30 f31]))) fun r => ∃ e fr, r = .ex e fr ∧ Wp (k_sonar_crossed_2 rn e fr) Q := by
      intro m
      obtain ⟨a', σ', h1, h2, h3, h4, h5⟩ := ho.push (by' := 16) (by have := hin.wall; show σ.wall ≤ σ0.next + 1; rw [this]; show σ0.wall ≤ _; omega) (by have := hb.lt; omega) (by omega) (x, 0)
      have := h1 fun d29 e30 f31 σ32 => zadd x 1 fun x33 => run P Γ (.loop c_sonar_crossed_2 (keptIn P 50) (F P 50 σ32 [j2, j0, PT σ0.next 0, I64 0, j38, I64 x33, BL true, I64 (tx - fx), I64 0, I64 m, BL true, SL d29 e30 f31]))
      refine wp_eq this ?_
      rw [zadd_ok (by omega)]
      refine ih (x + 1) (by omega) (by omega) σ' a' (n + 1) (hin.trans (h3.weak (Nat.le_succ _))) (hb.keep h3.next (h3.old _ (Nat.lt_succ_self _))) ?_ _ _ _ _ _ _
      rw [Int.add_sub_cancel, cellsL_succ hxl]; exact h2
    refine wp_if (fun _ => hgo _) fun hlt => ?_
    have hE : (tx - fx) * 2 * (0 - 0) - 0 * 2 * (x - fx) = 0 := by omega
    rw [hE] at hlt
    have h0 : tx - fx = 0 := by
      by_cases h0 : tx - fx = 0
      · exact h0
      · exfalso; apply hlt
        by_cases h1 : 0 ≤ tx - fx
        · simp only [if_pos h1]; simp; omega
        · simp only [if_neg h1]; simp; omega
    rw [if_pos h0, if_pos rfl]
    exact hgo _
include hw hf ht in
theorem s_sonar_crossed : Ret P Γ f_sonar_crossed [AG [I64 fx, I64 0, I64 tx, I64 0, BL hit]] σ0 fun v σ' => ∃ a n, v = SL a n 0 ∧ Ext σ0 σ' ∧ Own eII σ0.next σ' a n (cellsL (loR fx tx) (hiR fx tx)) := by
  have hhi : hiR fx tx < 12 := by unfold hiR; split <;> omega
  have hlo : 0 ≤ loR fx tx := by unfold loR; split <;> omega
  have hle : loR fx tx ≤ hiR fx tx := by unfold loR hiR; split <;> split <;> omega
  refine ret_call rfl (t_sonar_crossed _ _ _ _ _ _ _) ?_
  have hb := Bx.new { σ0 with low := σ0.next } [I64 fx, I64 0, I64 tx, I64 0, BL hit]
  have hin := (In.start σ0).box (.cells false 0 [I64 fx, I64 0, I64 tx, I64 0, BL hit])
  rw [reS_eq, newC_ok rfl, hb.ld1 rfl, asI_eq, hb.ld1 rfl, asI_eq, zsub_ok (by omega), hb.ld1 rfl, asI_eq, hb.ld1 rfl, asI_eq, zsub_ok (by omega), hb.ld1 rfl, asI_eq, hb.ld1 rfl, asI_eq, zop_eq]
  refine lp_loopT ?_
  refine wp_loop (l_sonar_crossed_1 _ _ _ _ _ _ _ _ _ _ _ _ _ _ _ _ _) ?_
  rw [hb.ld1 rfl, asI_eq, hb.ld1 rfl, asI_eq, zop_eq, bc_leI, if_pos (by simp), hb.ld1 rfl, asI_eq, hb.ld1 rfl, asI_eq, zop_eq]
  refine lp_loopT (lp_crossed_2 σ0 hw fx tx hit hf ht ?_ (hiR fx tx + 1 - loR fx tx).toNat (loR fx tx) (by omega) (Int.le_refl _) _ none 0 hin hb (by rw [cellsL_nil]; exact Own.nil _ _ _) _ _ _ _ _ _)
  intro σ a n j2 j0 j38 j7 j56 j8 j91 hin hb ho
  rw [← a_sonar_crossed_2_2, zadd_ok (by omega)]
  refine wp_loop (l_sonar_crossed_1 _ _ _ _ _ _ _ _ _ _ _ _ _ _ _ _ _) ?_
  rw [hb.ld1 rfl, asI_eq, hb.ld1 rfl, asI_eq, zop_eq, bc_leI, if_neg (by simp)]
  refine wp_some ⟨_, _, rfl, ?_⟩
  rw [← a_sonar_crossed_1_0]
  obtain ⟨σ', h1, h2, h3⟩ := ret_new hin (ho.weak (Nat.le_succ _)) (c := 0) (fun _ => rfl)
  exact Wp.of h1 ⟨_, _, rfl, a, n, rfl, h2, h3⟩
end
end Go.AM.W
