/- What the functions that TopSurveySeen calls come to: copies, and whether ranges are the same. -/
import Derived.Test.YtfmpoodienmieaaSp1
namespace Go.AM.W
open Go Go.AM
theorem s_CopyRanges (σ0 : St) (a : Option Addr) (n c : Nat) (l : List (Int × Int)) (hn : n < 1000) (hs : SD eII σ0.next σ0 a n l) :
    Ret P Γ f_base_CopyRanges [SL a n c] σ0 fun v σ' => ∃ a' c', v = SL a' n c' ∧ Ext σ0 σ' ∧ Own eII σ0.next σ' a' n l := by
  refine ret_call rfl (t_base_CopyRanges _ _ _ _ _) ?_
  obtain ⟨a', c', σ', h1, h2, h3, i, h4⟩ := copy_ok (σ := { σ0 with low := σ0.next }) (c := c) (by' := 16) (hs.keep fun _ _ => rfl) (Nat.le_refl _) (by omega)
  rw [reS_eq]
  refine wp_eq (h1 _) ?_
  have hin := (In.start σ0).step h3
  obtain ⟨σ2, h5, h6, h7⟩ := ret_new (c := c') hin h2 (fun e => by rw [e] at h4; cases h4)
  exact Wp.of h5 ⟨_, _, rfl, a', c', rfl, h6, h7⟩
theorem ne_range (a b c d : Int) : binA P .neq 34 (.tmp 20) (.tmp 24) (AG [I64 a, I64 b]) (AG [I64 c, I64 d]) = some (BL (decide (¬ (a = c ∧ b = d)))) := (by kernel_rfl : _ = om (bc (eqI a c) (bc (eqI b d) (some true) (some false)) (some false)) fun r => Value.bool (!r)).trans (ne2_ok a b c d)
/-- Slices of one range each, which are the same. -/
theorem s_Ranges (σ : St) (a : Option Addr) (c b b' : Nat) (a' : Option Addr) (c' : Nat) (r : Int × Int) (hs : SD eII b σ a 1 [r]) (hs' : SD eII b' σ a' 1 [r]) :
    rn (.call f_base_Ranges [SL a 1 c, SL a' 1 c'] σ) = some (.val (BL true) σ) := by
  apply eq_call rfl (t_base_Ranges _ _ _ _ _ _ _ _)
  have hs1 : SD eII b { σ with low := σ.next } a 1 [r] := hs.keep fun _ _ => rfl
  have hs1' : SD eII b' { σ with low := σ.next } a' 1 [r] := hs'.keep fun _ _ => rfl
  rw [reS_eq, hs.lenT, hs'.lenT, bc_neI, if_pos rfl]
  refine eq_loopT (wp_loop (l_base_Ranges_1 _ _ _ _ _ _ _ _ _ _ _ _ _) ?_)
  have e := hs1.ldN (k := 0) rfl c
  have e' := hs1'.ldN (k := 0) rfl c'
  rw [hs1.lenT, bc_ltI, if_pos (by omega)]
  rw [show ((0 : Nat) : Int) = 0 from rfl] at e e'
  rw [e, hdI_eq, hdI_eq, nl_eq, e', hdI_eq, hdI_eq, nl_eq, ne_range, ob_some, asB_eq, bc_dec, if_neg (by simp), zadd_ok (by omega)]
  refine wp_loop (l_base_Ranges_1 _ _ _ _ _ _ _ _ _ _ _ _ _) ?_
  rw [hs1.lenT, bc_ltI, if_neg (by omega)]
  refine wp_some ⟨_, _, rfl, ?_⟩
  rw [← a_base_Ranges_1_0, retT_flat rfl (Nat.le_refl _)]
end Go.AM.W
