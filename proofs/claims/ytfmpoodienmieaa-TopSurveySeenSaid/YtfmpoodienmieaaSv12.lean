/- TopSurveySeen: for every input the call comes to true, and leaves the memory as it was. -/
import Derived.Test.YtfmpoodienmieaaSv11
namespace Go.AM.W
open Go Go.AM
theorem sl28 : sliceT P 28 = some ⟨34, 2, 16, [I64 0, I64 0]⟩ := by kernel_rfl
theorem str28 : isStringT P 28 = false := by kernel_rfl
theorem arr28 : arrayT P 28 = none := by kernel_rfl
theorem shown (σ : St) : rn (.call f_top_surveyShown [] σ) = some (.val (BL true) σ) := tab_call rfl
theorem sw_ok {wide : Nat} {l : List Ray} (hw : wide ≤ 12) (hl : RowRays wide l) : ∀ r ∈ swaths l, swE r = 0 ∧ r.1 ≤ r.2 := by
  intro r hr
  unfold swaths at hr
  rw [List.mem_map] at hr
  obtain ⟨x, hx, rfl⟩ := hr
  have := hl x hx
  unfold swE loR hiR
  by_cases h1 : x.tx < x.fx <;> by_cases h2 : x.fx < x.tx <;> simp only [h1, h2, if_true, if_false] <;> refine ⟨?_, by omega⟩ <;> rw [if_pos (by omega), if_pos (by omega)]
theorem cov_sw (l : List Ray) (x : Int) : Cov l x ↔ ¬ cnt x (swaths l) < 1 := by
  rw [cnt_pos, Classical.not_not]
  unfold Cov swaths
  constructor
  · rintro ⟨r, hr, h⟩; exact ⟨_, List.mem_map.2 ⟨r, hr, rfl⟩, h⟩
  · rintro ⟨s, hs, h⟩
    obtain ⟨r, hr, rfl⟩ := List.mem_map.1 hs
    exact ⟨r, hr, h⟩
theorem w_TopSurveySeen (σ0 : St) (hw : σ0.wall ≤ σ0.next) (n0 : Int) (a1 : Option Addr) (m1 c1 : Nat) (l : List Ray) (hs : SD eRay σ0.next σ0 a1 m1 l) :
    Wp (rn (.call f_top_TopSurveySeen [I64 n0, SL a1 m1 c1] σ0)) (TrueRes σ0) := by
  have hnl := hs.n_eq
  refine wp_call rfl (t_top_TopSurveySeen _ _ _ _ _ _) ?_
  rw [reS_eq, callT_of (shown _), asB_eq, bc_not, bcT, callT_of (s_base_Within _ _ _ _), asB_eq, bc_not, bc_dec]
  refine wp_if (fun hwd => ?_) fun _ => ?_
  case refine_2 => rw [retT_flat rfl (Nat.le_refl _)]; exact wp_some rfl
  rw [hs.lenT, bc_ltI]
  refine wp_if (fun _ => ?_) fun hm9 => ?_
  · rw [retT_flat rfl (Nat.le_refl _)]; exact wp_some rfl
  obtain ⟨wide, rfl⟩ : ∃ w : Nat, n0 = w := ⟨n0.toNat, by omega⟩
  obtain ⟨a', c', σ1, h1, h2, h3, ix, h4⟩ := copy_ok (σ := { σ0 with low := σ0.next }) (c := c1) (by' := 40) (hs.keep fun _ _ => rfl) (Nat.le_refl _) (by omega)
  refine wp_eq (h1 _) ?_
  have hin1 := (In.start σ0).step h3
  rw [var_eq (by rfl) (by rfl) (by rfl) (by simp) (hin1.wl hw)]
  have hbx := vb_bx σ1 [I64 0, I64 0, SL none 0 0] [I64 wide, I64 1, SL a' m1 c']
  have hold := vb_old σ1 [I64 0, I64 0, SL none 0 0] [I64 wide, I64 1, SL a' m1 c']
  have hn2 := vb_next σ1 [I64 0, I64 0, SL none 0 0] [I64 wide, I64 1, SL a' m1 c']
  have hin2 := hin1.var [I64 0, I64 0, SL none 0 0] [I64 wide, I64 1, SL a' m1 c']
  generalize vbox σ1 [I64 0, I64 0, SL none 0 0] [I64 wide, I64 1, SL a' m1 c'] = σ2 at *
  have hc1 : SD eRay σ1.next σ2 a' m1 l := h2.sl.keep fun j hj => hold j (by omega)
  rw [hbx.ldN (by simp)]
  show Wp (hdI .i64 [I64 wide, I64 1, SL a' m1 c'] _) _
  rw [hdI_eq, hdI_eq, hdL_eq, nl_eq, callT_of (s_ref04_SceneErr _ _ _ a' m1 c' l (by omega) (hc1.weak (by omega))), asI_eq, bc_neI]
  refine wp_if (fun hv => ?_) fun _ => ?_
  case refine_2 => rw [retT_flat rfl hin2.lo]; exact wp_some rfl
  obtain ⟨hwide, hrow⟩ := scE_row hv
  have hrow12 : RowRays 12 l := fun r hr => by have := hrow r hr; omega
  have hsw := sw_ok hwide hrow
  refine lp_loopT (lp_top1 σ0 hw wide a1 m1 c1 l (by omega) σ1.next σ2.next σ2 hin2.nx (Nat.le_refl _) hs hrow12 (TrueRes σ0) ?_ m1 0 (by omega) σ2 none 0 hin2 (Keep.refl _ _) (Own.nil _ _ _) _ _ _ _ _ _ _ _ _ _ _ _ _ _ _ _ _ _ _ _ _ _ _ _ _ _ _ _)
  intro σ3 a6 m6 j4 j23 j31 j39 j7 j43 j8 j9 j11 j13 j10 j12 j99 j14 j102 j16 j108 j15 j132 j135 j18 j17 j162 j19 j166 j21 j172 j20 j203 hin3 hk3 ho6
  have hm6 : m6 = m1 := by rw [ho6.len]; unfold swaths; rw [List.length_map]; exact hnl.symm
  have hbx3 := hbx.keep hk3.next (hk3.old _ hbx.lt)
  have hc3 : SD eRay σ1.next σ3 a' m1 l := hc1.keep fun j hj => hk3.old j (by omega)
  have hn3 := hk3.next
  rw [← a_top_TopSurveySeen_1_0, hbx3.ldN (by simp)]
  show Wp (hdI .i64 [I64 wide, I64 1, SL a' m1 c'] _) _
  rw [hdI_eq, hdI_eq, hdL_eq, nl_eq]
  refine wp_callT (s_sonar_StatesOf σ3 (hin3.wl hw) wide a' m1 c' l (by omega) hv (hc3.weak (by omega))) ?_
  rintro v σ4 ⟨a10, cp, out, rfl, he4, ho10, hsaid⟩
  have hin4 := hin3.step he4
  have ho6' := ho6.ext he4
  rw [asT_eq, hdL_eq, hdI_eq, nl_eq]
  refine wp_callT (s_CopyRanges σ4 a6 m6 0 (swaths l) (by omega) ho6'.sl) ?_
  rintro v σ5 ⟨a22, c22, rfl, he5, ho22⟩
  have hin5 := hin4.step he5
  have ho6'' := ho6'.ext he5
  have ho10' := ho10.ext he5
  rw [asL_eq, zsub_ok (by omega)]
  refine wp_callT (s_survey_GapsIn σ5 (hin5.wl hw) a22 m6 c22 (swaths l) (by omega) (fun r hr => (hsw r hr).1) ho22.sl wide (by omega) _ rfl) ?_
  rintro v σ6 ⟨a12, m12, rfl, he6, ho12⟩
  have hin6 := hin5.step he6
  have hs6 := (ho6''.ext he6).sl
  have ho6f := ho6''.ext he6
  have hs10 := (ho10'.ext he6).sl
  have hs12 := ho12.sl
  have hl12 := runs_in (p := fun x => decide (cnt x (swaths l) < 1)) (lo := 0) wide
  have hlen12 := runsL_len (fun x => decide (cnt x (swaths l) < 1)) 0 wide
  have hm12 := ho12.len
  rw [asT_eq, hdL_eq, hdI_eq, nl_eq, bc_neI, if_pos rfl, bc_neI, if_pos rfl, hs10.lenT, bc_neI, if_pos rfl, hs12.lenT, bc_ltI, if_neg (by omega)]
  have hiff := fun (x : Int) (h0 : 0 ≤ x) (h1 : x < wide) => runs_iff (p := fun x => decide (cnt x (swaths l) < 1)) (lo := 0) wide x h0 (by omega)
  generalize hgaps : runsL (fun x => decide (cnt x (swaths l) < 1)) 0 wide = gaps at *
  refine lp_loopT (lp_top2 σ0 σ6 wide a1 m1 c1 a6 m6 0 a10 wide cp a12 m12 0 _ gaps hs12 (by omega) wide rfl hwide out _ hs10 hsaid.1 ?_ (TrueRes σ0) ?_ wide 0 (by omega) _ _ _ _ _ _ _ _ _ _ _ _ _ _ _ _ _ _ _ _ _ _ _ _ _ _ _)
  · intro n v hnv
    obtain ⟨_, hS⟩ := hsaid.2 n v hnv
    have hnw : n < out.length := by
      rcases Nat.lt_or_ge n out.length with h | h
      · exact h
      · rw [List.getElem?_eq_none h] at hnv; cases hnv
    have := hsaid.1
    have hi := hiff n (by omega) (by omega)
    rw [cov_sw] at hS
    have e1 : inG gaps n = true ↔ ∃ g ∈ gaps, g.1 ≤ (n : Int) ∧ (n : Int) ≤ g.2 := by unfold inG; simp
    rw [Bool.eq_iff_iff, e1, hi, decide_eq_true_eq, decide_eq_true_eq]
    constructor
    · intro h; exact Classical.byContradiction fun h' => hS.1 h' h
    · intro h; exact Classical.byContradiction fun h' => hS.2 h' h
  intro j4 j23 j31 j5 j39 j7 j43 j8 j9 j11 j13 j10 j99 j14 j102 j16 j108 j15 j132 j135 j18 j17 j162 j19 j166 j21 j172 j20 j203
  have hs1 : SD eRay σ0.next σ6 a1 m1 l := hs.keep hin6.old
  rw [← a_top_TopSurveySeen_2_2, hs1.lenT, bc_eqI]
  refine wp_if (fun hm0 => ?_) fun hm0 => ?_
  · have hl0 : l = [] := by cases l with | nil => rfl | cons => simp at hnl; omega
    have hg1 : gaps = [(0, (wide : Int) - 1)] := by
      rw [← hgaps, hl0]
      obtain ⟨k, hk⟩ : ∃ k : Nat, wide = k + 1 := ⟨wide - 1, by omega⟩
      rw [hk, runs_all]
      · simp
      · intro x; simp [swaths, cnt]
    subst hg1
    have hm1 : m12 = 1 := hm12
    subst hm1
    rw [zsub_ok (by omega), newZ_eq]
    have hlit := sd_lit eII σ6 [(0, (wide : Int) - 1)]
    rw [callT_of (s_Ranges (newBlk σ6 (.cells false 2 [I64 0, I64 ((wide : Int) - 1)])) a12 0 _ _ _ 2 (0, (wide : Int) - 1) (hs12.keep fun j hj => by rw [nb_get, if_neg (by omega)]) hlit), asB_eq, retT_flat rfl (hin6.box _).lo]
    exact wp_some rfl
  · obtain ⟨k, hk⟩ : ∃ k : Nat, m6 = k + 1 := ⟨m6 - 1, by omega⟩
    obtain ⟨i6, hi6⟩ : ∃ i, a6 = some ⟨i, 0, none⟩ := by
      rcases ho6f.own with ⟨_, h⟩ | ⟨i, h, _⟩
      · have := ho6f.len; rw [h] at this; simp at this; omega
      · exact ⟨i, h⟩
    subst hi6
    obtain ⟨hcut1, hcut2⟩ := ho6f.cut sl28 str28 arr28 (k := k) (by omega)
    rw [hs6.lenT, zsub_ok (by omega), show (m6 : Int) - 1 = (k : Int) by omega, hcut1, ob_some, asL_eq]
    refine wp_callT (s_CopyRanges σ6 _ k 0 ((swaths l).take k) (by omega) hcut2) ?_
    rintro v σ7 ⟨a16, c16, rfl, he7, ho16⟩
    have hin7 := hin6.step he7
    rw [asL_eq, zsub_ok (by omega)]
    refine wp_callT (s_survey_GapsIn σ7 (hin7.wl hw) a16 k c16 ((swaths l).take k) (by omega) (fun r hr => (hsw r (List.mem_of_mem_take hr)).1) ho16.sl wide (by omega) _ rfl) ?_
    rintro v σ8 ⟨a17, m17, rfl, he8, ho17⟩
    have hin8 := hin7.step he8
    have hs12' := ((ho12.ext he7).ext he8).sl
    have hlen17 := runsL_len (fun x => decide (cnt x ((swaths l).take k) < 1)) 0 wide
    have hm17 := ho17.len
    rw [asT_eq, hdL_eq, hdI_eq, nl_eq, bc_neI, if_pos rfl, ho17.sl.lenT, bc_ltI, if_neg (by omega)]
    refine lp_loopT (lp_top4 σ0 σ8 a12 m12 0 _ a17 m17 0 _ gaps _ hs12' (by omega) ho17.sl (by omega) hin8 ?_ m12 0 (by omega) _ _ _ _ _ _ _ _ _ _ _ _ _ _ _ _ _ _ _ _ _ _ _ _ _ _ _ _ _ _)
    intro g hg
    rw [← hgaps] at hg
    obtain ⟨g', hg', h5, h6⟩ := runs_mono (q := fun x => decide (cnt x ((swaths l).take k) < 1)) wide (fun x hx => by
      rw [decide_eq_true_eq, cnt_pos] at hx ⊢
      rintro ⟨r, hr, h⟩
      exact hx ⟨r, List.mem_of_mem_take hr, h⟩) g hg
    unfold has
    rw [List.any_eq_true]
    exact ⟨g', hg', by simp [h5, h6]⟩
end Go.AM.W
