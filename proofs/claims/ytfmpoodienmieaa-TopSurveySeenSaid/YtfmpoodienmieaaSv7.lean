/- What the functions that TopSurveySeen calls come to: the states of all cells. -/
import Derived.Test.YtfmpoodienmieaaSv6
namespace Go.AM.W
open Go Go.AM
theorem sl35 : sliceT P 35 = some ⟨3, 1, 8, [I64 0]⟩ := by kernel_rfl
theorem s_index_nil (σ : St) (n : Int) : rn (.call f_slices_Index_int_int [SL none 0 0, I64 n] σ) = some (.val (I64 (-1)) σ) := by
  apply eq_call rfl (t_slices_Index_int_int _ _ _ _ _ _)
  rw [reS_eq, lenT_eq _ _ _ _ (.inl rfl)]
  refine eq_loopT (wp_loop (l_slices_Index_int_int_1 _ _ _ _ _ _ _ _ _ _ _ _) ?_)
  rw [bc_ltI, if_neg (by omega)]
  refine wp_some ⟨_, _, rfl, ?_⟩
  rw [← a_slices_Index_int_int_1_0, retT_flat rfl (Nat.le_refl _)]
theorem s_contains_nil (σ : St) (n : Int) : rn (.call f_slices_Contains_int_int [SL none 0 0, I64 n] σ) = some (.val (BL false) σ) := by
  apply eq_call rfl (t_slices_Contains_int_int _ _ _ _ _ _)
  rw [reS_eq, callT_of (s_index_nil _ _), asI_eq, retT_flat rfl (Nat.le_refl _)]; rfl
/-- The cells of which one of some rays says something. -/
def Cov (l : List Ray) (x : Int) : Prop := ∃ r ∈ l, loR r.fx r.tx ≤ x ∧ x ≤ hiR r.fx r.tx
theorem lp_states (σ0 : St) (hw : σ0.wall ≤ σ0.next) (wide : Nat) (hwide : wide ≤ 12) (a : Option Addr) (n c : Nat) (l : List Ray) (hn : n < 1000) (hl : ∀ r ∈ l, r.fy = 0 ∧ r.ty = 0 ∧ 0 ≤ r.fx ∧ r.fx < wide ∧ 0 ≤ r.tx ∧ r.tx < wide) :
    ∀ (k i : Nat), i + k = n → ∀ (σ : St) (ds : List Nat) (cp : Nat), In σ0 σ → SD eRay σ0.next σ a n l → Bx σ σ0.next [I64 wide, I64 1, SL a n c] → Bx σ (σ0.next + 2) [SL (some ⟨σ0.next + 1, 0, none⟩) wide cp] → σ0.next + 2 < σ.next →
      (∃ out, σ.heap.get (σ0.next + 1) = some (.cells false 1 (flat eI out)) ∧ Said wide out (Cov (l.take i))) → ds.Nodup → (∀ d ∈ ds, σ0.next + 3 ≤ d ∧ d < σ.next ∧ σ.heap.get d = some .defer) → cp ≠ 0 → ∀ (j4 j0 j19 j6 j25 j7 j29 j30 j8 : Value),
      Wp (rn (.loop c_sonar_states_1 (keptIn P 18) (h_sonar_states_1 ds σ σ0.next 0 i n a n c none 0 0 (σ0.next + 2) 0 j4 j0 j19 j6 j25 j7 j29 j30 j8))) fun r => ∃ e fr, r = .ex e fr ∧
        Wp (k_sonar_states_1 rn σ0 e fr) fun r' => ∃ σ' out, r' = .val (SL (some ⟨σ0.next + 1, 0, none⟩) wide cp) σ' ∧ Ext σ0 σ' ∧ Own eI σ0.next σ' (some ⟨σ0.next + 1, 0, none⟩) wide out ∧ Said wide out (Cov l) := by
  intro k
  induction k with
  | zero =>
    intro i hk σ ds cp hin hs hb2 hb5 hlt hout hnd hds hcp j4 j0 j19 j6 j25 j7 j29 j30 j8
    have hnl := hs.n_eq
    apply wp_loop (l_sonar_states_1 _ _ _ _ _ _ _ _ _ _ _ _ _ _ _ _ _ _ _ _ _ _ _ _)
    rw [bc_ltI, if_neg (by omega)]
    refine wp_some ⟨_, _, rfl, ?_⟩
    obtain ⟨σ', h1, h2, h3⟩ := drop_ok (b := σ0.next + 3) ds σ hnd (fun d hd => ⟨(hds d hd).1, (hds d hd).2.2⟩) (by have := hin.wall; show σ.wall ≤ _; rw [this]; show σ0.wall ≤ _; omega)
    rw [← a_sonar_states_1_0, hb5.ld1 rfl, asL_eq, h1, ob_some]
    obtain ⟨out, ho1, ho2⟩ := hout
    rw [List.take_of_length_le (by omega)] at ho2
    have hin' : In σ0 σ' := hin.trans (h2.weak (by omega))
    have hO : Own eI σ0.next σ' (some ⟨σ0.next + 1, 0, none⟩) wide out := ⟨ho2.1.symm, .inr ⟨_, rfl, by omega, by omega, by rw [h2.old _ (by omega)]; exact ho1⟩⟩
    obtain ⟨σ'', h4, h5, h6⟩ := ret_new (c := cp) hin' hO (fun e => by cases e)
    exact Wp.of h4 ⟨σ'', out, rfl, h5, h6, ho2⟩
  | succ k ih =>
    intro i hk σ ds cp hin hs hb2 hb5 hlt hout hnd hds hcp j4 j0 j19 j6 j25 j7 j29 j30 j8
    have hnl := hs.n_eq
    apply wp_loop (l_sonar_states_1 _ _ _ _ _ _ _ _ _ _ _ _ _ _ _ _ _ _ _ _ _ _ _ _)
    have hi : i < l.length := by omega
    rw [bc_ltI, if_pos (by omega), hs.ldN (get_some hi) c]
    obtain ⟨hy1, hy2, hf1, hf2, ht1, ht2⟩ := hl l[i] (List.getElem_mem hi)
    have htake : l.take (i + 1) = l.take i ++ [l[i]] := by rw [List.take_add_one, get_some hi]; rfl
    generalize l[i] = r at *
    obtain ⟨fx, fy, tx, ty, hit⟩ := r
    simp only at hy1 hy2 hf1 hf2 ht1 ht2
    subst hy1; subst hy2
    have hwl := hin.wl hw
    rw [hdI_eq, hdI_eq, hdI_eq, hdI_eq, hdB_eq, nl_eq, var_eq (by rfl) (by rfl) (by rfl) (by simp) hwl, callT_of (s_contains_nil _ _), asB_eq, bcF]
    have hbx := vb_bx σ [I64 0, I64 0, I64 0, I64 0, BL false] [I64 fx, I64 0, I64 tx, I64 0, BL hit]
    have hold := vb_old σ [I64 0, I64 0, I64 0, I64 0, BL false] [I64 fx, I64 0, I64 tx, I64 0, BL hit]
    have hkp := vb_keep σ [I64 0, I64 0, I64 0, I64 0, BL false] [I64 fx, I64 0, I64 tx, I64 0, BL hit] (b := σ.next) (Nat.le_refl _)
    have hn3 := vb_next σ [I64 0, I64 0, I64 0, I64 0, BL false] [I64 fx, I64 0, I64 tx, I64 0, BL hit]
    generalize vbox σ [I64 0, I64 0, I64 0, I64 0, BL false] [I64 fx, I64 0, I64 tx, I64 0, BL hit] = σ3 at *
    have hb2' : Bx σ3 σ0.next [I64 wide, I64 1, SL a n c] := hb2.keep (by omega) (hold _ (by omega))
    rw [hbx.ldN (by simp)]
    show Wp (hdI .i64 [I64 fx, I64 0, I64 tx, I64 0, BL hit] _) _
    rw [hdI_eq, hdI_eq, hdI_eq, hdI_eq, hdB_eq, nl_eq, hb2'.ld1 rfl, asI_eq]
    refine wp_callT (s_sonar_said σ3 fx 0 tx 0 hit wide) ?_
    rintro v σ4 ⟨rfl, he, hr1, hr2⟩
    rw [asF_eq, reS_eq]
    have hin4 : In σ0 σ4 := In.step (hin.trans (hkp.weak (by omega))) he
    have hkp4 : Keep σ.next σ σ4 := hkp.trans (he.keep (by omega))
    -- the loop's block
    let L := σ4.next + 1
    let lb : LoopB := lbS σ0.next (σ0.next + 2) σ4.next i n a n c none 0 0 (.func 49) ⟨[]⟩ ⟨[PT σ3.next 0, PT (σ3.next + 1) 0]⟩ j4 j0 (BL true) (I64 i) (BL false) (PT σ.next 0) j30 j8
    have hσ5 : ∀ j, (newBlk (newBlk σ4 .defer) lb.blk).heap.get j = if σ4.next + 1 = j then some lb.blk else if σ4.next = j then some .defer else σ4.heap.get j := fun j => by rw [nb_get, nb_get]; rfl
    have hn5 : (newBlk (newBlk σ4 .defer) lb.blk).next = σ4.next + 2 := rfl
    have hin5 : In σ0 (newBlk (newBlk σ4 .defer) lb.blk) := (hin4.box _).box _
    show Wp (ob (callReq (.func 49) ([] ++ [.func (.yield L) ⟨[]⟩ ⟨[]⟩]) [PT σ3.next 0, PT (σ3.next + 1) 0] (newBlk (newBlk σ4 .defer) lb.blk)) _) _
    generalize hσ5' : newBlk (newBlk σ4 .defer) lb.blk = σ5 at *
    have he' := he.next
    have hYS : YS σ0 σ0.next (σ0.next + 2) (σ0.next + 1) L lb [I64 wide, I64 1, SL a n c] cp wide (Cov (l.take i)) σ5 := by
      obtain ⟨out, ho1, ho2⟩ := hout
      have hk5 : ∀ j, j < σ.next → σ5.heap.get j = σ.heap.get j := fun j hj => by rw [hσ5, if_neg (by omega), if_neg (by omega), he.old _ (by omega), hold _ (by omega)]
      exact ⟨hin5, hb2.keep (by omega) (hk5 _ (by omega)), hb5.keep (by omega) (hk5 _ (by omega)), ⟨by omega, out, by rw [hk5 _ (by omega)]; exact ho1, ho2⟩, ⟨by show σ4.next + 1 < _; omega, by rw [hσ5, if_pos rfl]⟩, ⟨by show σ4.next < _; omega, by rw [hσ5, if_neg (by show ¬ σ4.next + 1 = σ4.next; omega), if_pos rfl]⟩⟩
    obtain ⟨v, σ6, hc1, rfl, hY6, hn6, ho6⟩ := s_sonar_said_1 σ0 hw σ0.next (σ0.next + 2) (σ0.next + 1) L σ4.next [I64 wide, I64 1, SL a n c] cp wide i n a n c none 0 0 (.func 49) ⟨[]⟩ ⟨[PT σ3.next 0, PT (σ3.next + 1) 0]⟩ j4 j0 (BL true) (I64 i) (BL false) (PT σ.next 0) j30 j8
      σ5 σ3.next (σ3.next + 1) fx tx hit (by omega) (by omega) (by omega) wide (by show _ ∧ _ ≠ σ4.next + 1 ∧ _ ∧ _ ≠ σ4.next + 1 ∧ _ ≠ σ4.next + 1 ∧ _ ∧ _ ≠ σ4.next + 1; omega) (by show _ ∧ _ ≠ σ4.next + 1 ∧ _ ∧ _ ≠ σ4.next + 1; have := hr2.lt; omega) (by show _ ∧ _ ≤ σ4.next + 1; omega)
      _ hYS (hr1.keep (by omega) (by rw [hσ5, if_neg (by have := hr1.lt; omega), if_neg (by have := hr1.lt; omega)])) (hr2.keep (by omega) (by rw [hσ5, if_neg (by have := hr2.lt; omega), if_neg (by have := hr2.lt; omega)]))
    rw [show callReq (.func 49) ([] ++ [.func (.yield L) ⟨[]⟩ ⟨[]⟩]) [PT σ3.next 0, PT (σ3.next + 1) 0] σ5 = some (.call f_sonar_said_1 [FV (.yield L) ⟨[]⟩ ⟨[]⟩, PT σ3.next 0, PT (σ3.next + 1) 0] σ5) from rfl, ob_some, reqT_of hc1]
    show Wp (ob (leaveA L σ6) _) _
    have hwall6 : σ6.wall = σ0.wall := hY6.inn.wall
    obtain ⟨B, hB⟩ : ∃ B, leaveA L σ6 = some (none, putSt σ6 L B) := ⟨_, leave_ok hY6.bL.2 rfl (by rw [hwall6]; show _ ≤ σ4.next + 1; omega)⟩
    rw [hB, ob_some, show jumpExit (none, putSt σ6 L B).1 = some Exit.normal from rfl, ob_some, ← a_sonar_states_2_normal, zadd_ok (by omega)]
    have hg7 := ps_get σ6 L B
    have hn7 := ps_next σ6 L B
    have hin7 : In σ0 (putSt σ6 L B) := hY6.inn.trans (keep_ps (by show _ ≤ σ4.next + 1; omega))
    show Wp (rn (.loop c_sonar_states_1 (keptIn P 18) (h_sonar_states_1 (σ4.next :: ds) (putSt σ6 L B) σ0.next 0 ((i : Int) + 1) n a n c none 0 0 (σ0.next + 2) 0 j4 j0 (BL true) (I64 i) (BL false) (PT σ.next 0) (FV (.func 49) ⟨[]⟩ ⟨[PT σ3.next 0, PT (σ3.next + 1) 0]⟩) j30 j8))) _
    generalize putSt σ6 L B = σ7 at *
    have hall : ∀ j, j < σ.next → j ≠ σ0.next + 1 → σ7.heap.get j = σ.heap.get j := fun j hj h1 => by
      rw [hg7, if_neg (by show ¬ σ4.next + 1 = j; omega), ho6 j (by omega) h1 (by show ¬ j = σ4.next + 1; omega), hσ5, if_neg (by omega), if_neg (by omega), he.old _ (by omega), hold _ (by omega)]
    refine ih (i + 1) (by omega) σ7 (σ4.next :: ds) cp hin7 (hs.keep fun j hj => hall j (by have := hin.nx; omega) (by omega)) (hb2.keep (by omega) (hall _ (by omega) (by omega))) (hb5.keep (by omega) (hall _ (by omega) (by omega))) (by omega) ?_ ?_ ?_ hcp _ _ _ _ _ _ _ _ _
    · obtain ⟨out, ho1, ho2⟩ := hY6.bB.2
      refine ⟨out, by rw [hg7, if_neg (by show ¬ σ4.next + 1 = σ0.next + 1; omega)]; exact ho1, ?_⟩
      have e : Cov (l.take (i + 1)) = fun x => Cov (l.take i) x ∨ loR fx tx ≤ x ∧ x ≤ hiR fx tx := by
        funext x
        unfold Cov
        rw [htake]
        simp only [List.mem_append, List.mem_singleton, eq_iff_iff]
        constructor
        · rintro ⟨r, h | rfl, h2⟩
          · exact .inl ⟨r, h, h2⟩
          · exact .inr h2
        · rintro (⟨r, h, h2⟩ | h)
          · exact ⟨r, .inl h, h2⟩
          · exact ⟨_, .inr rfl, h⟩
      rw [e]; exact ho2
    · exact List.nodup_cons.2 ⟨fun h => by have := (hds _ h).2.1; omega, hnd⟩
    · intro d hd
      rcases List.mem_cons.1 hd with rfl | hd
      · refine ⟨by omega, by omega, ?_⟩
        rw [hg7, if_neg (by show ¬ σ4.next + 1 = σ4.next; omega)]
        exact hY6.bd.2
      · obtain ⟨h1, h2, h3⟩ := hds d hd
        exact ⟨h1, by omega, by rw [hall d h2 (by omega)]; exact h3⟩
end Go.AM.W
