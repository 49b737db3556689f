/- What the functions that TopSurveySeen calls come to: whether a scene is valid. -/
import Derived.Test.YtfmpoodienmieaaSv2
namespace Go.AM.W
open Go Go.AM
def eachE {α : Type} (ck : α → Int) : Nat → List α → Int × Int
  | _, [] => (0, 0)
  | k, x :: l => if ck x = 0 then eachE ck (k + 1) l else (k, ck x)
theorem lp_sonar_each (σ0 : St) (hw : σ0.wall ≤ σ0.next) (kf : FuncId) (caps : List Value) (ck : Ray → Int) (a : Option Addr) (n c : Nat) (l : List Ray) (hn : n < 1000)
    (hck : ∀ (σ : St) (i : Int) (r : Ray), In σ0 σ → rn (.call kf ([I64 i, AG (eRay.enc r)] ++ caps) σ) = some (.val (I64 (ck r)) σ)) :
    ∀ (k i : Nat), i + k = n → ∀ (σ : St), In σ0 σ → SD eRay σ0.next σ a n l → ∀ (j4 j5 j0 j12 j6 j7 j8 j21 : Value),
    Wp (rn (.loop c_sonar_each_api_SonarRay_1 (keptIn P 45) (h_sonar_each_api_SonarRay_1 σ i n a n c (.func kf) ⟨[]⟩ ⟨caps⟩ j4 j5 j0 j12 j6 j7 j8 j21)))
      fun r => ∃ e fr, r = .ex e fr ∧ k_sonar_each_api_SonarRay_1 rn σ0 e fr = some (.val (TU [I64 (eachE ck i (l.drop i)).1, I64 (eachE ck i (l.drop i)).2]) σ0) := by
  intro k
  induction k with
  | zero =>
    intro i hk σ hin hs j4 j5 j0 j12 j6 j7 j8 j21
    have hl := hs.n_eq
    apply wp_loop (l_sonar_each_api_SonarRay_1 _ _ _ _ _ _ _ _ _ _ _ _ _ _ _ _ _ _)
    rw [bc_ltI, if_neg (by omega)]
    refine wp_some ⟨_, _, rfl, ?_⟩
    rw [← a_sonar_each_api_SonarRay_1_0, retT_flat rfl hin.lo, List.drop_of_length_le (by omega)]; rfl
  | succ k ih =>
    intro i hk σ hin hs j4 j5 j0 j12 j6 j7 j8 j21
    have hl := hs.n_eq
    apply wp_loop (l_sonar_each_api_SonarRay_1 _ _ _ _ _ _ _ _ _ _ _ _ _ _ _ _ _ _)
    have hi : i < l.length := by omega
    rw [bc_ltI, if_pos (by omega), hs.ldN (get_some hi) c, List.drop_eq_getElem_cons hi]
    generalize l[i] = r
    show Wp (hdI .i64 [I64 r.fx, I64 r.fy, I64 r.tx, I64 r.ty, BL r.hit] _) _
    rw [hdI_eq, hdI_eq, hdI_eq, hdI_eq, hdB_eq, nl_eq, var_eq (by rfl) (by rfl) (by rfl) (by simp) (hin.wl hw), (vb_bx _ _ _).ldN (by simp)]
    show Wp (hdI .i64 [I64 r.fx, I64 r.fy, I64 r.tx, I64 r.ty, BL r.hit] _) _
    have hin' := hin.var [I64 0, I64 0, I64 0, I64 0, BL false] [I64 r.fx, I64 r.fy, I64 r.tx, I64 r.ty, BL r.hit]
    rw [hdI_eq, hdI_eq, hdI_eq, hdI_eq, hdB_eq, nl_eq, callV_f0, callT_of (hck _ i r hin'), asI_eq, bc_neI]
    by_cases h : ck r = 0
    · rw [if_pos h, zadd_ok (by omega)]
      simp only [eachE, if_pos h]
      exact ih (i + 1) (by omega) _ hin' (hs.keep fun j hj => vb_old _ _ _ _ (by have := hin.nx; omega)) _ _ _ _ _ _ _ _
    · rw [if_neg h]
      refine wp_some ⟨_, _, rfl, ?_⟩
      rw [← a_sonar_each_api_SonarRay_1_ret, retT_flat rfl hin'.lo]
      simp only [eachE, if_neg h]
theorem s_sonar_each (σ0 : St) (hw : σ0.wall ≤ σ0.next) (kf : FuncId) (caps : List Value) (ck : Ray → Int) (a : Option Addr) (n c : Nat) (l : List Ray) (hn : n < 1000)
    (hck : ∀ (σ : St) (i : Int) (r : Ray), In σ0 σ → rn (.call kf ([I64 i, AG (eRay.enc r)] ++ caps) σ) = some (.val (I64 (ck r)) σ)) (hs : SD eRay σ0.next σ0 a n l) :
    rn (.call f_sonar_each_api_SonarRay [SL a n c, FN kf [] caps] σ0) = some (.val (TU [I64 (eachE ck 0 l).1, I64 (eachE ck 0 l).2]) σ0) := by
  apply eq_call rfl (t_sonar_each_api_SonarRay _ _ _ _ _ _ _ _)
  rw [reS_eq, hs.lenT]
  exact eq_loopT (lp_sonar_each σ0 hw kf caps ck a n c l hn hck n 0 (by omega) _ (In.start σ0) (hs.keep fun _ _ => rfl) (I64 0) (I64 0) (SL a n c) poison poison poison poison poison)
theorem s_sonar_CheckScene_1 (σ : St) (n : Int) (r : Ray) (i2 : Nat) (w h : Int) (z : Value) (hb : Bx σ i2 [I64 w, I64 h, z]) (hw : 0 ≤ w ∧ w ≤ 9223372036854775807) (hh : 0 ≤ h ∧ h ≤ 9223372036854775807) :
    rn (.call f_sonar_CheckScene_1 ([I64 n, AG (eRay.enc r)] ++ [PT i2 0]) σ) = some (.val (I64 (rayE w h r)) σ) := by
  apply eq_call rfl (t_sonar_CheckScene_1 _ _ _ _ _ _ _ _ _ _)
  rw [reS_eq, newC_ok rfl, (Bx.new _ _).ldN (by simp)]
  show hdI .i64 [I64 r.fx, I64 r.fy, I64 r.tx, I64 r.ty, BL r.hit] _ = _
  have hb' : Bx (newBlk { σ with low := σ.next } (.cells false 0 [I64 r.fx, I64 r.fy, I64 r.tx, I64 r.ty, BL r.hit])) i2 [I64 w, I64 h, z] := Bx.old (σ := { σ with low := σ.next }) ⟨hb.lt, hb.get⟩ _
  rw [hdI_eq, hdI_eq, hdI_eq, hdI_eq, hdB_eq, nl_eq, hb'.ld1 rfl, asI_eq, hb'.ld1 rfl, asI_eq, callT_of (s_sonar_rayErr _ r _ _ hw hh), asI_eq, retT_flat rfl (Nat.le_refl _)]
def scE (w h : Int) (l : List Ray) : Int := if gridE w h l.length = 0 then (eachE (rayE w h) 0 l).2 else gridE w h l.length
theorem s_sonar_CheckScene (σ : St) (hw : σ.wall ≤ σ.next) (w h : Int) (a : Option Addr) (n c : Nat) (l : List Ray) (hn : n < 1000) (hs : SD eRay σ.next σ a n l) :
    ∃ k, rn (.call f_sonar_CheckScene [AG [I64 w, I64 h, SL a n c]] σ) = some (.val (TU [I64 k, I64 (scE w h l)]) σ) := by
  have hl := hs.n_eq
  suffices hh : ∃ k, (reS { σ with low := σ.next } fun σ1 => _) = some (.val (TU [I64 k, I64 (scE w h l)]) σ) by
    obtain ⟨k, hk⟩ := hh
    exact ⟨k, eq_call rfl (t_sonar_CheckScene _ _ w h a n c) hk⟩
  rw [reS_eq, newC_ok rfl, (Bx.new _ _).ld1 rfl, asI_eq, (Bx.new _ _).ld1 rfl, asI_eq, (Bx.new _ _).ld1 rfl, asL_eq, hs.lenT, callT_of (s_sonar_gridErr _ _ _ _), asI_eq, bc_neI]
  unfold scE
  rw [← hl]
  split
  · rename_i hg
    have hwr : (1 ≤ w ∧ w ≤ 12) ∧ 1 ≤ h ∧ h ≤ 12 := by
      unfold gridE at hg
      split at hg
      · assumption
      · omega
    rw [(Bx.new _ _).ld1 rfl, asL_eq]
    have hin := (In.start σ).box (.cells false 0 [I64 w, I64 h, SL a n c])
    have hbx := Bx.new { σ with low := σ.next } [I64 w, I64 h, SL a n c]
    rw [callT_of (s_sonar_each _ (by show σ.wall ≤ σ.next + 1; omega) f_sonar_CheckScene_1 [PT σ.next 0] (rayE w h) a n c l hn (fun σ' i r hi => s_sonar_CheckScene_1 σ' i r _ w h _ (hbx.keep hi.next (hi.old _ (Nat.lt_succ_self _))) (by omega) (by omega)) (hs.keep (fun j hj => by rw [nb_get, if_neg (by show ¬ σ.next = j; omega)]) |>.weak (Nat.le_succ _)))]
    rw [asT_eq, hdI_eq, hdI_eq, nl_eq, retT_flat rfl (Nat.le_refl _)]
    exact ⟨_, rfl⟩
  · rw [retT_flat rfl (Nat.le_refl _)]
    exact ⟨_, rfl⟩
end Go.AM.W
