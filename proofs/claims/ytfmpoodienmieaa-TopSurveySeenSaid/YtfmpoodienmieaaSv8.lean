/- What the functions that TopSurveySeen calls come to: the states of a valid scene of one row. -/
import Derived.Test.YtfmpoodienmieaaSv7
namespace Go.AM.W
open Go Go.AM
def RowRays (wide : Nat) (l : List Ray) : Prop := ∀ r ∈ l, r.fy = 0 ∧ r.ty = 0 ∧ 0 ≤ r.fx ∧ r.fx < wide ∧ 0 ≤ r.tx ∧ r.tx < wide
theorem s_sonar_states (σ0 : St) (hw : σ0.wall ≤ σ0.next) (wide : Nat) (hwide : wide ≤ 12) (a : Option Addr) (n c : Nat) (l : List Ray) (hn : n < 1000) (hl : RowRays wide l) (hs : SD eRay σ0.next σ0 a n l) :
    Ret P Γ f_sonar_states [AG [I64 wide, I64 1, SL a n c], SL none 0 0] σ0 fun v σ' => ∃ a' cp out, v = SL a' wide cp ∧ Ext σ0 σ' ∧ Own eI σ0.next σ' a' wide out ∧ Said wide out (Cov l) := by
  refine ret_call rfl (t_sonar_states _ _ _ _ _ _ _ _ _ _) ?_
  have hin2 := (In.start σ0).box (.cells false 0 [I64 wide, I64 1, SL a n c])
  have hb2 := Bx.new { σ0 with low := σ0.next } [I64 wide, I64 1, SL a n c]
  rw [reS_eq, newC_ok rfl, hb2.ld1 rfl, asI_eq, hb2.ld1 rfl, asI_eq, zmul_ok (by omega), Int.mul_one, make_ints sl35 (by omega) (by omega), ob_some]
  have hs2 : SD eRay σ0.next (newBlk { σ0 with low := σ0.next } (.cells false 0 [I64 wide, I64 1, SL a n c])) a n l := hs.keep fun j hj => by rw [nb_get, if_neg (by show ¬ σ0.next = j; omega)]
  have hn2 : (newBlk { σ0 with low := σ0.next } (.cells false 0 [I64 wide, I64 1, SL a n c])).next = σ0.next + 1 := rfl
  have hw2 : (newBlk { σ0 with low := σ0.next } (.cells false 0 [I64 wide, I64 1, SL a n c])).wall = σ0.wall := rfl
  have hbs2 : Bx _ σ0.next [I64 wide, I64 1, SL a n c] := hb2
  generalize newBlk { σ0 with low := σ0.next } (.cells false 0 [I64 wide, I64 1, SL a n c]) = σ2 at *
  show Wp (asL (SL (some ⟨σ2.next, 0, none⟩) ((wide : Int)).toNat (((wide : Int)).toNat + 1)) fun d9 e10 f11 => newC [SL none 0 0] (newBlk σ2 (.cells false 1 (flat eI (List.replicate ((wide : Int)).toNat 0)))) fun σ12 =>
    wrT σ12 (newBlk σ2 (.cells false 1 (flat eI (List.replicate ((wide : Int)).toNat 0)))).next 0 [SL d9 e10 f11] _) _
  rw [Int.toNat_natCast]
  have hin3 : In σ0 (newBlk σ2 (.cells false 1 (flat eI (List.replicate wide 0)))) := hin2.box _
  have hg3 := nb_get σ2 (.cells false 1 (flat eI (List.replicate wide 0)))
  have hn3 := nb_next σ2 (.cells false 1 (flat eI (List.replicate wide 0)))
  generalize newBlk σ2 (.cells false 1 (flat eI (List.replicate wide 0))) = σ3 at *
  rw [asL_eq, var_eq (by rfl) (by rfl) (by rfl) (by simp) (hin3.wl hw)]
  have hbx := vb_bx σ3 [SL none 0 0] [SL (some ⟨σ2.next, 0, none⟩) wide (wide + 1)]
  have hold := vb_old σ3 [SL none 0 0] [SL (some ⟨σ2.next, 0, none⟩) wide (wide + 1)]
  have hn4 := vb_next σ3 [SL none 0 0] [SL (some ⟨σ2.next, 0, none⟩) wide (wide + 1)]
  have hin4 : In σ0 (vbox σ3 [SL none 0 0] [SL (some ⟨σ2.next, 0, none⟩) wide (wide + 1)]) := hin3.var _ _
  generalize vbox σ3 [SL none 0 0] [SL (some ⟨σ2.next, 0, none⟩) wide (wide + 1)] = σ4 at *
  have hk : ∀ j, j < σ2.next → σ4.heap.get j = σ2.heap.get j := fun j hj => by rw [hold _ (by omega), hg3, if_neg (by omega)]
  have hb4 : Bx σ4 σ0.next [I64 wide, I64 1, SL a n c] := hbs2.keep (by omega) (hk _ (by omega))
  rw [hb4.ld1 rfl, asL_eq, hs.lenT]
  have e2 : σ2.next = σ0.next + 1 := hn2
  have e3 : σ3.next = σ0.next + 2 := by omega
  rw [e2, e3] at hbx
  rw [e3]
  refine (lp_loopT ((lp_states σ0 hw wide hwide a n c l hn hl n 0 (by omega) σ4 [] (wide + 1) hin4 (hs2.keep fun j hj => hk j (by omega)) hb4 hbx (by omega) ⟨List.replicate wide 0, ?_, ?_⟩ List.nodup_nil (by intro d hd; cases hd) (by omega) _ _ _ _ _ _ _ _ _).mono ?_))
  · rw [hold _ (by omega), hg3, if_pos (by omega)]
  · refine ⟨by simp, fun k v hv => ?_⟩
    rw [List.getElem?_replicate] at hv
    split at hv
    · cases hv
      refine ⟨by omega, fun h => absurd rfl h, ?_⟩
      rintro ⟨r, hr, _⟩; cases hr
    · cases hv
  · rintro r ⟨e, fr, rfl, h⟩
    refine ⟨e, fr, rfl, h.mono ?_⟩
    rintro r' ⟨σ', out, rfl, h1, h2, h3⟩
    exact ⟨_, _, rfl, _, _, out, rfl, h1, h2, h3⟩
theorem eachE_zero {α : Type} (ck : α → Int) : ∀ (l : List α) (k : Nat), (eachE ck k l).2 = 0 ↔ ∀ x ∈ l, ck x = 0 := by
  intro l
  induction l with
  | nil => intro k; simp [eachE]
  | cons x l ih =>
    intro k
    unfold eachE
    by_cases h : ck x = 0
    · rw [if_pos h, ih]; simp [h]
    · rw [if_neg h]; simp [h]
theorem scE_row {wide : Nat} {l : List Ray} (h : scE wide 1 l = 0) : wide ≤ 12 ∧ RowRays wide l := by
  unfold scE at h
  split at h
  · rename_i hg
    have hw : (wide : Int) ≤ 12 := by
      unfold gridE at hg
      split at hg
      · omega
      · omega
    refine ⟨by omega, fun r hr => ?_⟩
    have := (eachE_zero _ _ _).1 h r hr
    unfold rayE at this
    split at this
    · rename_i hi
      unfold Ray.inn at hi
      omega
    · omega
  · rename_i hg; exact absurd h hg
theorem s_sonar_StatesOf (σ0 : St) (hw : σ0.wall ≤ σ0.next) (wide : Nat) (a : Option Addr) (n c : Nat) (l : List Ray) (hn : n < 1000) (hv : scE wide 1 l = 0) (hs : SD eRay σ0.next σ0 a n l) :
    Ret P Γ f_sonar_StatesOf [AG [I64 wide, I64 1, SL a n c]] σ0 fun v σ' => ∃ a' cp out, v = TU [SL a' wide cp, I64 0] ∧ Ext σ0 σ' ∧ Own eI σ0.next σ' a' wide out ∧ Said wide out (Cov l) := by
  obtain ⟨hwide, hl⟩ := scE_row hv
  refine ret_call rfl (t_sonar_StatesOf _ _ _ _ _ _ _) ?_
  have hin2 := (In.start σ0).box (.cells false 0 [I64 wide, I64 1, SL a n c])
  have hb2 := Bx.new { σ0 with low := σ0.next } [I64 wide, I64 1, SL a n c]
  have hs2 : SD eRay (σ0.next + 1) (newBlk { σ0 with low := σ0.next } (.cells false 0 [I64 wide, I64 1, SL a n c])) a n l := (hs.keep fun j hj => by rw [nb_get, if_neg (by show ¬ σ0.next = j; omega)]).weak (Nat.le_succ _)
  have hw2 : (newBlk { σ0 with low := σ0.next } (.cells false 0 [I64 wide, I64 1, SL a n c])).wall ≤ (newBlk { σ0 with low := σ0.next } (.cells false 0 [I64 wide, I64 1, SL a n c])).next := by show σ0.wall ≤ σ0.next + 1; omega
  rw [reS_eq, newC_ok rfl, hb2.ldN (by simp)]
  show Wp (hdI .i64 [I64 wide, I64 1, SL a n c] _) _
  rw [hdI_eq, hdI_eq, hdL_eq, nl_eq, callT_of (s_sonar_sceneErr _ hw2 wide 1 a n c l hn hs2), asI_eq, hv, bc_neI, if_pos rfl, hb2.ldN (by simp)]
  show Wp (hdI .i64 [I64 wide, I64 1, SL a n c] _) _
  rw [hdI_eq, hdI_eq, hdL_eq, nl_eq]
  refine wp_callT (s_sonar_states _ hw2 wide hwide a n c l hn hl hs2) ?_
  rintro v σ' ⟨a', cp, out, rfl, h1, h2, h3⟩
  have hin3 := hin2.step h1
  rw [asL_eq]
  have hflat : isFlat (TU [SL a' wide cp, I64 0]) = true → a' = none := by
    intro h; cases a' with
    | none => rfl
    | some a => cases h
  obtain ⟨σ2, h4, h5, h6⟩ := ret_own hin3 (h2.weak hin2.nx) hflat
  exact Wp.of h4 ⟨_, _, rfl, a', cp, out, rfl, h5, h6, h3⟩
end Go.AM.W
