/- What the functions that TopSurveySeen calls come to: the gaps of swaths. -/
import Derived.Test.YtfmpoodienmieaaSv8
namespace Go.AM.W
open Go Go.AM
theorem s_survey_isWithin (σ : St) (a b lo hi : Int) : rn (.call f_survey_span_isWithin [AG [I64 a, I64 b], I64 lo, I64 hi] σ) = some (.val (BL (decide ((lo ≤ a ∧ a ≤ hi) ∧ lo ≤ b ∧ b ≤ hi))) σ) := by
  apply eq_call rfl (t_survey_span_isWithin _ _ _ _ _ _)
  rw [reS_eq, newC_ok rfl, (Bx.new _ _).ld1 rfl, asI_eq, callT_of (s_survey_within _ _ _ _), asB_eq, bc_dec]
  split
  · rw [(Bx.new _ _).ld1 rfl, asI_eq, callT_of (s_survey_within _ _ _ _), asB_eq, retT_flat rfl (Nat.le_refl _)]
    exact res_dec (by omega)
  · rw [retT_flat rfl (Nat.le_refl _)]
    exact res_F (by omega)
theorem s_survey_isOrdered (σ : St) (a b : Int) : rn (.call f_survey_span_isOrdered [AG [I64 a, I64 b]] σ) = some (.val (BL (decide (a ≤ b))) σ) := by
  apply eq_call rfl (t_survey_span_isOrdered _ _ _ _)
  rw [reS_eq, newC_ok rfl, (Bx.new _ _).ld1 rfl, asI_eq, (Bx.new _ _).ld1 rfl, asI_eq, retT_flat rfl (Nat.le_refl _), leI_eq]
def swE (r : Int × Int) : Int := if (0 ≤ r.1 ∧ r.1 ≤ 100000) ∧ 0 ≤ r.2 ∧ r.2 ≤ 100000 then if r.1 ≤ r.2 then 0 else 9 else 2
theorem s_GapsIn_1 (σ : St) (hw : σ.wall ≤ σ.next) (i : Int) (r : Int × Int) : rn (.call f_survey_GapsIn_1 ([I64 i, AG (eII.enc r)] ++ []) σ) = some (.val (I64 (swE r)) σ) := by
  apply eq_call rfl (t_survey_GapsIn_1 _ _ _ _ _)
  obtain ⟨a, b⟩ := r
  have hin2 := (In.start σ).box (.cells false 0 [I64 a, I64 b])
  rw [reS_eq, newC_ok rfl, (Bx.new _ _).ldN (by simp)]
  show hdI .i64 [I64 a, I64 b] _ = _
  rw [hdI_eq, hdI_eq, nl_eq, var_eq (by rfl) (by rfl) (by rfl) (by simp) (hin2.wl hw)]
  have hbx := vb_bx (newBlk { σ with low := σ.next } (.cells false 0 [I64 a, I64 b])) [I64 0, I64 0] [I64 a, I64 b]
  have hin3 := hin2.var [I64 0, I64 0] [I64 a, I64 b]
  generalize vbox (newBlk { σ with low := σ.next } (.cells false 0 [I64 a, I64 b])) [I64 0, I64 0] [I64 a, I64 b] = σ3 at *
  rw [hbx.ldN (by simp)]
  show hdI .i64 [I64 a, I64 b] _ = _
  rw [hdI_eq, hdI_eq, nl_eq, reS_eq, callT_of (s_survey_isWithin _ _ _ _ _), asB_eq, reS_eq, wt_up, reS_eq, callT_of (s_survey_unless _ _ _), asI_eq, reS_eq, wt_up, hbx.ldN (by simp)]
  show hdI .i64 [I64 a, I64 b] _ = _
  rw [hdI_eq, hdI_eq, nl_eq, reS_eq, callT_of (s_survey_isOrdered _ _ _), asB_eq, reS_eq, wt_up, reS_eq, callT_of (s_survey_unless _ _ _), asI_eq, reS_eq, wt_up, reS_eq, newZ_eq, reS_eq, wt_nb, wu_next, callT_of (s_survey_first2 _ _ _), asI_eq, retT_flat rfl (hin3.box _).lo]
  unfold swE
  congr 3
  by_cases h1 : (0 ≤ a ∧ a ≤ 100000) ∧ 0 ≤ b ∧ b ≤ 100000 <;> by_cases h2 : a ≤ b <;> simp [h1, h2]
theorem lp_survey_each (σ0 : St) (hw : σ0.wall ≤ σ0.next) (kf : FuncId) (caps : List Value) (ck : Int × Int → Int) (a : Option Addr) (n c : Nat) (l : List (Int × Int)) (hn : n < 1000)
    (hck : ∀ (σ : St) (i : Int) (r : Int × Int), In σ0 σ → rn (.call kf ([I64 i, AG (eII.enc r)] ++ caps) σ) = some (.val (I64 (ck r)) σ)) :
    ∀ (k i : Nat), i + k = n → ∀ (σ : St), In σ0 σ → SD eII σ0.next σ a n l → ∀ (j4 j5 j0 j12 j6 j7 j8 j21 : Value),
    Wp (rn (.loop c_survey_each_api_Range_1 (keptIn P 24) (h_survey_each_api_Range_1 σ i n a n c (.func kf) ⟨[]⟩ ⟨caps⟩ j4 j5 j0 j12 j6 j7 j8 j21)))
      fun r => ∃ e fr, r = .ex e fr ∧ k_survey_each_api_Range_1 rn σ0 e fr = some (.val (TU [I64 (eachE ck i (l.drop i)).1, I64 (eachE ck i (l.drop i)).2]) σ0) := by
  intro k
  induction k with
  | zero =>
    intro i hk σ hin hs j4 j5 j0 j12 j6 j7 j8 j21
    have hl := hs.n_eq
    apply wp_loop (l_survey_each_api_Range_1 _ _ _ _ _ _ _ _ _ _ _ _ _ _ _ _ _ _)
    rw [bc_ltI, if_neg (by omega)]
    refine wp_some ⟨_, _, rfl, ?_⟩
    rw [← a_survey_each_api_Range_1_0, retT_flat rfl hin.lo, List.drop_of_length_le (by omega)]; rfl
  | succ k ih =>
    intro i hk σ hin hs j4 j5 j0 j12 j6 j7 j8 j21
    have hl := hs.n_eq
    apply wp_loop (l_survey_each_api_Range_1 _ _ _ _ _ _ _ _ _ _ _ _ _ _ _ _ _ _)
    have hi : i < l.length := by omega
    rw [bc_ltI, if_pos (by omega), hs.ldN (get_some hi) c, List.drop_eq_getElem_cons hi]
    generalize l[i] = r
    rw [hdI_eq, hdI_eq, nl_eq, var_eq (by rfl) (by rfl) (by rfl) (by simp) (hin.wl hw), (vb_bx _ _ _).ldN (by simp)]
    show Wp (hdI .i64 [I64 r.1, I64 r.2] _) _
    have hin' := hin.var [I64 0, I64 0] [I64 r.1, I64 r.2]
    rw [hdI_eq, hdI_eq, nl_eq, callV_f0, callT_of (hck _ i r hin'), asI_eq, bc_neI]
    by_cases h : ck r = 0
    · rw [if_pos h, zadd_ok (by omega)]
      simp only [eachE, if_pos h]
      exact ih (i + 1) (by omega) _ hin' (hs.keep fun j hj => vb_old _ _ _ _ (by have := hin.nx; omega)) _ _ _ _ _ _ _ _
    · rw [if_neg h]
      refine wp_some ⟨_, _, rfl, ?_⟩
      rw [← a_survey_each_api_Range_1_ret, retT_flat rfl hin'.lo]
      simp only [eachE, if_neg h]
theorem s_survey_each (σ0 : St) (hw : σ0.wall ≤ σ0.next) (kf : FuncId) (caps : List Value) (ck : Int × Int → Int) (a : Option Addr) (n c : Nat) (l : List (Int × Int)) (hn : n < 1000)
    (hck : ∀ (σ : St) (i : Int) (r : Int × Int), In σ0 σ → rn (.call kf ([I64 i, AG (eII.enc r)] ++ caps) σ) = some (.val (I64 (ck r)) σ)) (hs : SD eII σ0.next σ0 a n l) :
    rn (.call f_survey_each_api_Range [SL a n c, FN kf [] caps] σ0) = some (.val (TU [I64 (eachE ck 0 l).1, I64 (eachE ck 0 l).2]) σ0) := by
  apply eq_call rfl (t_survey_each_api_Range _ _ _ _ _ _ _ _)
  rw [reS_eq, hs.lenT]
  exact eq_loopT (lp_survey_each σ0 hw kf caps ck a n c l hn hck n 0 (by omega) _ (In.start σ0) (hs.keep fun _ _ => rfl) (I64 0) (I64 0) (SL a n c) poison poison poison poison poison)
/-- How many swaths have a cell. -/
def cnt (x : Int) : List (Int × Int) → Int
  | [] => 0
  | r :: l => (if r.1 ≤ x ∧ x ≤ r.2 then 1 else 0) + cnt x l
theorem cnt_bd (x : Int) (l : List (Int × Int)) : 0 ≤ cnt x l ∧ cnt x l ≤ l.length := by
  induction l with
  | nil => simp [cnt]
  | cons r l ih => unfold cnt; simp only [List.length_cons]; split <;> omega
theorem lp_GapsIn_2 (σ0 : St) (hw : σ0.wall ≤ σ0.next) (i2 : Nat) (need x : Int) (a : Option Addr) (n c : Nat) (l : List (Int × Int)) (hn : n < 1000) :
    ∀ (k i : Nat), i + k = n → ∀ (σ : St) (s : Int), In σ0 σ → SD eII σ0.next σ a n l → Bx σ i2 [I64 need] → 0 ≤ s ∧ s ≤ i → ∀ (j4 j1 j11 j7 j19 : Value),
    Wp (rn (.loop c_survey_GapsIn_2_1 (keptIn P 27) (h_survey_GapsIn_2_1 σ i n a n c x s i2 0 j4 j1 j11 j7 j19)))
      fun r => ∃ e fr, r = .ex e fr ∧ k_survey_GapsIn_2_1 rn σ0 e fr = some (.val (BL (decide (s + cnt x (l.drop i) < need))) σ0) := by
  intro k
  induction k with
  | zero =>
    intro i hk σ s hin hs hb hs1 j4 j1 j11 j7 j19
    have hl := hs.n_eq
    apply wp_loop (l_survey_GapsIn_2_1 _ _ _ _ _ _ _ _ _ _ _ _ _ _ _ _)
    rw [bc_ltI, if_neg (by omega)]
    refine wp_some ⟨_, _, rfl, ?_⟩
    rw [← a_survey_GapsIn_2_1_0, hb.ld1 rfl, asI_eq, retT_flat rfl hin.lo, List.drop_of_length_le (by omega), ltI_eq]
    exact res_dec (by simp [cnt])
  | succ k ih =>
    intro i hk σ s hin hs hb hs1 j4 j1 j11 j7 j19
    have hl := hs.n_eq
    apply wp_loop (l_survey_GapsIn_2_1 _ _ _ _ _ _ _ _ _ _ _ _ _ _ _ _)
    have hi : i < l.length := by omega
    rw [bc_ltI, if_pos (by omega), hs.ldN (get_some hi) c, List.drop_eq_getElem_cons hi]
    generalize l[i] = r
    have hbx := vb_bx σ [I64 0, I64 0] [I64 r.1, I64 r.2]
    rw [hdI_eq, hdI_eq, nl_eq, var_eq (by rfl) (by rfl) (by rfl) (by simp) (hin.wl hw), hbx.ld1 rfl, asI_eq, hbx.ld1 rfl, asI_eq, callT_of (s_survey_within _ _ _ _), asB_eq, bc_dec]
    have hin' := hin.var [I64 0, I64 0] [I64 r.1, I64 r.2]
    have hs' : SD eII σ0.next (vbox σ [I64 0, I64 0] [I64 r.1, I64 r.2]) a n l := hs.keep fun j hj => vb_old _ _ _ _ (by have := hin.nx; omega)
    have hb' : Bx (vbox σ [I64 0, I64 0] [I64 r.1, I64 r.2]) i2 [I64 need] := hb.keep (by rw [vb_next]; omega) (vb_old _ _ _ _ (by have := hb.lt; omega))
    refine wp_if (fun h => ?_) fun h => ?_
    · rw [zadd_ok (by omega), zadd_ok (by omega)]
      refine (ih (i + 1) (by omega) _ (s + 1) hin' hs' hb' (by omega) _ _ _ _ _).mono ?_
      rintro q ⟨e, fr, rfl, hq⟩
      refine ⟨e, fr, rfl, hq.trans (res_dec ?_)⟩
      simp only [cnt, if_pos h]; omega
    · rw [zadd_ok (by omega)]
      refine (ih (i + 1) (by omega) _ s hin' hs' hb' (by omega) _ _ _ _ _).mono ?_
      rintro q ⟨e, fr, rfl, hq⟩
      refine ⟨e, fr, rfl, hq.trans (res_dec ?_)⟩
      simp only [cnt, if_neg h]; omega
theorem s_GapsIn_2 (σ : St) (hw : σ.wall ≤ σ.next) (i1 i2 : Nat) (x need : Int) (a : Option Addr) (n c : Nat) (l : List (Int × Int)) (hn : n < 1000) (hb1 : Bx σ i1 [SL a n c]) (hb2 : Bx σ i2 [I64 need]) (hs : SD eII σ.next σ a n l) :
    rn (.call f_survey_GapsIn_2 ([I64 x] ++ [PT i1 0, PT i2 0]) σ) = some (.val (BL (decide (cnt x l < need))) σ) := by
  apply eq_call rfl (t_survey_GapsIn_2 _ _ _ _ _ _ _)
  have hb1' : Bx { σ with low := σ.next } i1 [SL a n c] := ⟨hb1.lt, hb1.get⟩
  rw [reS_eq, hb1'.ld1 rfl, asL_eq, hs.lenT]
  refine eq_loopT ((lp_GapsIn_2 σ hw i2 need x a n c l hn n 0 (by omega) _ 0 (In.start σ) (hs.keep fun _ _ => rfl) ⟨hb2.lt, hb2.get⟩ (by omega) _ _ _ _ _).mono ?_)
  rintro q ⟨e, fr, rfl, hq⟩
  exact ⟨e, fr, rfl, hq.trans (res_dec (by simp))⟩
/-- The largest ranges of neighbouring numbers, one number at a time. -/
def stepR (p : Int → Bool) (n : Int) (out : List (Int × Int)) : List (Int × Int) :=
  if p n = true then match out.getLast? with
    | some r => if r.2 = n - 1 then out.dropLast ++ [(r.1, n)] else out ++ [(n, n)]
    | none => out ++ [(n, n)]
  else out
def runsL (p : Int → Bool) (lo : Int) : Nat → List (Int × Int)
  | 0 => []
  | k + 1 => stepR p (lo + k) (runsL p lo k)
theorem stepR_len (p : Int → Bool) (n : Int) (out : List (Int × Int)) : (stepR p n out).length ≤ out.length + 1 := by
  unfold stepR
  split
  · split
    · split
      · simp
      · simp
    · simp
  · omega
theorem runsL_len (p : Int → Bool) (lo : Int) (k : Nat) : (runsL p lo k).length ≤ k := by
  induction k with
  | zero => simp [runsL]
  | succ k ih => unfold runsL; have := stepR_len p (lo + k) (runsL p lo k); omega
theorem set_last {α : Type} (l : List α) (x : α) (h : l ≠ []) : l.set (l.length - 1) x = l.dropLast ++ [x] := by
  induction l with
  | nil => exact absurd rfl h
  | cons a l ih =>
    cases l with
    | nil => rfl
    | cons b l => simp only [List.length_cons, Nat.add_sub_cancel, List.set_cons_succ, List.dropLast_cons_cons, List.cons_append] at ih ⊢; rw [ih (by simp)]
theorem lp_runs (σ0 : St) (hw : σ0.wall ≤ σ0.next) (kf : FuncId) (caps : List Value) (p : Int → Bool) (lo : Int) (hlo : 0 ≤ lo) (m : Nat) (hm : m < 100)
    (hp : ∀ (σ : St) (x : Int), In σ0 σ → rn (.call kf ([I64 x] ++ caps) σ) = some (.val (BL (p x)) σ)) (hlo2 : lo < 1000) :
    ∀ (k i : Nat), i + k = m → ∀ (σ : St) (a : Option Addr) (n : Nat), In σ0 σ → Own eII σ0.next σ a n (runsL p lo i) → ∀ (j6 j0 j13 j24 j9 j29 : Value),
      Wp (rn (.loop c_survey_runs_1 (keptIn P 26) (h_survey_runs_1 σ (lo + i) (lo + m - 1) a n 0 (.func kf) ⟨[]⟩ ⟨caps⟩ j6 j0 j13 j24 j9 j29)))
        fun r => ∃ e fr, r = .ex e fr ∧ Wp (k_survey_runs_1 rn σ0 e fr) fun r' => ∃ a' n' σ', r' = .val (SL a' n' 0) σ' ∧ Ext σ0 σ' ∧ Own eII σ0.next σ' a' n' (runsL p lo m) := by
  intro k
  induction k with
  | zero =>
    intro i hk σ a n hin ho j6 j0 j13 j24 j9 j29
    apply wp_loop (l_survey_runs_1 _ _ _ _ _ _ _ _ _ _ _ _ _ _ _ _)
    rw [bc_leI, if_neg (by omega)]
    refine wp_some ⟨_, _, rfl, ?_⟩
    obtain rfl : i = m := by omega
    obtain ⟨σ', h1, h2, h3⟩ := ret_new (c := 0) hin ho (fun _ => rfl)
    rw [← a_survey_runs_1_0]
    exact Wp.of h1 ⟨a, n, σ', rfl, h2, h3⟩
  | succ k ih =>
    intro i hk σ a n hin ho j6 j0 j13 j24 j9 j29
    apply wp_loop (l_survey_runs_1 _ _ _ _ _ _ _ _ _ _ _ _ _ _ _ _)
    have hlen := ho.len
    have hlen2 := runsL_len p lo i
    rw [bc_leI, if_pos (by omega), ho.sl.lenT, callV_f0, callT_of (hp σ _ hin), asB_eq, bc_not, bc_if]
    have hnext : ∀ (σ' : St) (a' : Option Addr) (n' : Nat), In σ0 σ' → Own eII σ0.next σ' a' n' (stepR p (lo + i) (runsL p lo i)) → ∀ (q24 q9 q29 : Value), Wp (zadd (lo + i) 1 fun x => rn (.loop c_survey_runs_1 (keptIn P 26) (F P 26 σ' [j6, j0, I64 x, I64 (lo + m - 1), BL true, SL a' n' 0, FV (.func kf) ⟨[]⟩ ⟨caps⟩, q24, q9, q29])))
        fun r => ∃ e fr, r = .ex e fr ∧ Wp (k_survey_runs_1 rn σ0 e fr) fun r' => ∃ a' n' σ', r' = .val (SL a' n' 0) σ' ∧ Ext σ0 σ' ∧ Own eII σ0.next σ' a' n' (runsL p lo m) := by
      intro σ' a' n' hin' ho' q24 q9 q29
      rw [zadd_ok (by omega)]
      have := ih (i + 1) (by omega) σ' a' n' hin' ho' j6 j0 (BL true) q24 q9 q29
      rw [show lo + ((i + 1 : Nat) : Int) = lo + i + 1 by omega] at this
      exact this
    have hpush : ∀ (q : Value), stepR p (lo + i) (runsL p lo i) = runsL p lo i ++ [(lo + i, lo + i)] → Wp (newZ 2 [I64 (lo + i), I64 (lo + i)] σ fun σ18 => appT 2 16 (SL a n 0) (SL (some ⟨σ.next, 0, Option.none⟩) 1 2) σ18 fun d19 e20 f21 σ22 =>
        zadd (lo + i) 1 fun x23 => rn (.loop c_survey_runs_1 (keptIn P 26) (F P 26 σ22 [j6, j0, I64 x23, I64 (lo + m - 1), BL true, SL d19 e20 f21, FV (.func kf) ⟨[]⟩ ⟨caps⟩, BL false, q, BL false])))
        fun r => ∃ e fr, r = .ex e fr ∧ Wp (k_survey_runs_1 rn σ0 e fr) fun r' => ∃ a' n' σ', r' = .val (SL a' n' 0) σ' ∧ Ext σ0 σ' ∧ Own eII σ0.next σ' a' n' (runsL p lo m) := by
      intro q hst
      obtain ⟨a', σ', h1, h2, h3, _⟩ := ho.push (by' := 16) (by have := hin.wall; show σ.wall ≤ σ0.next; rw [this]; exact hw) hin.nx (by omega) (lo + i, lo + i)
      refine wp_eq (h1 _) (hnext σ' a' (n + 1) (hin.trans h3) ?_ _ _ _)
      rw [hst]; exact h2
    refine wp_if (fun h => ?_) fun h => ?_
    · rw [bc_ltI]
      refine wp_if (fun h0 => ?_) fun h0 => ?_
      · have hne : runsL p lo i ≠ [] := by intro e; rw [e] at hlen; simp at hlen; omega
        obtain ⟨kk, hkk⟩ : ∃ kk : Nat, (n : Int) - 1 = kk ∧ kk = (runsL p lo i).length - 1 := ⟨n - 1, by omega, by omega⟩
        have hkl : kk < (runsL p lo i).length := by omega
        have hlast : (runsL p lo i).getLast? = some (runsL p lo i)[kk] := by
          rw [List.getLast?_eq_getElem?, ← hkk.2]; exact get_some hkl
        rw [zsub_ok (by omega), hkk.1, ho.sl.ld1 (get_some hkl) 0 (off := fun o => Nat.add o 1) (j := 1) (fun _ => rfl) rfl, asI_eq, zsub_ok (by omega), bc_eqI]
        refine wp_if (fun h2 => ?_) fun h2 => ?_
        · rw [zsub_ok (by omega), hkk.1]
          obtain ⟨ib, hib, hu1, hu2, hu3, hu4⟩ := ho.upd (by have := hin.wall; show σ.wall ≤ σ0.next; rw [this]; exact hw) (get_some hkl) 0 (x' := ((runsL p lo i)[kk].1, lo + i)) (off := fun o => Nat.add o 1) (j := 1) (vs := [I64 (lo + i)]) (fun _ => rfl) rfl (by simp) rfl (by simp)
            fun σ16 => zadd (lo + i) 1 fun x17 => rn (.loop c_survey_runs_1 (keptIn P 26) (F P 26 σ16 [j6, j0, I64 x17, I64 (lo + m - 1), BL true, SL a n 0, FV (.func kf) ⟨[]⟩ ⟨caps⟩, BL false, I64 n, BL true]))
          refine wp_eq hu1 (hnext _ a n (hin.trans hu3) ?_ _ _ _)
          have hset : ∀ q, (runsL p lo i).set kk q = (runsL p lo i).dropLast ++ [q] := fun q => by rw [hkk.2, set_last _ _ hne]
          have : stepR p (lo + i) (runsL p lo i) = (runsL p lo i).set kk ((runsL p lo i)[kk].1, lo + i) := by
            unfold stepR
            rw [if_pos h, hlast]
            simp only [h2, if_true]
            rw [hset]
          rw [this]; exact hu2
        · refine hpush _ ?_
          unfold stepR
          rw [if_pos h, hlast]
          simp only [h2, if_false]
      · refine hpush _ ?_
        have hnil : runsL p lo i = [] := by
          cases h1 : runsL p lo i with
          | nil => rfl
          | cons r l => rw [h1] at hlen; simp at hlen; omega
        unfold stepR
        rw [if_pos h, hnil]; rfl
    · refine hnext σ a n hin ?_ _ _ _
      unfold stepR
      rw [if_neg h]; exact ho
theorem s_survey_runs (σ0 : St) (hw : σ0.wall ≤ σ0.next) (kf : FuncId) (caps : List Value) (p : Int → Bool) (lo hi : Int) (hlo : 0 ≤ lo ∧ lo < 1000) (m : Nat) (hm : m < 100) (hhi : hi = lo + m - 1)
    (hp : ∀ (σ : St) (x : Int), In σ0 σ → rn (.call kf ([I64 x] ++ caps) σ) = some (.val (BL (p x)) σ)) :
    Ret P Γ f_survey_runs [I64 lo, I64 hi, FN kf [] caps] σ0 fun v σ' => ∃ a n, v = SL a n 0 ∧ Ext σ0 σ' ∧ Own eII σ0.next σ' a n (runsL p lo m) := by
  subst hhi
  refine ret_call rfl (t_survey_runs _ _ _ _ _ _ _) ?_
  rw [reS_eq]
  have := lp_runs σ0 hw kf caps p lo hlo.1 m hm hp hlo.2 m 0 (by omega) _ none 0 (In.start σ0) (Own.nil _ _ _) (SL none 0 0) (I64 lo) poison poison poison poison
  rw [show lo + ((0 : Nat) : Int) = lo by omega] at this
  refine (lp_loopT (this.mono ?_))
  rintro r ⟨e, fr, rfl, h⟩
  refine ⟨e, fr, rfl, h.mono ?_⟩
  rintro r' ⟨a, n, σ', rfl, h1, h2⟩
  exact ⟨_, _, rfl, a, n, rfl, h1, h2⟩
theorem s_survey_GapsIn (σ0 : St) (hw : σ0.wall ≤ σ0.next) (a : Option Addr) (n c : Nat) (l : List (Int × Int)) (hn : n ≤ 12) (hv : ∀ r ∈ l, swE r = 0) (hs : SD eII σ0.next σ0 a n l) (m : Nat) (hm : 1 ≤ m ∧ m < 100) (hi : Int) (hhi : hi = m - 1) :
    Ret P Γ f_survey_GapsIn [SL a n c, AG [I64 0, I64 hi], I64 1] σ0 fun v σ' => ∃ a' n', v = TU [SL a' n' 0, I64 0] ∧ Ext σ0 σ' ∧ Own eII σ0.next σ' a' n' (runsL (fun x => decide (cnt x l < 1)) 0 m) := by
  refine ret_call rfl (t_survey_GapsIn _ _ _ _ _ _ _ _) ?_
  have hin2 := (In.start σ0).box (.cells false 0 [SL a n c])
  have hb2 := Bx.new { σ0 with low := σ0.next } [SL a n c]
  have hs2 : SD eII σ0.next (newBlk { σ0 with low := σ0.next } (.cells false 0 [SL a n c])) a n l := hs.keep fun j hj => by rw [nb_get, if_neg (by show ¬ σ0.next = j; omega)]
  have hn2 : (newBlk { σ0 with low := σ0.next } (.cells false 0 [SL a n c])).next = σ0.next + 1 := rfl
  have hbs2 : Bx (newBlk { σ0 with low := σ0.next } (.cells false 0 [SL a n c])) σ0.next [SL a n c] := hb2
  rw [reS_eq, newC_ok rfl]
  show Wp (newC _ (newBlk { σ0 with low := σ0.next } (.cells false 0 [SL a n c])) _) _
  generalize newBlk { σ0 with low := σ0.next } (.cells false 0 [SL a n c]) = σ2 at *
  have hin3 := hin2.box (.cells false 0 [I64 0, I64 hi])
  have hb3 := Bx.new σ2 [I64 0, I64 hi]
  have hbs3 := hbs2.old (.cells false 0 [I64 0, I64 hi])
  have hs3 : SD eII σ0.next (newBlk σ2 (.cells false 0 [I64 0, I64 hi])) a n l := hs2.keep fun j hj => by rw [nb_get, if_neg (by omega)]
  have hn3 := nb_next σ2 (.cells false 0 [I64 0, I64 hi])
  rw [newC_ok rfl]
  show Wp (newC _ (newBlk σ2 (.cells false 0 [I64 0, I64 hi])) _) _
  generalize newBlk σ2 (.cells false 0 [I64 0, I64 hi]) = σ3 at *
  have hin4 := hin3.box (.cells false 0 [I64 1])
  have hb4 := Bx.new σ3 [I64 1]
  have hbr4 := hb3.old (.cells false 0 [I64 1])
  have hbs4 := hbs3.old (.cells false 0 [I64 1])
  have hs4 : SD eII σ0.next (newBlk σ3 (.cells false 0 [I64 1])) a n l := hs3.keep fun j hj => by rw [nb_get, if_neg (by omega)]
  have hn4 := nb_next σ3 (.cells false 0 [I64 1])
  rw [newC_ok rfl]
  generalize newBlk σ3 (.cells false 0 [I64 1]) = σ4 at *
  have hw4 : σ4.wall ≤ σ4.next := hin4.wl hw
  have hrs : swE (0, hi) = 0 := by unfold swE; rw [if_pos (by simp only; omega), if_pos (by simp only; omega)]
  rw [hbs4.ld1 rfl, asL_eq, hs4.lenT, bc_ltI, if_neg (by omega), hbs4.ld1 rfl, asL_eq,
    callT_of (s_survey_each σ4 hw4 f_survey_GapsIn_1 [] swE a n c l (by omega) (fun σ i r h => s_GapsIn_1 σ (h.wl hw4) i r) (hs4.weak (by omega))), asT_eq, hdI_eq, hdI_eq, nl_eq, hbr4.ldN (by simp)]
  show Wp (hdI .i64 [I64 0, I64 hi] _) _
  rw [hdI_eq, hdI_eq, nl_eq, reS_eq]
  have hg1 : rn (.call f_survey_GapsIn_1 [I64 0, AG [I64 0, I64 hi]] (wallUp σ4)) = some (.val (I64 0) (wallUp σ4)) := by
    have := s_GapsIn_1 (wallUp σ4) (Nat.le_refl _) 0 (0, hi)
    rw [hrs] at this; exact this
  rw [callT_of hg1, asI_eq, reS_eq, wt_up, hb4.ld1 rfl, asI_eq, reS_eq, callT_of (s_survey_within _ _ _ _), asB_eq, reS_eq, wt_up, reS_eq, callT_of (s_survey_unless _ _ _), asI_eq, reS_eq, wt_up, reS_eq, newZ_eq, reS_eq, wt_nb, wu_next, callT_of (s_survey_first3 _ _ _ _), asI_eq, (eachE_zero swE l 0).2 hv, bc_neI, if_pos (by simp)]
  have hin5 := hin4.box (.cells false 1 [I64 0, I64 0, I64 (if decide ((1 : Int) ≤ 1 ∧ (1 : Int) ≤ 12) = true then 0 else 2)])
  have hbr5 := hbr4.old (.cells false 1 [I64 0, I64 0, I64 (if decide ((1 : Int) ≤ 1 ∧ (1 : Int) ≤ 12) = true then 0 else 2)])
  have hbs5 := hbs4.old (.cells false 1 [I64 0, I64 0, I64 (if decide ((1 : Int) ≤ 1 ∧ (1 : Int) ≤ 12) = true then 0 else 2)])
  have hbn5 := hb4.old (.cells false 1 [I64 0, I64 0, I64 (if decide ((1 : Int) ≤ 1 ∧ (1 : Int) ≤ 12) = true then 0 else 2)])
  have hn5 := nb_next σ4 (.cells false 1 [I64 0, I64 0, I64 (if decide ((1 : Int) ≤ 1 ∧ (1 : Int) ≤ 12) = true then 0 else 2)])
  have hs5 : SD eII σ0.next (newBlk σ4 (.cells false 1 [I64 0, I64 0, I64 (if decide ((1 : Int) ≤ 1 ∧ (1 : Int) ≤ 12) = true then 0 else 2)])) a n l := hs4.keep fun j hj => by rw [nb_get, if_neg (by omega)]
  generalize newBlk σ4 (.cells false 1 [I64 0, I64 0, I64 (if decide ((1 : Int) ≤ 1 ∧ (1 : Int) ≤ 12) = true then 0 else 2)]) = σ5 at *
  have hw5 : σ5.wall ≤ σ5.next := hin5.wl hw
  rw [hbr5.ld1 rfl, asI_eq, hbr5.ld1 rfl, asI_eq]
  refine wp_callT (s_survey_runs σ5 hw5 f_survey_GapsIn_2 [PT σ0.next 0, PT σ3.next 0] (fun x => decide (cnt x l < 1)) 0 hi (by omega) m hm.2 (by omega) fun σ x h => ?_) ?_
  · exact s_GapsIn_2 σ (h.wl hw5) σ0.next σ3.next x 1 a n c l (by omega) (hbs5.keep h.next (h.old _ hbs5.lt)) (hbn5.keep h.next (h.old _ hbn5.lt)) ((hs5.keep fun j hj => h.old j (by omega)).weak (by have := h.nx; omega))
  · rintro v σ6 ⟨a', n', rfl, h1, h2⟩
    rw [asL_eq]
    have hin6 := hin5.step h1
    obtain ⟨σ7, h4, h5, h6⟩ := ret_own (v := TU [SL a' n' 0, I64 0]) hin6 (h2.weak hin5.nx) (by
      intro h; cases a' with
      | none => rfl
      | some a => cases h)
    exact Wp.of h4 ⟨_, _, rfl, a', n', rfl, h5, h6⟩
end Go.AM.W
