/- What the functions that TopSurveySeen calls come to: what the rays say. -/
import Derived.Test.YtfmpoodienmieaaSv5
namespace Go.AM.W
open Go Go.AM
theorem eq_cell (a b c d : Int) : binA P .eql 30 (.tmp 14) (.tmp 16) (AG [I64 a, I64 b]) (AG [I64 c, I64 d]) = some (BL (decide (a = c ∧ b = d))) := (by kernel_rfl : _ = om (bc (eqI a c) (bc (eqI b d) (some true) (some false)) (some false)) fun r => Value.bool r).trans (eq2_ok a b c d)
theorem or_ok (a b : Int) (ha : 0 ≤ a ∧ a ≤ 3) (hb : 1 ≤ b ∧ b ≤ 2) : ∃ c, binA P .or 3 (.tmp 35) (.tmp 37) (I64 a) (I64 b) = some (I64 c) ∧ 0 ≤ c ∧ c ≤ 3 ∧ c ≠ 0 := by
  have h1 : a = 0 ∨ a = 1 ∨ a = 2 ∨ a = 3 := by omega
  have h2 : b = 1 ∨ b = 2 := by omega
  rcases h1 with rfl | rfl | rfl | rfl <;> rcases h2 with rfl | rfl
  · exact ⟨1, by as_aux_lemma => kernel_rfl, by omega, by omega, by omega⟩
  · exact ⟨2, by as_aux_lemma => kernel_rfl, by omega, by omega, by omega⟩
  · exact ⟨1, by as_aux_lemma => kernel_rfl, by omega, by omega, by omega⟩
  · exact ⟨3, by as_aux_lemma => kernel_rfl, by omega, by omega, by omega⟩
  · exact ⟨3, by as_aux_lemma => kernel_rfl, by omega, by omega, by omega⟩
  · exact ⟨2, by as_aux_lemma => kernel_rfl, by omega, by omega, by omega⟩
  · exact ⟨3, by as_aux_lemma => kernel_rfl, by omega, by omega, by omega⟩
  · exact ⟨3, by as_aux_lemma => kernel_rfl, by omega, by omega, by omega⟩
theorem s_sonar_said (σ0 : St) (a b c d : Int) (e : Bool) (w : Int) : Ret P Γ f_sonar_said [AG [I64 a, I64 b, I64 c, I64 d, BL e], I64 w] σ0 fun v σ' =>
    v = FN 49 [] [PT σ0.next 0, PT (σ0.next + 1) 0] ∧ Ext σ0 σ' ∧ Bx σ' σ0.next [I64 a, I64 b, I64 c, I64 d, BL e] ∧ Bx σ' (σ0.next + 1) [I64 w] := by
  refine ret_call rfl (t_sonar_said _ _ _ _ _ _ _ _) ?_
  have hin := ((In.start σ0).box (.cells false 0 [I64 a, I64 b, I64 c, I64 d, BL e])).box (.cells false 0 [I64 w])
  rw [reS_eq, newC_ok rfl, newC_ok rfl, retT_new rfl hin.lo]
  have h1 := (Bx.new { σ0 with low := σ0.next } [I64 a, I64 b, I64 c, I64 d, BL e]).old (.cells false 0 [I64 w])
  have h2 := Bx.new (newBlk { σ0 with low := σ0.next } (.cells false 0 [I64 a, I64 b, I64 c, I64 d, BL e])) [I64 w]
  exact wp_some ⟨_, _, rfl, rfl, hin.ext, ⟨h1.lt, h1.get⟩, ⟨h2.lt, h2.get⟩⟩
/-- What is kept of the cells while the rays speak: each is 0 to 3, and 0 exactly if none has spoken of it. -/
def Said (w : Nat) (out : List Int) (S : Int → Prop) : Prop := out.length = w ∧ ∀ (n : Nat) (v : Int), out[n]? = some v → (0 ≤ v ∧ v ≤ 3) ∧ (v ≠ 0 ↔ S n)
/-- The memory of 'states' while a ray speaks. -/
structure YS (σ0 : St) (i2 i5 iB L : Nat) (lb : LoopB) (sc : List Value) (cp : Nat) (w : Nat) (S : Int → Prop) (σ : St) : Prop where
  inn : In σ0 σ
  b2 : Bx σ i2 sc
  b5 : Bx σ i5 [SL (some ⟨iB, 0, none⟩) w cp]
  bB : iB < σ.next ∧ ∃ out, σ.heap.get iB = some (.cells false 1 (flat eI out)) ∧ Said w out S
  bL : L < σ.next ∧ σ.heap.get L = some lb.blk
  bd : lb.defers < σ.next ∧ σ.heap.get lb.defers = some .defer
theorem YS.keep {σ0 : St} {i2 i5 iB L : Nat} {lb : LoopB} {sc : List Value} {cp w : Nat} {S : Int → Prop} {σ σ' : St} (h : YS σ0 i2 i5 iB L lb sc cp w S σ) {b : Nat} (k : Keep b σ σ') (h0 : σ0.next ≤ b) (h2 : i2 < b) (h5 : i5 < b) (hB : iB < b) (hL : L < b) (hd : lb.defers < b) :
    YS σ0 i2 i5 iB L lb sc cp w S σ' :=
  ⟨h.inn.trans (k.weak h0), h.b2.keep k.next (k.old _ h2), h.b5.keep k.next (k.old _ h5), ⟨Nat.lt_of_lt_of_le h.bB.1 k.next, by rw [k.old _ hB]; exact h.bB.2⟩, ⟨Nat.lt_of_lt_of_le h.bL.1 k.next, by rw [k.old _ hL]; exact h.bL.2⟩, ⟨Nat.lt_of_lt_of_le h.bd.1 k.next, by rw [k.old _ hd]; exact h.bd.2⟩⟩
section
variable (σ0 : St) (hw : σ0.wall ≤ σ0.next) (i2 i5 iB L d : Nat) (sc : List Value) (cp w : Nat)
  (n18 n17 : Int) (a16 : Option Addr) (m16 c16 : Nat) (a1 : Option Addr) (m1 c1 : Nat) (k29 : Fn) (ka29 kb29 : Array Value) (j4 j0 j19 j6 j25 j7 j30 j8 : Value)
/-- The loop's block. -/
noncomputable abbrev lbS : LoopB := { st := .ready, pend := none, kept := keptIn P 18, fn := 18, t := h_sonar_states_2 i2 0 n18 n17 a16 m16 c16 a1 m1 c1 k29 ka29 kb29 i5 0 j4 j0 j19 j6 j25 j7 j30 j8, params := [30], assign := ra_sonar_states_2, body := rb_sonar_states_2, defers := d }
abbrev YS' := YS σ0 i2 i5 iB L (lbS i2 i5 d n18 n17 a16 m16 c16 a1 m1 c1 k29 ka29 kb29 j4 j0 j19 j6 j25 j7 j30 j8) sc cp w
include hw in
theorem yield_states (S : Int → Prop) (σ : St) (hY : YS' σ0 i2 i5 iB L d sc cp w n18 n17 a16 m16 c16 a1 m1 c1 k29 ka29 kb29 j4 j0 j19 j6 j25 j7 j30 j8 S σ)
    (hne : i5 ≠ iB ∧ i5 ≠ L ∧ i2 ≠ iB ∧ i2 ≠ L ∧ iB ≠ L ∧ d ≠ iB ∧ d ≠ L) (h0 : σ0.next ≤ iB ∧ σ0.next ≤ L) (x s : Int) (hx : 0 ≤ x ∧ x < w) (hs : 1 ≤ s ∧ s ≤ 2) :
    ∃ σ', rn (.yield L [AG [I64 x, I64 s]] σ) = some (.val (BL true) σ') ∧ YS' σ0 i2 i5 iB L d sc cp w n18 n17 a16 m16 c16 a1 m1 c1 k29 ka29 kb29 j4 j0 j19 j6 j25 j7 j30 j8 (fun n => S n ∨ n = x) σ' ∧
      Keep (min iB L) σ σ' ∧ σ'.low ≤ iB ∧ (∀ j, j < σ.next → j ≠ iB → j ≠ L → σ'.heap.get j = σ.heap.get j) := by
  obtain ⟨hin, hb2, hb5, ⟨hB1, out, hB2, hO⟩, ⟨hL1, hL2⟩, ⟨hd1, hd2⟩⟩ := hY
  have hyld := run_yieldT (P := P) (Γ := Γ) (args := [AG [I64 x, I64 s]]) hL2
  have hl := l_sonar_states_2 rn L σ x s i2 0 n18 n17 a16 m16 c16 a1 m1 c1 k29 ka29 kb29 i5 0 j4 j0 j19 j6 j25 j7 j30 j8
  have hwl := hin.wl hw
  have hwall : σ.wall = σ0.wall := hin.wall
  suffices hT : ∃ σ', roundT P rn L [AG [I64 x, I64 s]] σ (keptIn P 18) 18 (h_sonar_states_2 i2 0 n18 n17 a16 m16 c16 a1 m1 c1 k29 ka29 kb29 i5 0 j4 j0 j19 j6 j25 j7 j30 j8) [30] ra_sonar_states_2 rb_sonar_states_2 = some (.val (BL true) σ') ∧ YS' σ0 i2 i5 iB L d sc cp w n18 n17 a16 m16 c16 a1 m1 c1 k29 ka29 kb29 j4 j0 j19 j6 j25 j7 j30 j8 (fun n => S n ∨ n = x) σ' ∧
      Keep (min iB L) σ σ' ∧ σ'.low ≤ iB ∧ (∀ j, j < σ.next → j ≠ iB → j ≠ L → σ'.heap.get j = σ.heap.get j) by
    obtain ⟨σ', h1, h2⟩ := hT
    exact ⟨σ', hyld _ h1, h2⟩
  rw [← hl]
  obtain ⟨hlen, hS⟩ := hO
  rw [var_eq (by rfl) (by rfl) (by rfl) (by simp) hwl]
  have hbx := vb_bx σ [I64 0, I64 0] [I64 x, I64 s]
  have hold := vb_old σ [I64 0, I64 0] [I64 x, I64 s]
  have hkp := vb_keep σ [I64 0, I64 0] [I64 x, I64 s] (b := σ.next) (Nat.le_refl _)
  generalize hσ3 : vbox σ [I64 0, I64 0] [I64 x, I64 s] = σ3 at *
  have hn3 : σ3.next = σ.next + 1 := by rw [← hσ3]; rfl
  have hw3 : σ3.wall = σ.wall := by rw [← hσ3]; rfl
  have hL3 : σ3.heap.get L = some (lbS i2 i5 d n18 n17 a16 m16 c16 a1 m1 c1 k29 ka29 kb29 j4 j0 j19 j6 j25 j7 j30 j8).blk := by rw [hold L (by omega)]; exact hL2
  rw [round_start hL3 rfl (by omega)]
  generalize hbusy : ({ lbS i2 i5 d n18 n17 a16 m16 c16 a1 m1 c1 k29 ka29 kb29 j4 j0 j19 j6 j25 j7 j30 j8 with st := .busy } : LoopB) = lbb
  have hg6 := ps_get σ3 L lbb.blk
  have hn6 := ps_next σ3 L lbb.blk
  have hw6 := ps_wall σ3 L lbb.blk
  have hl6 := ps_low σ3 L lbb.blk
  generalize putSt σ3 L lbb.blk = σ6 at *
  have hb5' : Bx σ6 i5 [SL (some ⟨iB, 0, none⟩) w cp] := ⟨by have := hb5.lt; omega, by rw [hg6, if_neg (fun e => hne.2.1 e.symm), hold _ (by have := hb5.lt; omega)]; exact hb5.get⟩
  have hbx' : Bx σ6 σ.next [I64 x, I64 s] := ⟨by omega, by rw [hg6, if_neg (by omega)]; exact hbx.get⟩
  have hO6 : Own eI iB σ6 (some ⟨iB, 0, none⟩) w out := ⟨hlen.symm, .inr ⟨iB, rfl, Nat.le_refl _, by omega, by rw [hg6, if_neg (fun e => hne.2.2.2.2.1 e.symm), hold _ (by omega)]; exact hB2⟩⟩
  obtain ⟨k, rfl⟩ : ∃ k : Nat, x = k := ⟨x.toNat, by omega⟩
  have hk : k < out.length := by omega
  obtain ⟨hv, hv2⟩ := hS k out[k] (get_some hk)
  obtain ⟨c, hc, hc1, hc2, hc3⟩ := or_ok out[k] s hv hs
  obtain ⟨i, hi, hu1, hu2, hu3, hu4⟩ := hO6.upd (by omega) (get_some hk) cp (x' := c) (off := fun o => o) (j := 0) (vs := [I64 c]) (fun _ => rfl) rfl (by simp) rfl (by simp) fun σ23 => endRoundA L .normal (FR' P 18 (some L) [] σ23 [j4, j0, PT i2 0, I64 n18, I64 n17, j19, SL a16 m16 c16, SL a1 m1 c1, j6, j25, j7, FV k29 ka29 kb29, AG [I64 k, I64 s], PT i5 0, PT σ.next 0])
  cases hi
  rw [hb5'.ld1 rfl, asL_eq, hbx'.ld1 rfl, asI_eq, hO6.sl.ld0 (get_some hk) cp rfl, asI_eq, hbx'.ld1 rfl, asI_eq, hc, ob_some, asI_eq, hu1]
  have hg7 := ws_get σ6 iB 1 (flat eI (out.set k c))
  have hn7 := ws_next σ6 iB 1 (flat eI (out.set k c))
  have hw7 := ws_wall σ6 iB 1 (flat eI (out.set k c))
  have hl7 := ws_low σ6 iB 1 (flat eI (out.set k c))
  generalize wrSt σ6 iB 1 (flat eI (out.set k c)) = σ7 at *
  rw [round_end (lb := lbb) (by rw [hg7, if_neg hne.2.2.2.2.1, hg6, if_pos rfl]) (by omega)]
  have hback : ({ lbb with st := .ready, pend := none } : LoopB) = lbS i2 i5 d n18 n17 a16 m16 c16 a1 m1 c1 k29 ka29 kb29 j4 j0 j19 j6 j25 j7 j30 j8 := by rw [← hbusy]
  rw [hback]
  have hg8 := ps_get σ7 L (lbS i2 i5 d n18 n17 a16 m16 c16 a1 m1 c1 k29 ka29 kb29 j4 j0 j19 j6 j25 j7 j30 j8).blk
  have hn8 := ps_next σ7 L (lbS i2 i5 d n18 n17 a16 m16 c16 a1 m1 c1 k29 ka29 kb29 j4 j0 j19 j6 j25 j7 j30 j8).blk
  have hw8 := ps_wall σ7 L (lbS i2 i5 d n18 n17 a16 m16 c16 a1 m1 c1 k29 ka29 kb29 j4 j0 j19 j6 j25 j7 j30 j8).blk
  have hl8 := ps_low σ7 L (lbS i2 i5 d n18 n17 a16 m16 c16 a1 m1 c1 k29 ka29 kb29 j4 j0 j19 j6 j25 j7 j30 j8).blk
  refine ⟨_, rfl, ?_⟩
  generalize putSt σ7 L (lbS i2 i5 d n18 n17 a16 m16 c16 a1 m1 c1 k29 ka29 kb29 j4 j0 j19 j6 j25 j7 j30 j8).blk = σ8 at *
  have hother : ∀ j, j < σ.next → j ≠ iB → j ≠ L → σ8.heap.get j = σ.heap.get j := fun j hj h1 h2 => by
    rw [hg8, if_neg (fun e => h2 e.symm), hg7, if_neg (fun e => h1 e.symm), hg6, if_neg (fun e => h2 e.symm), hold _ (by omega)]
  have hlow3 : min σ.next σ.low ≤ σ3.low := hkp.low
  have hkeep : Keep (min iB L) σ σ8 := ⟨by omega, by omega, by omega, fun j hj => hother j (by omega) (by omega) (by omega)⟩
  refine ⟨⟨hin.trans (hkeep.weak (by omega)), ?_, ?_, ⟨by omega, out.set k c, ?_, ?_⟩, ⟨by omega, by rw [hg8, if_pos rfl]⟩, ⟨by omega, ?_⟩⟩, hkeep, by omega, hother⟩
  · exact hb2.keep (by omega) (hother _ hb2.lt hne.2.2.1 hne.2.2.2.1)
  · exact hb5.keep (by omega) (hother _ hb5.lt hne.1 hne.2.1)
  · rw [hg8, if_neg (fun e => hne.2.2.2.2.1 e.symm), hg7, if_pos rfl]
  · refine ⟨by simp [hlen], fun n v hv => ?_⟩
    rw [List.getElem?_set] at hv
    split at hv
    · rename_i hkn
      subst hkn
      cases hv
      exact ⟨⟨hc1, hc2⟩, fun _ => .inr rfl, fun _ => hc3⟩
    · rename_i hkn
      obtain ⟨h1, h2⟩ := hS n v hv
      refine ⟨h1, h2.trans ⟨.inl, fun h => h.elim id fun e => absurd (Int.ofNat.inj e).symm hkn⟩⟩
  · rw [hother d hd1 hne.2.2.2.2.2.1 hne.2.2.2.2.2.2]; exact hd2
include hw in
theorem lp_said (σs : St) (ir iw : Nat) (fx tx : Int) (hit : Bool) (wide : Int)
    (hne : i5 ≠ iB ∧ i5 ≠ L ∧ i2 ≠ iB ∧ i2 ≠ L ∧ iB ≠ L ∧ d ≠ iB ∧ d ≠ L) (hir : ir ≠ iB ∧ ir ≠ L ∧ iw ≠ iB ∧ iw ≠ L) (h0 : σ0.next ≤ iB ∧ σ0.next ≤ L) (hls : σ0.next ≤ σs.low) (hlt : i2 < σs.next ∧ i5 < σs.next ∧ iB < σs.next ∧ L < σs.next ∧ d < σs.next ∧ ir < σs.next ∧ iw < σs.next ∧ σ0.next ≤ σs.next)
    (S : Int → Prop) (cs : List (Int × Int)) (hcs : ∀ c ∈ cs, c.2 = 0 ∧ 0 ≤ c.1 ∧ c.1 < w ∧ c.1 < 12) (a : Option Addr) (n c : Nat) (hn : n < 1000) :
    ∀ (k i : Nat), i + k = n → ∀ (σ : St), YS' σ0 i2 i5 iB L d sc cp w n18 n17 a16 m16 c16 a1 m1 c1 k29 ka29 kb29 j4 j0 j19 j6 j25 j7 j30 j8 (fun x => S x ∨ ∃ p ∈ cs.take i, p.1 = x) σ →
      Bx σ ir [I64 fx, I64 0, I64 tx, I64 0, BL hit] → Bx σ iw [I64 wide] → Own eII σs.next σ a n cs → σs.next ≤ σ.next → (∀ j, j < σs.next → j ≠ iB → j ≠ L → σ.heap.get j = σs.heap.get j) → (i = 0 ∨ σ.low ≤ iB) → n ≠ 0 → ∀ (q11 q5 q21 q6 q29 : Value),
      Wp (rn (.loop c_sonar_said_1_1 (keptIn P 49) (h_sonar_said_1_1 σ ir 0 i n a n c (.yield L) ⟨[]⟩ ⟨[]⟩ iw 0 q11 q5 q21 q6 q29))) fun r => ∃ e fr, r = .ex e fr ∧
        Wp (k_sonar_said_1_1 rn σs e fr) fun r' => ∃ σ', r' = .val undef σ' ∧ YS' σ0 i2 i5 iB L d sc cp w n18 n17 a16 m16 c16 a1 m1 c1 k29 ka29 kb29 j4 j0 j19 j6 j25 j7 j30 j8 (fun x => S x ∨ ∃ p ∈ cs, p.1 = x) σ' ∧ σs.next ≤ σ'.next ∧ ∀ j, j < σs.next → j ≠ iB → j ≠ L → σ'.heap.get j = σs.heap.get j := by
  intro k
  induction k with
  | zero =>
    intro i hk σ hY hbr hbw hO hnx hoth hlo hn0 q11 q5 q21 q6 q29
    apply wp_loop (l_sonar_said_1_1 _ _ _ _ _ _ _ _ _ _ _ _ _ _ _ _ _ _ _)
    have hl := hO.len
    rw [bc_ltI, if_neg (by omega)]
    refine wp_some ⟨_, _, rfl, ?_⟩
    rw [← a_sonar_said_1_1_0, retT_low (by omega)]
    refine wp_some ⟨_, rfl, ?_⟩
    have h1 : cs.take i = cs := List.take_of_length_le (by omega)
    rw [h1] at hY
    have hlo := hY.inn.lo
    exact ⟨⟨⟨hY.inn.next, hY.inn.wall, by show min σ0.next σ0.next ≤ min σs.low σ.low; omega, hY.inn.old⟩, ⟨hY.b2.lt, hY.b2.get⟩, ⟨hY.b5.lt, hY.b5.get⟩, hY.bB, hY.bL, hY.bd⟩, hnx, hoth⟩
  | succ k ih =>
    intro i hk σ hY hbr hbw hO hnx hoth hlo hn0 q11 q5 q21 q6 q29
    apply wp_loop (l_sonar_said_1_1 _ _ _ _ _ _ _ _ _ _ _ _ _ _ _ _ _ _ _)
    have hl := hO.len
    have hi : i < cs.length := by omega
    have hcell := hcs _ (List.getElem_mem hi)
    have htake : cs.take (i + 1) = cs.take i ++ [cs[i]] := by rw [List.take_add_one, get_some hi]; rfl
    rw [bc_ltI, if_pos (by omega), hO.sl.ldN (get_some hi) c]
    generalize cs[i] = p at *
    obtain ⟨x, y⟩ := p
    obtain ⟨hy, hx0, hx1, hx2⟩ := hcell
    simp only at hy hx0 hx1 hx2
    subst hy
    have hwl : σ.wall ≤ σ.next := hY.inn.wl hw
    rw [hdI_eq, hdI_eq, nl_eq, var_eq (by rfl) (by rfl) (by rfl) (by simp) hwl]
    have hbx := vb_bx σ [I64 0, I64 0] [I64 x, I64 0]
    have hold := vb_old σ [I64 0, I64 0] [I64 x, I64 0]
    have hkp := vb_keep σ [I64 0, I64 0] [I64 x, I64 0] (b := σ.next) (Nat.le_refl _)
    have hn3 := vb_next σ [I64 0, I64 0] [I64 x, I64 0]
    have hl3 : (vbox σ [I64 0, I64 0] [I64 x, I64 0]).low ≤ σ.low := by unfold vbox; rw [ws_low]; exact Nat.min_le_right _ _
    generalize vbox σ [I64 0, I64 0] [I64 x, I64 0] = σ3 at *
    have hbr' : Bx σ3 ir [I64 fx, I64 0, I64 tx, I64 0, BL hit] := hbr.keep (by omega) (hold _ (by have := hbr.lt; omega))
    have hbw' : Bx σ3 iw [I64 wide] := hbw.keep (by omega) (hold _ (by have := hbw.lt; omega))
    have hY3 := hY.keep hkp (by omega) (by omega) (by omega) (by omega) (by omega) (by show d < _; omega)
    have hO3 : Own eII σs.next σ3 a n cs := hO.same (by omega) fun j o hj => by
      rcases hO.own with ⟨e, _⟩ | ⟨j', e, _, h3, _⟩
      · rw [e] at hj; cases hj
      · rw [e] at hj; cases hj; exact hold _ (by omega)
    have hgo : ∀ (s : Int) (b : Bool), 1 ≤ s ∧ s ≤ 2 → Wp (ldN σ3.heap σ.next 0 2 fun l25 => hdI .i64 l25 fun x27 l26 => hdI .i64 l26 fun x29 l28 => nl l28 (ld1 σ3.heap iw 0 fun v30 => asI .i64 v30 fun x31 =>
        callT rn 51 [AG [I64 x27, I64 x29], I64 x31] σ3 fun v32 σ33 => asI .i64 v32 fun x34 => callV rn (FV (.yield L) ⟨[]⟩ ⟨[]⟩) [AG [I64 x34, I64 s]] σ33 fun v35 σ36 => asB v35 fun p37 => bc (!p37)
          (some (.ex .ret (F P 49 σ36 [PT ir 0, I64 i, I64 n, BL true, SL a n c, PT σ.next 0, BL b, FV (.yield L) ⟨[]⟩ ⟨[]⟩, PT iw 0, I64 s, BL true])))
          (zadd i 1 fun x38 => rn (.loop c_sonar_said_1_1 (keptIn P 49) (F P 49 σ36 [PT ir 0, I64 x38, I64 n, BL true, SL a n c, PT σ.next 0, BL b, FV (.yield L) ⟨[]⟩ ⟨[]⟩, PT iw 0, I64 s, BL false]))))) fun r => ∃ e fr, r = .ex e fr ∧
        Wp (k_sonar_said_1_1 rn σs e fr) fun r' => ∃ σ', r' = .val undef σ' ∧ YS' σ0 i2 i5 iB L d sc cp w n18 n17 a16 m16 c16 a1 m1 c1 k29 ka29 kb29 j4 j0 j19 j6 j25 j7 j30 j8 (fun x => S x ∨ ∃ p ∈ cs, p.1 = x) σ' ∧ σs.next ≤ σ'.next ∧ ∀ j, j < σs.next → j ≠ iB → j ≠ L → σ'.heap.get j = σs.heap.get j := by
      intro s b hs
      rw [hbx.ldN (by simp)]
      show Wp (hdI .i64 [I64 x, I64 0] _) _
      rw [hdI_eq, hdI_eq, nl_eq, hbw'.ld1 rfl, asI_eq, callT_of (s_sonar_cell σ3 x 0 wide (by omega) rfl), asI_eq, callV_yield]
      obtain ⟨σ4, hy1, hy2, hy3, hy4, hy5⟩ := yield_states σ0 hw i2 i5 iB L d sc cp w n18 n17 a16 m16 c16 a1 m1 c1 k29 ka29 kb29 j4 j0 j19 j6 j25 j7 j30 j8 _ σ3 hY3 hne h0 x s (by omega) hs
      rw [List.nil_append, yieldT_of hy1, asB_eq, bc_not, bcT, zadd_ok (by omega)]
      refine ih (i + 1) (by omega) σ4 ?_ (hbr'.keep hy3.next (hy5 _ hbr'.lt hir.1 hir.2.1)) (hbw'.keep hy3.next (hy5 _ hbw'.lt hir.2.2.1 hir.2.2.2)) (hO3.same hy3.next fun j o hj => ?_) (by have := hy3.next; omega) (fun j hj h1 h2 => (hy5 j (by omega) h1 h2).trans ((hold j (by omega)).trans (hoth j hj h1 h2))) (.inr hy4) hn0 _ _ _ _ _
      · have e : (fun z => S z ∨ ∃ p ∈ cs.take (i + 1), p.1 = z) = fun z => (S z ∨ ∃ p ∈ cs.take i, p.1 = z) ∨ z = x := by
          funext z
          rw [htake]
          simp only [List.mem_append, List.mem_singleton, eq_iff_iff]
          constructor
          · rintro (h | ⟨p, h | rfl, h2⟩)
            · exact .inl (.inl h)
            · exact .inl (.inr ⟨p, h, h2⟩)
            · exact .inr h2.symm
          · rintro ((h | ⟨p, h, h2⟩) | rfl)
            · exact .inl h
            · exact .inr ⟨p, .inl h, h2⟩
            · exact .inr ⟨_, .inr rfl, rfl⟩
        rw [e]; exact hy2
      · rcases hO3.own with ⟨e, _⟩ | ⟨j', e, h2, h3, _⟩
        · rw [e] at hj; cases hj
        · rw [e] at hj; cases hj; exact hy5 _ h3 (by omega) (by omega)
    rw [hbx.ldN (by simp)]
    show Wp (hdI .i64 [I64 x, I64 0] _) _
    rw [hdI_eq, hdI_eq, nl_eq, hbr'.ldN (by simp)]
    show Wp (hdI .i64 [I64 tx, I64 0] _) _
    rw [hdI_eq, hdI_eq, nl_eq, eq_cell, ob_some, asB_eq, bc_dec]
    refine wp_if (fun _ => ?_) fun _ => hgo 1 false (by omega)
    rw [hbr'.ld1 rfl, asB_eq, bc_if]
    exact wp_if (fun _ => hgo 2 true (by omega)) fun _ => hgo 1 false (by omega)
include hw in
theorem s_sonar_said_1 (σs : St) (ir iw : Nat) (fx tx : Int) (hit : Bool) (hf : 0 ≤ fx ∧ fx < 12) (ht : 0 ≤ tx ∧ tx < 12) (hfw : fx < w ∧ tx < w) (wide : Int)
    (hne : i5 ≠ iB ∧ i5 ≠ L ∧ i2 ≠ iB ∧ i2 ≠ L ∧ iB ≠ L ∧ d ≠ iB ∧ d ≠ L) (hir : ir ≠ iB ∧ ir ≠ L ∧ iw ≠ iB ∧ iw ≠ L) (h0 : σ0.next ≤ iB ∧ σ0.next ≤ L)
    (S : Int → Prop) (hY : YS' σ0 i2 i5 iB L d sc cp w n18 n17 a16 m16 c16 a1 m1 c1 k29 ka29 kb29 j4 j0 j19 j6 j25 j7 j30 j8 S σs) (hbr : Bx σs ir [I64 fx, I64 0, I64 tx, I64 0, BL hit]) (hbw : Bx σs iw [I64 wide]) :
    Ret P Γ f_sonar_said_1 [FV (.yield L) ⟨[]⟩ ⟨[]⟩, PT ir 0, PT iw 0] σs fun v σ' => v = undef ∧ YS' σ0 i2 i5 iB L d sc cp w n18 n17 a16 m16 c16 a1 m1 c1 k29 ka29 kb29 j4 j0 j19 j6 j25 j7 j30 j8 (fun x => S x ∨ loR fx tx ≤ x ∧ x ≤ hiR fx tx) σ' ∧ σs.next ≤ σ'.next ∧ ∀ j, j < σs.next → j ≠ iB → j ≠ L → σ'.heap.get j = σs.heap.get j := by
  refine ret_call rfl (t_sonar_said_1 _ _ _ _ _ _ _ _ _) ?_
  have hbr0 : Bx { σs with low := σs.next } ir [I64 fx, I64 0, I64 tx, I64 0, BL hit] := ⟨hbr.lt, hbr.get⟩
  have hwl : σs.wall ≤ σs.next := hY.inn.wl hw
  rw [reS_eq, hbr0.ldN (by simp)]
  show Wp (hdI .i64 [I64 fx, I64 0, I64 tx, I64 0, BL hit] _) _
  rw [hdI_eq, hdI_eq, hdI_eq, hdI_eq, hdB_eq, nl_eq]
  refine wp_callT (s_sonar_crossed { σs with low := σs.next } hwl fx tx hit hf ht) ?_
  rintro v σ1 ⟨a, n, rfl, he, ho⟩
  have hn := ho.len
  have hhi : hiR fx tx < 12 ∧ hiR fx tx < w := by unfold hiR; split <;> omega
  have hlo : 0 ≤ loR fx tx := by unfold loR; split <;> omega
  have hle : loR fx tx ≤ hiR fx tx := by unfold loR hiR; split <;> split <;> omega
  rw [cellsL_len] at hn
  have hmem : ∀ (x : Int), (∃ p ∈ cellsL (loR fx tx) (hiR fx tx), p.1 = x) ↔ loR fx tx ≤ x ∧ x ≤ hiR fx tx := fun x => by
    unfold cellsL
    simp only [List.mem_map, List.mem_range]
    constructor
    · rintro ⟨p, ⟨k, hk, rfl⟩, rfl⟩; simp only; omega
    · intro h; exact ⟨(x, 0), ⟨(x - loR fx tx).toNat, by omega, by congr 1; omega⟩, rfl⟩
  have hin : Keep σs.next σs σ1 := ⟨he.next, he.wall, by rw [he.low]; show min σs.next σs.low ≤ σs.next; omega, he.old⟩
  rw [asL_eq, ho.sl.lenT]
  have hYk := hY.keep hin hY.inn.nx hY.b2.lt hY.b5.lt hY.bB.1 hY.bL.1 hY.bd.1
  have hfin := lp_said σ0 hw i2 i5 iB L d sc cp w n18 n17 a16 m16 c16 a1 m1 c1 k29 ka29 kb29 j4 j0 j19 j6 j25 j7 j30 j8 σs ir iw fx tx hit wide hne hir h0 hY.inn.lo ⟨hY.b2.lt, hY.b5.lt, hY.bB.1, hY.bL.1, hY.bd.1, hbr.lt, hbw.lt, hY.inn.nx⟩
    S (cellsL (loR fx tx) (hiR fx tx)) (fun c hc => by
      have := (hmem c.1).1 ⟨c, hc, rfl⟩
      unfold cellsL at hc
      simp only [List.mem_map, List.mem_range] at hc
      obtain ⟨k, hk, rfl⟩ := hc
      exact ⟨rfl, by omega, by omega, by omega⟩) a n 0 (by omega) n 0 (by omega) σ1 (by simpa using hYk) (hbr.keep he.next (he.old _ hbr.lt)) (hbw.keep he.next (he.old _ hbw.lt)) ho he.next (fun j hj _ _ => he.old j hj) (.inl rfl) (by omega) poison poison poison poison poison
  refine lp_loopT (hfin.mono ?_)
  rintro r ⟨e, fr, rfl, h⟩
  refine ⟨e, fr, rfl, h.mono ?_⟩
  rintro r' ⟨σ', rfl, h, h2⟩
  refine ⟨_, _, rfl, rfl, ?_, h2⟩
  simp only [hmem] at h
  exact h
end
end Go.AM.W
