/- Laws for going through printed terms: slices of one's own; closed calls in the table. -/
import Derived.Test.YtfmpoodienmieaaAm37
namespace Go.AM
variable {P : Program} {rec : Rec} {α : Type} {sz : Nat} {E : Enc α sz}
theorem res_dec {p q : Prop} [Decidable p] [Decidable q] {σ : St} (h : p ↔ q) : some (Res.val (BL (decide p)) σ) = some (.val (BL (decide q)) σ) := by
  rw [decide_eq_decide.2 h]
theorem res_T {q : Prop} [Decidable q] {σ : St} (h : q) : some (Res.val (BL true) σ) = some (.val (BL (decide q)) σ) := by rw [decide_eq_true h]
theorem res_F {q : Prop} [Decidable q] {σ : St} (h : ¬ q) : some (Res.val (BL false) σ) = some (.val (BL (decide q)) σ) := by rw [decide_eq_false h]
/-- A slice that is written out. -/
theorem sl_lit {σ : St} {cs : List Value} {n : Nat} (h : cs.length = n * sz) : Sl (σ.next + 1) (newBlk σ (.cells false sz cs)) (some ⟨σ.next, 0, none⟩) n sz cs :=
  ⟨h, .inr ⟨_, _, rfl⟩, .inr ⟨σ.next, 0, false, sz, cs, rfl, Nat.lt_succ_self _, by rw [nb_get, if_pos rfl], by omega, by rw [List.drop_zero, ← h, List.take_length]⟩⟩
/-- A slice that nobody else holds. -/
structure Own (E : Enc α sz) (b : Nat) (σ : St) (a : Option Addr) (n : Nat) (l : List α) : Prop where
  len : n = l.length
  own : (a = none ∧ l = []) ∨ ∃ i, a = some ⟨i, 0, none⟩ ∧ b ≤ i ∧ i < σ.next ∧ σ.heap.get i = some (.cells false sz (flat E l))
theorem Own.nil (E : Enc α sz) (b : Nat) (σ : St) : Own E b σ none 0 [] := ⟨rfl, .inl ⟨rfl, rfl⟩⟩
theorem Own.sl {b : Nat} {σ : St} {a : Option Addr} {n : Nat} {l : List α} (h : Own E b σ a n l) : SD E σ.next σ a n l := by
  obtain ⟨rfl, h⟩ := h
  rcases h with ⟨rfl, rfl⟩ | ⟨i, rfl, _, h2, h3⟩
  · exact Sl.nil _ _ _
  · exact ⟨flat_len l, .inr ⟨_, _, rfl⟩, .inr ⟨i, 0, false, sz, flat E l, rfl, h2, h3, by rw [flat_len]; omega, by rw [List.drop_zero, ← flat_len (E := E), List.take_length]⟩⟩
theorem Own.ext {b : Nat} {σ σ' : St} {a : Option Addr} {n : Nat} {l : List α} (h : Own E b σ a n l) (k : Ext σ σ') : Own E b σ' a n l :=
  ⟨h.len, h.own.imp id fun ⟨i, h1, h2, h3, h4⟩ => ⟨i, h1, h2, Nat.lt_of_lt_of_le h3 k.next, by rw [k.old i h3]; exact h4⟩⟩
theorem Own.weak {b b' : Nat} {σ : St} {a : Option Addr} {n : Nat} {l : List α} (h : Own E b σ a n l) (hb : b' ≤ b) : Own E b' σ a n l :=
  ⟨h.len, h.own.imp id fun ⟨i, h1, h2, h3, h4⟩ => ⟨i, h1, by omega, h3, h4⟩⟩
theorem Own.same {b : Nat} {σ σ' : St} {a : Option Addr} {n : Nat} {l : List α} (h : Own E b σ a n l) (hn : σ.next ≤ σ'.next) (k : ∀ i o, a = some ⟨i, o, none⟩ → σ'.heap.get i = σ.heap.get i) : Own E b σ' a n l :=
  ⟨h.len, h.own.imp id fun ⟨i, h1, h2, h3, h4⟩ => ⟨i, h1, h2, by omega, by rw [k i 0 h1]; exact h4⟩⟩
/-- All blocks but that of a slice are as they were. -/
def Others (a : Option Addr) (σ σ' : St) : Prop := ∀ j, j < σ.next → (∀ i o, a = some ⟨i, o, none⟩ → j ≠ i) → σ'.heap.get j = σ.heap.get j
/-- One element more. -/
theorem Own.push {b : Nat} {σ : St} {a : Option Addr} {n by' : Nat} {l : List α} (h : Own E b σ a n l) (hw : σ.wall ≤ b) (hbn : b ≤ σ.next) (hb : (n + 1) * (by' + 1) ≤ 2 ^ 46) (x : α) :
    ∃ a' σ', (∀ f : Option Addr → Nat → Nat → St → R, (newZ sz (E.enc x) σ fun σ1 => appT sz by' (SL a n 0) (SL (some ⟨σ.next, 0, none⟩) 1 2) σ1 f) = f a' (n + 1) 0 σ') ∧ Own E b σ' a' (n + 1) (l ++ [x]) ∧ Keep b σ σ' ∧ Others a σ σ' ∧ ∃ i, a' = some ⟨i, 0, none⟩ ∧ σ.next ≤ i := by
  obtain ⟨rfl, h⟩ := h
  have hsz := E.pos
  have hlen := E.len x
  have hone := E.one x
  have hsrc : srcCells sz 1 (SL (some ⟨σ.next, 0, none⟩) 1 2) (newBlk σ (.cells false sz (E.enc x))).heap = some (E.enc x) := by
    show readAt _ σ.next 0 (1 * sz) = _
    rw [readAt_cells (r := false) (z := sz) (cs := E.enc x) (by rw [nb_get, if_pos rfl]) (by omega), List.drop_zero, List.take_of_length_le (by omega)]
  rcases h with ⟨rfl, rfl⟩ | ⟨i, rfl, h1, h2, h3⟩
  · refine ⟨some ⟨σ.next + 1, 0, none⟩, newBlk (newBlk σ (.cells false sz (E.enc x))) (.cells false sz (E.enc x)), fun f => ?_, ?_, ?_, ?_, ⟨_, rfl, by omega⟩⟩
    · show appT sz by' (SL none 0 0) (SL (some ⟨σ.next, 0, none⟩) 1 2) (newBlk σ (.cells false sz (E.enc x))) f = _
      unfold appT appS
      show ob (ob (srcCells sz 1 (SL (some ⟨σ.next, 0, none⟩) 1 2) (newBlk σ (.cells false sz (E.enc x))).heap) fun new => appendTo sz by' ⟨none, 0, 0⟩ new 1 (newBlk σ (.cells false sz (E.enc x)))) _ = _
      rw [hsrc]
      show ob (appendTo sz by' ⟨none, 0, 0⟩ (E.enc x) 1 (newBlk σ (.cells false sz (E.enc x)))) _ = _
      have c1 : Nat.ble ((0 + 1) * (by' + 1)) (2 ^ 46) = true := by rw [Nat.ble_eq]; simpa using hb
      have c2 : Nat.ble 1 sz = true := by rw [Nat.ble_eq]; omega
      have c3 : Nat.beq (E.enc x).length (1 * sz) = true := by rw [Nat.beq_eq]; omega
      unfold appendTo
      rw [c1, c2, hone, c3]
      rfl
    · exact ⟨rfl, .inr ⟨σ.next + 1, rfl, by omega, by show σ.next + 1 < σ.next + 2; omega, by rw [nb_get, if_pos (show (newBlk σ (.cells false sz (E.enc x))).next = σ.next + 1 from rfl)]; simp [flat]⟩⟩
    · exact ((ext_new σ _).trans (ext_new _ _)).keep hbn
    · intro j hj _
      exact ((ext_new σ _).trans (ext_new _ _)).old j hj
  · have hg : (newBlk σ (.cells false sz (E.enc x))).heap.get i = some (.cells false sz (flat E l)) := by rw [nb_get, if_neg (by omega)]; exact h3
    have hk : kill (newBlk σ (.cells false sz (E.enc x))) i = some { newBlk σ (.cells false sz (E.enc x)) with heap := (newBlk σ (.cells false sz (E.enc x))).heap.del i, low := bc (Nat.ble i σ.low) i σ.low } := by
      unfold kill
      rw [hg]
      show bc false none (bc (Nat.ble σ.wall i) _ none) = _
      rw [show Nat.ble σ.wall i = true by rw [Nat.ble_eq]; omega]; rfl
    refine ⟨some ⟨σ.next + 1, 0, none⟩, newBlk { newBlk σ (.cells false sz (E.enc x)) with heap := (newBlk σ (.cells false sz (E.enc x))).heap.del i, low := bc (Nat.ble i σ.low) i σ.low } (.cells false sz (flat E (l ++ [x]))), fun f => ?_, ?_, ?_, ?_, ⟨_, rfl, by omega⟩⟩
    · show appT sz by' (SL (some ⟨i, 0, none⟩) l.length 0) (SL (some ⟨σ.next, 0, none⟩) 1 2) (newBlk σ (.cells false sz (E.enc x))) f = _
      unfold appT appS
      show ob (ob (srcCells sz 1 (SL (some ⟨σ.next, 0, none⟩) 1 2) (newBlk σ (.cells false sz (E.enc x))).heap) fun new => appendTo sz by' ⟨some (i, 0), l.length, 0⟩ new 1 (newBlk σ (.cells false sz (E.enc x)))) _ = _
      rw [hsrc]
      show ob (appendTo sz by' ⟨some (i, 0), l.length, 0⟩ (E.enc x) 1 (newBlk σ (.cells false sz (E.enc x)))) _ = _
      have c1 : Nat.ble ((l.length + 1) * (by' + 1)) (2 ^ 46) = true := by rw [Nat.ble_eq]; exact hb
      have c2 : Nat.ble 1 sz = true := by rw [Nat.ble_eq]; omega
      have c3 : Nat.beq (E.enc x).length (1 * sz) = true := by rw [Nat.beq_eq]; omega
      have c4 : Nat.beq sz sz = true := by rw [Nat.beq_eq]
      unfold appendTo
      rw [c1, c2, hone, c3]
      show ob (ob ((newBlk σ (.cells false sz (E.enc x))).heap.get i) fun bl => ob (bCells bl) fun c => bc (Nat.beq c.2.1 sz) (ob (readAt (newBlk σ (.cells false sz (E.enc x))).heap i 0 (l.length * sz)) fun old => ob (kill (newBlk σ (.cells false sz (E.enc x))) i) fun σ => some (freshRow sz (l.length + 1) (old ++ E.enc x) σ)) none) _ = _
      rw [hg, hk, readAt_cells hg (by rw [flat_len]; omega)]
      show ob (bc (Nat.beq sz sz) _ none) _ = _
      rw [c4, List.drop_zero, List.take_of_length_le (by rw [flat_len]; exact Nat.le_refl _)]
      show f _ _ _ _ = f _ _ _ _
      rw [flat_append]
      simp [flat, freshRow, nb_next]
    · exact ⟨by simp, .inr ⟨σ.next + 1, rfl, by omega, by show σ.next + 1 < σ.next + 2; omega, by rw [nb_get]; exact if_pos (show σ.next + 1 = σ.next + 1 from rfl)⟩⟩
    · refine ⟨by show σ.next ≤ σ.next + 2; omega, rfl, by show min b σ.low ≤ bc (Nat.ble i σ.low) i σ.low; rw [low_eq]; omega, fun j hj => ?_⟩
      rw [nb_get, if_neg (by show ¬ σ.next + 1 = j; omega)]
      show ((newBlk σ _).heap.del i).get j = _
      rw [get_del, if_neg (by omega), nb_get, if_neg (by omega)]
    · intro j hj hne
      rw [nb_get, if_neg (by show ¬ σ.next + 1 = j; omega)]
      show ((newBlk σ _).heap.del i).get j = _
      rw [get_del, if_neg (fun e => hne i 0 rfl e.symm), nb_get, if_neg (by omega)]
/-- A part of an element is written. -/
theorem Own.upd {b : Nat} {σ : St} {a : Option Addr} {n : Nat} {l : List α} (h : Own E b σ a n l) (hw : σ.wall ≤ b) {k : Nat} {x x' : α} (hx : l[k]? = some x) (c : Nat) {off : Nat → Nat} {j : Nat} {vs : List Value} (hoff : ∀ o, off o = o + j)
    (he : splice (E.enc x) j vs = E.enc x') (hj : j + vs.length ≤ sz) (h1 : allOne vs = true) (h0 : vs ≠ []) (f : St → R) :
    ∃ i, a = some ⟨i, 0, none⟩ ∧ atT (SL a n c) (k : Int) sz (fun i o => wrT σ i (off o) vs f) = f (wrSt σ i sz (flat E (l.set k x'))) ∧ Own E b (wrSt σ i sz (flat E (l.set k x'))) a n (l.set k x') ∧ Keep b σ (wrSt σ i sz (flat E (l.set k x'))) ∧ Others a σ (wrSt σ i sz (flat E (l.set k x'))) := by
  obtain ⟨rfl, h⟩ := h
  have hkl : k < l.length := by
    rcases Nat.lt_or_ge k l.length with h | h
    · exact h
    · rw [List.getElem?_eq_none h] at hx; cases hx
  rcases h with ⟨rfl, rfl⟩ | ⟨i, rfl, h2, h3, h4⟩
  · cases hx
  · refine ⟨i, rfl, ?_, ⟨by simp, .inr ⟨i, rfl, h2, h3, by rw [ws_get, if_pos rfl]⟩⟩, keep_wr h2, fun m hm hne => by rw [ws_get, if_neg (fun e => hne i 0 rfl e.symm)]⟩
    have hm : k * sz + sz ≤ l.length * sz := by
      have := Nat.mul_le_mul_right sz (show k + 1 ≤ l.length by omega)
      rw [Nat.add_mul] at this; omega
    show ob (natBelow (k : Int) l.length) (fun m => wrT σ i (off (Nat.add 0 (Nat.mul m sz))) vs f) = _
    rw [natBelow_eq.2 ⟨rfl, hkl⟩]
    show wrT σ i (off (0 + k * sz)) vs f = _
    rw [hoff, wrT_cells h4 (by omega) (by rw [flat_len]; omega) h1 h0]
    congr 1
    have hsp : splice (flat E l) (0 + k * sz + j) vs = flat E (l.set k x') := by
      rw [← flat_set l k x' hkl, ← he]
      apply List.ext_getElem?
      intro p
      have hl1 : (splice (E.enc x) j vs).length = sz := by rw [splice_length, E.len]
      rw [splice_get _ _ _ _ (by rw [flat_len]; omega), splice_get _ _ _ _ (by rw [hl1, flat_len]; omega), hl1]
      by_cases hp : k * sz ≤ p ∧ p < k * sz + sz
      · rw [if_pos hp, splice_get _ _ _ _ (by rw [E.len]; exact hj)]
        have hex : (E.enc x)[p - k * sz]? = (flat E l)[p]? := by
          rw [← flat_at l k x hx, List.getElem?_take, if_pos (by omega), List.getElem?_drop, show k * sz + (p - k * sz) = p by omega]
        by_cases hq : 0 + k * sz + j ≤ p ∧ p < 0 + k * sz + j + vs.length
        · rw [if_pos hq, if_pos (by omega), show p - (0 + k * sz + j) = p - k * sz - j by omega]
        · rw [if_neg hq, if_neg (by omega), hex]
      · rw [if_neg hp, if_neg (by omega)]
    rw [hsp]
/-- A call without arguments that the machine evaluates to plain data. -/
theorem closed_ok {rec : Rec} (hrec : RecOk P rec) {k : FuncId} {v : Value} {σ1 : St} (h : rec (.call k [] st0) = some (.val v σ1)) (hv : isFlat v = true) (σ : St) : CallOk P k [] σ v σ := by
  obtain ⟨v1, σ2, he, hent, hc⟩ := hrec.call _ _ _ _ h
  cases he
  refine ⟨hent, fun e w args' hW ha => ?_⟩
  cases ha
  refine CallsIn.mono (hc (fun _ => none) w [] (wrel_start w) .nil) fun en w' hR => ?_
  obtain ⟨v', e', rfl, h1, h2, h3⟩ := hR
  have hno : ∀ b, ¬ Owned (fun _ => none) st0 b := fun b ⟨i, L, B, _, hi, _⟩ => by cases hi
  refine ⟨v', e, rfl, ⟨fun i L hi => ⟨(hW.dom i L hi).1, fun hn => Nat.lt_of_lt_of_le ((hW.dom i L hi).2 hn) h2.size⟩, fun i L B hi hB => ?_, hW.sep, hW.bnd⟩,
    ⟨.refl e, fun _ _ => rfl, Nat.le_refl _, rfl, h2.size, h2.os, h2.tape, h2.output, fun b hb _ => h2.frame b hb (hno b), fun _ _ h => h, fun _ _ h => .inl h, fun _ _ _ => rfl, fun _ _ _ => rfl, Nat.le_refl _⟩, ?_⟩
  · rw [h2.frame L.b ((hW.dom i L hi).2 (by rw [hB]; simp)) (hno _)]
    exact hW.blk i L B hi hB
  · rw [h3.flat_eq hv]; exact .flat e hv
theorem Sl.ld0 {b : Nat} {σ : St} {a : Option Addr} {n : Nat} {l : List α} (h : SD E b σ a n l) {k : Nat} {x : α} (hx : l[k]? = some x) (c : Nat) {v : Value} (hv : (E.enc x)[0]? = some v) (f : Value → R) :
    atT (SL a n c) (k : Int) sz (fun i o => AM.ld1 σ.heap i o f) = f v := h.ld1 hx c (off := fun o => o) (j := 0) (fun _ => rfl) hv f
theorem eq_last (p : Bool) : bc p (some true) (some false) = some p := by cases p <;> rfl
theorem eq_more (p q : Bool) : bc p (some q) (some false) = some (p && q) := by cases p <;> rfl
theorem eq2_ok (a b c d : Int) : (om (bc (eqI a c) (bc (eqI b d) (some true) (some false)) (some false)) fun r => Value.bool r) = some (BL (decide (a = c ∧ b = d))) := by
  rw [eq_last, eq_more, eqI_eq, eqI_eq, om_some]; by_cases h : a = c <;> by_cases h' : b = d <;> simp [h, h']
theorem ne2_ok (a b c d : Int) : (om (bc (eqI a c) (bc (eqI b d) (some true) (some false)) (some false)) fun r => Value.bool (!r)) = some (BL (decide (¬ (a = c ∧ b = d)))) := by
  rw [eq_last, eq_more, eqI_eq, eqI_eq, om_some]; by_cases h : a = c <;> by_cases h' : b = d <;> simp [h, h']
/-- Any block is laid anew. -/
noncomputable def putSt (σ : St) (i : Nat) (B : Blk) : St := { σ with heap := σ.heap.put i B, low := bc (Nat.ble i σ.low) i σ.low }
theorem ps_next (σ : St) (i : Nat) (B : Blk) : (putSt σ i B).next = σ.next := rfl
theorem ps_wall (σ : St) (i : Nat) (B : Blk) : (putSt σ i B).wall = σ.wall := rfl
theorem ps_low (σ : St) (i : Nat) (B : Blk) : (putSt σ i B).low = min i σ.low := low_eq i σ.low
theorem ps_get (σ : St) (i : Nat) (B : Blk) (j : Nat) : (putSt σ i B).heap.get j = if i = j then some B else σ.heap.get j := get_put _ _ _ _
theorem keep_ps {b i : Nat} {σ : St} {B : Blk} (h : b ≤ i) : Keep b σ (putSt σ i B) := ⟨Nat.le_refl _, rfl, by rw [ps_low]; omega, fun j hj => by rw [ps_get, if_neg (by omega)]⟩
theorem setBlk_ok {σ : St} {i : Nat} {B : Blk} (h : σ.wall ≤ i) : setBlk σ i B = some (putSt σ i B) := by
  unfold setBlk; rw [show Nat.ble σ.wall i = true by rw [Nat.ble_eq]; exact h]; rfl
theorem round_start {σ : St} {L : Nat} {lb : LoopB} {f : St → R} (hL : σ.heap.get L = some lb.blk) (hr : lb.st = .ready) (hw : σ.wall ≤ L) :
    (ob (σ.heap.get L) fun b => ob (bLoop b) fun q => bc (isReady q.st) (ob (setBlk σ L ({ q with st := .busy } : LoopB).blk) f) none) = f (putSt σ L ({ lb with st := .busy } : LoopB).blk) := by
  rw [hL]
  show bc (isReady lb.st) (ob (setBlk σ L ({ lb with st := .busy } : LoopB).blk) f) none = _
  rw [hr, setBlk_ok hw]; rfl
theorem round_end {σ : St} {L k : Nat} {rnd : Option Nat} {ds : List Nat} {vs : List Value} {lb : LoopB} (hL : σ.heap.get L = some lb.blk) (hw : σ.wall ≤ L) :
    endRoundA L .normal (FR' P k rnd ds σ vs) = some (.val (.bool true) (putSt σ L ({ lb with st := .ready, pend := none } : LoopB).blk)) := by
  show (ob (σ.heap.get L) fun b => ob (bLoop b) fun lb => om (setBlk σ L ({ lb with st := .ready, pend := none } : LoopB).blk) fun σ => Res.val (.bool true) σ) = _
  rw [hL]
  show om (setBlk σ L ({ lb with st := .ready, pend := none } : LoopB).blk) (fun σ => Res.val (.bool true) σ) = _
  rw [setBlk_ok hw]; rfl
theorem ret_own {σ0 σ : St} {a : Option Addr} {n : Nat} {l : List α} {v : Value} (hin : In σ0 σ) (ho : Own E σ0.next σ a n l) (hv : isFlat v = true → a = none) : ∃ σ', retT σ0 v σ = some (.val v σ') ∧ Ext σ0 σ' ∧ Own E σ0.next σ' a n l := by
  cases hf : isFlat v with
  | true =>
    obtain ⟨h1, h2⟩ := ho
    rcases h2 with ⟨rfl, rfl⟩ | ⟨i, rfl, _⟩
    · exact ⟨σ0, retT_flat hf hin.lo, Ext.refl _, ⟨h1, .inl ⟨rfl, rfl⟩⟩⟩
    · cases hv hf
  | false =>
    obtain ⟨h1, h2⟩ := ho
    refine ⟨{ σ with low := σ0.low }, retT_new hf hin.lo, hin.ext, ⟨h1, h2⟩⟩
/-- A copy in memory of its own. -/
theorem copy_ok {b : Nat} {σ : St} {a : Option Addr} {n c by' : Nat} {l : List α} (h : SD E b σ a n l) (hbn : b ≤ σ.next) (hb : n * (by' + 1) ≤ 2 ^ 46) :
    ∃ a' c' σ', (∀ f : Option Addr → Nat → Nat → St → R, (newZ sz [] σ fun σ2 => appT sz by' (SL (some ⟨σ.next, 0, none⟩) 0 1) (SL a n c) σ2 f) = f a' n c' σ') ∧ Own E σ.next σ' a' n l ∧ Ext σ σ' ∧ (∃ i, a' = some ⟨i, 0, none⟩) := by
  have hlen := h.n_eq
  have hs : ∃ p, vSlice (SL a n c) = some ⟨p, n, c⟩ ∧ (a = none → p = none) ∧ ∀ i o, a = some ⟨i, o, none⟩ → p = some (i, o) := by
    rcases h.ok with rfl | ⟨i, o, rfl⟩
    · exact ⟨none, rfl, fun _ => rfl, fun _ _ h => (by cases h)⟩
    · exact ⟨some (i, o), rfl, fun h => (by cases h), fun _ _ h => (by cases h; rfl)⟩
  obtain ⟨p, hp, _, _⟩ := hs
  have hg : ∀ j, j < b → (newBlk σ (.cells false sz [])).heap.get j = σ.heap.get j := fun j hj => by rw [nb_get, if_neg (by omega)]
  have hsl : srcLen (SL a n c) = some n := by unfold srcLen; rw [hp]; rfl
  cases n with
  | zero =>
    have hl : l = [] := by cases l with | nil => rfl | cons => simp at hlen
    subst hl
    refine ⟨some ⟨σ.next, 0, none⟩, 1, newBlk σ (.cells false sz []), fun f => ?_, ⟨rfl, .inr ⟨σ.next, rfl, Nat.le_refl _, Nat.lt_succ_self _, by rw [nb_get, if_pos rfl]; rfl⟩⟩, ext_new _ _, _, rfl⟩
    show appT sz by' (SL (some ⟨σ.next, 0, none⟩) 0 1) (SL a 0 c) (newBlk σ (.cells false sz [])) f = _
    unfold appT appS
    rw [hsl]; rfl
  | succ n =>
    rcases h.rd with h0 | ⟨i, o, r, z, bs, rfl, h2, h3, h4, h5⟩
    · omega
    · have hsrc : srcCells sz (n + 1) (SL (some ⟨i, o, none⟩) (n + 1) c) (newBlk σ (.cells false sz [])).heap = some (flat E l) := by
        show readAt _ i o ((n + 1) * sz) = _
        rw [readAt_cells (by rw [hg i h2]; exact h3) h4, h5]
      refine ⟨some ⟨σ.next + 1, 0, none⟩, 0, newBlk (newBlk σ (.cells false sz [])) (.cells false sz (flat E l)), fun f => ?_, ⟨hlen, .inr ⟨σ.next + 1, rfl, by omega, Nat.lt_succ_self _, by rw [nb_get]; exact if_pos rfl⟩⟩, (ext_new _ _).trans (ext_new _ _), _, rfl⟩
      show appT sz by' (SL (some ⟨σ.next, 0, none⟩) 0 1) (SL (some ⟨i, o, none⟩) (n + 1) c) (newBlk σ (.cells false sz [])) f = _
      unfold appT appS
      show ob (ob (srcCells sz (n + 1) (SL (some ⟨i, o, none⟩) (n + 1) c) (newBlk σ (.cells false sz [])).heap) fun new => appendTo sz by' ⟨some (σ.next, 0), 0, 1⟩ new (n + 1) (newBlk σ (.cells false sz []))) _ = _
      rw [hsrc]
      show ob (appendTo sz by' ⟨some (σ.next, 0), 0, 1⟩ (flat E l) (n + 1) (newBlk σ (.cells false sz []))) _ = _
      have c1 : Nat.ble ((0 + (n + 1)) * (by' + 1)) (2 ^ 46) = true := by rw [Nat.ble_eq, Nat.zero_add]; exact hb
      have c2 : Nat.ble 1 sz = true := by rw [Nat.ble_eq]; exact E.pos
      have c3 : Nat.beq (flat E l).length ((n + 1) * sz) = true := by rw [Nat.beq_eq, flat_len, hlen]
      unfold appendTo
      rw [c1, c2, flat_one, c3]
      have c4 : readAt (newBlk σ (.cells false sz [])).heap σ.next 0 (0 * sz) = some [] := by rw [Nat.zero_mul]; rfl
      show ob (ob (readAt (newBlk σ (.cells false sz [])).heap σ.next 0 (0 * sz)) fun old => some (freshRow sz (0 + (n + 1)) (old ++ flat E l) (newBlk σ (.cells false sz [])))) _ = _
      rw [c4]
      show f (some ⟨σ.next + 1, 0, none⟩) (0 + (n + 1)) 0 _ = _
      rw [Nat.zero_add]; rfl
/-- The first elements of a slice of one's own. -/
theorem Own.cut {b : Nat} {σ : St} {i n : Nat} {l : List α} {t e : TypeId} {by' : Nat} {z : List Value} (h : Own E b σ (some ⟨i, 0, none⟩) n l) (ht : sliceT P t = some ⟨e, sz, by', z⟩) (h1 : isStringT P t = false) (h2 : arrayT P t = none) {k : Nat} (hk : k ≤ n) :
    sliceA P σ.heap t (SL (some ⟨i, 0, none⟩) n 0) none (some (I64 k)) none = some (SL (some ⟨i, 0, none⟩) k 0) ∧ SD E σ.next σ (some ⟨i, 0, none⟩) k (l.take k) := by
  obtain ⟨rfl, h⟩ := h
  rcases h with ⟨h, _⟩ | ⟨i', hi, h3, h4, h5⟩
  · cases h
  · cases hi
    refine ⟨?_, by rw [flat_len, List.length_take, Nat.min_eq_left hk], .inr ⟨_, _, rfl⟩, .inr ⟨i, 0, false, sz, flat E l, rfl, h4, h5, ?_, ?_⟩⟩
    · unfold sliceA
      rw [h1, h2, ht]
      show sliceSl σ.heap sz ⟨some (i, 0), l.length, 0⟩ none (some (I64 k)) none = _
      show bc (sameZ σ.heap i sz) (ob (ob (vInt (I64 k)) fun q => natUpto q.2 l.length) fun hh => ob (some 0) fun ll => some (Value.slice (some ⟨i, 0 + ll * sz, none⟩) (hh - ll) 0)) none = _
      have hz : sameZ σ.heap i sz = true := by
        unfold sameZ; rw [h5]
        show Nat.beq sz sz = true
        rw [Nat.beq_eq]
      rw [hz]
      show ob (natUpto (k : Int) l.length) _ = _
      rw [natUpto_eq.2 ⟨rfl, hk⟩]
      show some (Value.slice (some ⟨i, 0 + 0 * sz, none⟩) (k - 0) 0) = _
      rw [Nat.zero_mul]; rfl
    · rw [flat_len]; have := Nat.mul_le_mul_right sz hk; omega
    · rw [List.drop_zero]
      have e : l = l.take k ++ l.drop k := (List.take_append_drop k l).symm
      have h6 : flat E l = flat E (l.take k) ++ flat E (l.drop k) := by rw [← flat_append, List.take_append_drop]
      rw [h6, List.take_append_of_le_length (by rw [flat_len, List.length_take, Nat.min_eq_left hk]; omega), List.take_of_length_le (by rw [flat_len, List.length_take, Nat.min_eq_left hk]; omega)]
/-- A call that the table knows. -/
theorem tab_call {k : FuncId} {args : List Value} {σ σ' : St} {v : Value} {Γ : Tab} (h : Γ k args σ = some (v, σ')) : run P Γ (.call k args σ) = some (.val v σ') := by
  rw [run_step]
  show doCall P Γ (run P Γ) k args σ = _
  unfold doCall; rw [h]; rfl
theorem zeros_int (n : Nat) : zerosA [I64 0] n = flat eI (List.replicate n 0) := by
  unfold zerosA
  apply List.ext_getElem?
  intro i
  have h1 : flat eI (List.replicate n (0 : Int)) = List.replicate n (I64 0) := by
    induction n with
    | zero => rfl
    | succ n ih => rw [List.replicate_succ, flat_cons, ih]; rfl
  rw [h1, List.getElem?_map, List.getElem?_replicate, List.length_singleton, Nat.mul_one]
  by_cases h : i < n
  · rw [List.getElem?_range h, if_pos h]; simp [Nat.mod_one]
  · rw [List.getElem?_eq_none (by simpa using h), if_neg h]; rfl
theorem make_ints {t : TypeId} {e : TypeId} {σ : St} {n : Int} (ht : sliceT P t = some ⟨e, 1, 8, [I64 0]⟩) (h0 : 0 ≤ n) (h1 : n ≤ 1000000) :
    makeSliceA P t (I64 n) (I64 n) σ = some (SL (some ⟨σ.next, 0, none⟩) n.toNat (n.toNat + 1), newBlk σ (.cells false 1 (flat eI (List.replicate n.toNat 0)))) := by
  unfold makeSliceA
  rw [ht]
  show (if 0 ≤ n ∧ n ≤ n ∧ ((8 : Nat) : Int) * n ≤ 2 ^ 47 ∧ n < 2 ^ 62 ∧ [I64 0].length = 1 then _ else _) = _
  rw [if_pos ⟨h0, Int.le_refl _, by omega, by omega, rfl⟩, zeros_int]; rfl
/-- The blocks for deferred calls go. -/
theorem drop_ok {b : Nat} : ∀ (ds : List Nat) (σ : St), ds.Nodup → (∀ d, d ∈ ds → b ≤ d ∧ σ.heap.get d = some .defer) → σ.wall ≤ b → ∃ σ', dropDs ds σ = some σ' ∧ Keep b σ σ' ∧ σ'.next = σ.next := by
  intro ds
  induction ds with
  | nil => intro σ _ _ _; exact ⟨σ, rfl, Keep.refl _ _, rfl⟩
  | cons d ds ih =>
    intro σ hn hd hw
    obtain ⟨h1, h2⟩ := hd d (List.mem_cons_self ..)
    obtain ⟨hn1, hn2⟩ := List.nodup_cons.1 hn
    let σ1 : St := { σ with heap := σ.heap.del d, low := bc (Nat.ble d σ.low) d σ.low }
    have hg : ∀ j, σ1.heap.get j = if d = j then none else σ.heap.get j := fun j => get_del _ _ _
    obtain ⟨σ', h3, h4, h5⟩ := ih σ1 hn2 (fun e he => ⟨(hd e (List.mem_cons_of_mem _ he)).1, by rw [hg, if_neg (by rintro rfl; exact hn1 he)]; exact (hd e (List.mem_cons_of_mem _ he)).2⟩) hw
    refine ⟨σ', ?_, Keep.trans (σ1 := σ1) ⟨Nat.le_refl _, rfl, by show min b σ.low ≤ bc (Nat.ble d σ.low) d σ.low; rw [low_eq]; omega, fun j hj => by rw [hg, if_neg (by omega)]⟩ h4, h5⟩
    show ob (σ.heap.get d) _ = _
    rw [h2]
    show bc (Nat.ble σ.wall d) (dropDs ds σ1) none = _
    rw [show Nat.ble σ.wall d = true by rw [Nat.ble_eq]; omega]
    exact h3
theorem leave_ok {σ : St} {L : Nat} {lb : LoopB} (hL : σ.heap.get L = some lb.blk) (hr : lb.st = .ready) (hw : σ.wall ≤ L) : leaveA L σ = some (lb.pend, putSt σ L ({ lb with st := .exhausted } : LoopB).blk) := by
  unfold leaveA
  rw [hL]
  show bc (notBusy lb.st) (om (setBlk σ L ({ lb with st := .exhausted } : LoopB).blk) fun s => (lb.pend, s)) none = _
  rw [hr, setBlk_ok hw]; rfl
theorem retT_low {σ0 σ1 : St} {v : Value} (hl : ¬ σ0.next ≤ σ1.low) : retT σ0 v σ1 = some (.val v { σ1 with low := min σ0.low σ1.low }) := by
  unfold retT afterA
  rw [bc_eq, if_neg (by rw [Nat.ble_eq]; exact hl), low_eq]
/-- A new slice is handed back. -/
theorem ret_new {σ0 σ : St} {a : Option Addr} {n c : Nat} {l : List α} (hin : In σ0 σ) (ho : Own E σ0.next σ a n l) (hc : a = none → c = 0) : ∃ σ', retT σ0 (SL a n c) σ = some (.val (SL a n c) σ') ∧ Ext σ0 σ' ∧ Own E σ0.next σ' a n l := by
  obtain ⟨h1, h2⟩ := ho
  rcases h2 with ⟨rfl, rfl⟩ | ⟨i, rfl, h3, h4, h5⟩
  · rw [hc rfl]
    subst h1
    exact ⟨σ0, retT_flat rfl hin.lo, Ext.refl _, ⟨rfl, .inl ⟨rfl, rfl⟩⟩⟩
  · exact ⟨{ σ with low := σ0.low }, retT_new rfl hin.lo, hin.ext, ⟨h1, .inr ⟨i, rfl, h3, h4, h5⟩⟩⟩
/-- Behind a loop. -/
theorem eq_loopT {c : Code} {kept : Kept} {fr : Fr} {K : KX} {r' : Res} (h : Wp (rec (.loop c kept fr)) fun r => ∃ e fr', r = .ex e fr' ∧ K e fr' = some r') : loopT rec c kept fr K = some r' := by
  obtain ⟨r, h1, e, fr', rfl, h2⟩ := h
  unfold loopT; rw [h1]; exact h2
theorem lp_loopT {c : Code} {kept : Kept} {fr : Fr} {K : KX} {Q : Res → Prop} (h : Wp (rec (.loop c kept fr)) fun r => ∃ e fr', r = .ex e fr' ∧ Wp (K e fr') Q) : Wp (loopT rec c kept fr K) Q := by
  obtain ⟨r, h1, e, fr', rfl, h2⟩ := h
  unfold loopT; rw [h1]; exact h2
theorem wp_eq {x y : R} {Q : Res → Prop} (e : x = y) (h : Wp y Q) : Wp x Q := e ▸ h
theorem get_some {β : Type} {l : List β} {k : Nat} (h : k < l.length) : l[k]? = some l[k] := List.getElem?_eq_getElem h
theorem splice_all (cs vs : List Value) (h : vs.length = cs.length) : splice cs 0 vs = vs := by
  apply List.ext_getElem?
  intro j
  rw [splice_get _ _ _ _ (by omega)]
  by_cases hj : j < vs.length
  · rw [if_pos ⟨Nat.zero_le _, by omega⟩, Nat.sub_zero]
  · rw [if_neg (by omega), List.getElem?_eq_none (by omega), List.getElem?_eq_none (by omega)]
/-- A variable of one's own in a box. -/
noncomputable def vbox (σ : St) (zs vs : List Value) : St := wrSt (newBlk σ (.cells false 0 zs)) σ.next 0 vs
theorem var_eq {σ : St} {zs vs : List Value} (h1 : allOne zs = true) (h2 : allOne vs = true) (hl : vs.length = zs.length) (h0 : vs ≠ []) (hw : σ.wall ≤ σ.next) (f : St → R) : (newC zs σ fun σ1 => wrT σ1 σ.next 0 vs f) = f (vbox σ zs vs) := by
  rw [newC_ok h1, (Bx.new σ zs).wr hw (by omega) h2 h0, splice_all _ _ hl]; rfl
theorem vb_next (σ : St) (zs vs : List Value) : (vbox σ zs vs).next = σ.next + 1 := rfl
theorem vb_wall (σ : St) (zs vs : List Value) : (vbox σ zs vs).wall = σ.wall := rfl
theorem vb_bx (σ : St) (zs vs : List Value) : Bx (vbox σ zs vs) σ.next vs := Bx.wrote (Nat.lt_succ_self _) vs
theorem vb_old (σ : St) (zs vs : List Value) (j : Nat) (h : j ≠ σ.next) : (vbox σ zs vs).heap.get j = σ.heap.get j := by
  unfold vbox; rw [ws_get, if_neg (fun e => h e.symm), nb_get, if_neg (fun e => h e.symm)]
theorem vb_keep (σ : St) (zs vs : List Value) {b : Nat} (h : b ≤ σ.next) : Keep b σ (vbox σ zs vs) := ((ext_new σ _).keep h).trans (keep_wr h)
theorem In.var {σ0 σ : St} (h : In σ0 σ) (zs vs : List Value) : In σ0 (vbox σ zs vs) := h.trans (vb_keep σ zs vs h.nx)
theorem In.wl {σ0 σ : St} (h : In σ0 σ) (hw : σ0.wall ≤ σ0.next) : σ.wall ≤ σ.next := by rw [h.wall]; exact Nat.le_trans hw h.nx
theorem In.box {σ0 σ : St} (h : In σ0 σ) (B : Blk) : In σ0 (newBlk σ B) := h.step (ext_new σ B)
theorem callV_f0 (k : FuncId) (b args : List Value) (σ : St) (f : KT) : callV rec (FV (.func k) ⟨[]⟩ ⟨b⟩) args σ f = callT rec k (args ++ b) σ f := rfl
theorem sd_lit (E : Enc α sz) (σ : St) (l : List α) : SD E (σ.next + 1) (newBlk σ (.cells false sz (flat E l))) (some ⟨σ.next, 0, none⟩) l.length l := sl_lit (flat_len l)
end Go.AM
