/- Laws for going through printed terms: numbers, values, memory, calls, loops. -/
import Derived.Test.YtfmpoodienmieaaAm36
namespace Go.AM
variable {P : Program} {rec : Rec}
/-! ### Numbers -/
theorem wrap_id {n : Int} (h1 : -9223372036854775808 ≤ n) (h2 : n ≤ 9223372036854775807) : IntKind.wrap .i64 n = n := by
  unfold IntKind.wrap
  have e1 : IntKind.i64.bits = 64 := rfl
  have e2 : IntKind.i64.signed = true := rfl
  simp only [e1, e2, Bool.true_and, decide_eq_true_eq]
  split <;> omega
theorem wrap64_id {n : Int} (h1 : -9223372036854775808 ≤ n) (h2 : n ≤ 9223372036854775807) : wrap64I n = n := by
  cases n with
  | ofNat m =>
    show bc (Nat.ble m 9223372036854775807) (Int.ofNat m) (IntKind.wrap .i64 (Int.ofNat m)) = _
    rw [bc_eq, if_pos (by rw [Nat.ble_eq]; have : (Int.ofNat m) = (m : Int) := rfl; omega)]
  | negSucc m =>
    show bc (Nat.ble m 9223372036854775807) (Int.negSucc m) (IntKind.wrap .i64 (Int.negSucc m)) = _
    rw [bc_eq, if_pos (by rw [Nat.ble_eq]; omega)]
theorem wrapI_id {n : Int} (h1 : -9223372036854775808 ≤ n) (h2 : n ≤ 9223372036854775807) : wrapI .i64 n = n := wrap64_id h1 h2
theorem zop_eq (x : Int) (f : Int → R) : zop x f = f x := rfl
theorem zadd_ok {x y : Int} {f : Int → R} (h : -9223372036854775808 ≤ x + y ∧ x + y ≤ 9223372036854775807) : zadd x y f = f (x + y) := by
  show f (wrap64I (x + y)) = _; rw [wrap64_id h.1 h.2]
theorem zsub_ok {x y : Int} {f : Int → R} (h : -9223372036854775808 ≤ x - y ∧ x - y ≤ 9223372036854775807) : zsub x y f = f (x - y) := by
  show f (wrap64I (x - y)) = _; rw [wrap64_id h.1 h.2]
theorem zmul_ok {x y : Int} {f : Int → R} (h : -9223372036854775808 ≤ x * y ∧ x * y ≤ 9223372036854775807) : zmul x y f = f (x * y) := by
  show f (wrap64I (x * y)) = _; rw [wrap64_id h.1 h.2]
theorem zquo_ok {x y : Int} {f : Int → R} (hy : y ≠ 0) (h : -9223372036854775808 ≤ x.tdiv y ∧ x.tdiv y ≤ 9223372036854775807) : zquo x y f = f (x.tdiv y) := by
  unfold zquo
  have : eqI y 0 = false := by rw [eqI_eq]; simpa using hy
  rw [this, wrap64_id h.1 h.2]; rfl
theorem zrem_ok {x y : Int} {f : Int → R} (hy : y ≠ 0) : zrem x y f = f (x.tmod y) := by
  unfold zrem
  have : eqI y 0 = false := by rw [eqI_eq]; simpa using hy
  rw [this]; rfl
theorem wrap_neg {x : Int} (h : -9223372036854775808 < x ∧ x ≤ 9223372036854775808) : IntKind.wrap .i64 (0 - x) = -x := by
  rw [wrap_id (by omega) (by omega)]; omega

/-! ### Values taken apart (all by computation) -/
theorem reS_eq (σ : St) (f : St → R) : reS σ f = f σ := rfl
theorem asI_eq (n : Int) (f : Int → R) : asI .i64 (I64 n) f = f n := rfl
theorem asI8_eq (n : Int) (f : Int → R) : asI .u8 (.int .u8 n) f = f n := rfl
theorem asIu_eq (n : Int) (f : Int → R) : asI .u64 (.int .u64 n) f = f n := rfl
theorem asB_eq (b : Bool) (f : Bool → R) : asB (BL b) f = f b := rfl
theorem asS_eq (s : ByteArray) (f : ByteArray → R) : asS (SR s) f = f s := rfl
theorem asP_eq (i o : Nat) (f : Nat → Nat → R) : asP (PT i o) f = f i o := rfl
theorem asA_eq (l : List Value) (f : List Value → R) : asA (AG l) f = f l := rfl
theorem asT_eq (l : List Value) (f : List Value → R) : asT (TU l) f = f l := rfl
theorem asL_eq (a : Option Addr) (n c : Nat) (f : Option Addr → Nat → Nat → R) : asL (SL a n c) f = f a n c := rfl
theorem asM_eq (r : Option Nat) (f : Option Nat → R) : asM (MP r) f = f r := rfl
theorem asF_eq (k : FuncId) (a b : List Value) (f : Fn → Array Value → Array Value → R) : asF (FN k a b) f = f (.func k) ⟨a⟩ ⟨b⟩ := rfl
theorem asF_eqV (g : Fn) (a b : Array Value) (f : Fn → Array Value → Array Value → R) : asF (FV g a b) f = f g a b := rfl
theorem hdI_eq (n : Int) (r : List Value) (f : Int → List Value → R) : hdI .i64 (I64 n :: r) f = f n r := rfl
theorem hdI8_eq (n : Int) (r : List Value) (f : Int → List Value → R) : hdI .u8 (.int .u8 n :: r) f = f n r := rfl
theorem hdIu_eq (n : Int) (r : List Value) (f : Int → List Value → R) : hdI .u64 (.int .u64 n :: r) f = f n r := rfl
theorem hdB_eq (b : Bool) (r : List Value) (f : Bool → List Value → R) : hdB (BL b :: r) f = f b r := rfl
theorem hdS_eq (b : ByteArray) (r : List Value) (f : ByteArray → List Value → R) : hdS (SR b :: r) f = f b r := rfl
theorem hdP_eq (i o : Nat) (r : List Value) (f : Nat → Nat → List Value → R) : hdP (PT i o :: r) f = f i o r := rfl
theorem hdL_eq (a : Option Addr) (n c : Nat) (r : List Value) (f : Option Addr → Nat → Nat → List Value → R) : hdL (SL a n c :: r) f = f a n c r := rfl
theorem hdM_eq (a : Option Nat) (r : List Value) (f : Option Nat → List Value → R) : hdM (MP a :: r) f = f a r := rfl
theorem hdA_eq (l r : List Value) (f : List Value → List Value → R) : hdA (AG l :: r) f = f l r := rfl
theorem nl_eq (x : R) : nl [] x = x := rfl
theorem bcT (x y : R) : bc true x y = x := rfl
theorem bcF (x y : R) : bc false x y = y := rfl
theorem bc_leI (a b : Int) (x y : R) : bc (leI a b) x y = if a ≤ b then x else y := by rw [leI_eq, bc_eq]; simp
theorem bc_ltI (a b : Int) (x y : R) : bc (ltI a b) x y = if a < b then x else y := by rw [ltI_eq, bc_eq]; simp
theorem bc_eqI (a b : Int) (x y : R) : bc (eqI a b) x y = if a = b then x else y := by rw [eqI_eq, bc_eq]; simp
theorem bc_neI (a b : Int) (x y : R) : bc (bc (eqI a b) false true) x y = if a = b then y else x := by rw [eqI_eq]; by_cases h : a = b <;> simp [h, bc_eq]
theorem bc_not (b : Bool) (x y : R) : bc (!b) x y = bc b y x := by cases b <;> rfl
theorem bc_if (b : Bool) (x y : R) : bc b x y = if b = true then x else y := bc_eq b x y
theorem bc_dec (p : Prop) [Decidable p] (x y : R) : bc (decide p) x y = if p then x else y := by rw [bc_eq]; simp
theorem neI_eq (a b : Int) : (bc (eqI a b) false true) = decide (a ≠ b) := by rw [eqI_eq]; by_cases h : a = b <;> simp [h, bc_eq]

/-! ### Memory -/
theorem nb_next (σ : St) (b : Blk) : (newBlk σ b).next = σ.next + 1 := rfl
theorem nb_wall (σ : St) (b : Blk) : (newBlk σ b).wall = σ.wall := rfl
theorem nb_low (σ : St) (b : Blk) : (newBlk σ b).low = σ.low := rfl
theorem nb_get (σ : St) (b : Blk) (i : Nat) : (newBlk σ b).heap.get i = if σ.next = i then some b else σ.heap.get i := get_put _ _ _ _
theorem wu_next (σ : St) : (wallUp σ).next = σ.next := rfl
theorem wu_low (σ : St) : (wallUp σ).low = σ.low := rfl
theorem wu_wall (σ : St) : (wallUp σ).wall = σ.next := rfl
theorem wu_heap (σ : St) : (wallUp σ).heap = σ.heap := rfl
theorem wt_next (w : Nat) (σ : St) : (wallTo w σ).next = σ.next := rfl
theorem wt_low (w : Nat) (σ : St) : (wallTo w σ).low = σ.low := rfl
theorem wt_wall (w : Nat) (σ : St) : (wallTo w σ).wall = w := rfl
theorem wt_heap (w : Nat) (σ : St) : (wallTo w σ).heap = σ.heap := rfl
theorem wt_up (σ : St) : wallTo σ.wall (wallUp σ) = σ := rfl
theorem wt_nb (σ : St) (b : Blk) : wallTo σ.wall (newBlk (wallUp σ) b) = newBlk σ b := rfl
theorem readAt_cells {h : Tr Blk} {i o n : Nat} {r : Bool} {z : Nat} {cs : List Value} (hg : h.get i = some (.cells r z cs)) (hl : o + n ≤ cs.length) : readAt h i o n = some ((cs.drop o).take n) := by
  unfold readAt
  rw [bc_eq]
  split
  · rename_i h0
    have : n = 0 := by simpa using h0
    subst this; simp
  · rw [hg]
    show bc (Nat.ble (o + n) cs.length) (some (takeL n (dropL o cs))) none = _
    rw [bc_eq, if_pos (by rw [Nat.ble_eq]; exact hl), takeL_eq, dropL_eq]
theorem ldN_cells {h : Tr Blk} {i o n : Nat} {r : Bool} {z : Nat} {cs : List Value} {f : List Value → R} (hg : h.get i = some (.cells r z cs)) (hl : o + n ≤ cs.length) : ldN h i o n f = f ((cs.drop o).take n) := by
  unfold ldN; rw [readAt_cells hg hl]; rfl
theorem ld1_cells {h : Tr Blk} {i o : Nat} {r : Bool} {z : Nat} {cs : List Value} {v : Value} {f : Value → R} (hg : h.get i = some (.cells r z cs)) (hl : cs[o]? = some v) : ld1 h i o f = f v := by
  have hlt : o < cs.length := by
    rcases Nat.lt_or_ge o cs.length with h | h
    · exact h
    · rw [List.getElem?_eq_none h] at hl; cases hl
  unfold ld1
  rw [readAt_cells hg (by show o + 1 ≤ _; omega)]
  have : cs.drop o = v :: cs.drop (o + 1) := by
    rw [List.drop_eq_getElem_cons hlt]
    rw [List.getElem?_eq_getElem hlt] at hl
    cases hl; rfl
  rw [this]; rfl
theorem writeAt_cells {σ : St} {i o z : Nat} {cs vs : List Value} (hg : σ.heap.get i = some (.cells false z cs)) (hw : σ.wall ≤ i) (hl : o + vs.length ≤ cs.length) (h1 : allOne vs = true) (h0 : vs ≠ []) :
    writeAt σ i o vs = some { σ with heap := σ.heap.put i (.cells false z (splice cs o vs)), low := bc (Nat.ble i σ.low) i σ.low } := by
  unfold writeAt
  have : Nat.beq vs.length 0 = false := by
    cases vs with
    | nil => exact absurd rfl h0
    | cons => rfl
  rw [this]
  show ob (σ.heap.get i) _ = _
  rw [hg]
  show bc false none (bc (Nat.ble σ.wall i) (bc (Nat.ble (o + vs.length) cs.length) (bc (allOne vs) _ none) none) none) = _
  rw [h1, show Nat.ble σ.wall i = true by rw [Nat.ble_eq]; exact hw, show Nat.ble (o + vs.length) cs.length = true by rw [Nat.ble_eq]; exact hl]
  rfl
/-- What a state has kept of one before it: all blocks below a number. -/
structure Keep (b : Nat) (σ σ' : St) : Prop where
  next : σ.next ≤ σ'.next
  wall : σ'.wall = σ.wall
  low : min b σ.low ≤ σ'.low
  old : ∀ i, i < b → σ'.heap.get i = σ.heap.get i
theorem Keep.refl (b : Nat) (σ : St) : Keep b σ σ := ⟨Nat.le_refl _, rfl, Nat.min_le_right _ _, fun _ _ => rfl⟩
theorem Keep.trans {b : Nat} {σ σ1 σ2 : St} (h : Keep b σ σ1) (k : Keep b σ1 σ2) : Keep b σ σ2 :=
  ⟨Nat.le_trans h.next k.next, k.wall.trans h.wall, Nat.le_trans (Nat.le_min.2 ⟨Nat.min_le_left _ _, h.low⟩) k.low, fun i hi => (k.old i hi).trans (h.old i hi)⟩
theorem Keep.weak {b b' : Nat} {σ σ' : St} (h : Keep b σ σ') (hb : b' ≤ b) : Keep b' σ σ' :=
  ⟨h.next, h.wall, Nat.le_trans (by omega) h.low, fun i hi => h.old i (by omega)⟩
/-- Nothing that was there has changed. -/
structure Ext (σ σ' : St) : Prop where
  next : σ.next ≤ σ'.next
  wall : σ'.wall = σ.wall
  low : σ'.low = σ.low
  old : ∀ i, i < σ.next → σ'.heap.get i = σ.heap.get i
theorem Ext.refl (σ : St) : Ext σ σ := ⟨Nat.le_refl _, rfl, rfl, fun _ _ => rfl⟩
theorem Ext.trans {σ σ1 σ2 : St} (h : Ext σ σ1) (k : Ext σ1 σ2) : Ext σ σ2 :=
  ⟨Nat.le_trans h.next k.next, k.wall.trans h.wall, k.low.trans h.low, fun i hi => (k.old i (Nat.lt_of_lt_of_le hi h.next)).trans (h.old i hi)⟩
theorem Ext.keep {σ σ' : St} (h : Ext σ σ') {b : Nat} (hb : b ≤ σ.next) : Keep b σ σ' := ⟨h.next, h.wall, by rw [h.low]; exact Nat.min_le_right _ _, fun i hi => h.old i (by omega)⟩
theorem ext_new (σ : St) (B : Blk) : Ext σ (newBlk σ B) := ⟨Nat.le_succ _, rfl, rfl, fun i hi => by rw [nb_get, if_neg (by omega)]⟩
theorem ext_up {σ σ' : St} (h : Ext (wallUp σ) σ') : Ext σ (wallTo σ.wall σ') := ⟨h.next, rfl, h.low, h.old⟩
theorem retT_flat {σ0 σ1 : St} {v : Value} (hf : isFlat v = true) (hl : σ0.next ≤ σ1.low) : retT σ0 v σ1 = some (.val v σ0) := by
  unfold retT afterA
  rw [bc_eq, if_pos (by rw [Nat.ble_eq]; exact hl), hf]; rfl
theorem retT_new {σ0 σ1 : St} {v : Value} (hf : isFlat v = false) (hl : σ0.next ≤ σ1.low) : retT σ0 v σ1 = some (.val v { σ1 with low := σ0.low }) := by
  unfold retT afterA
  rw [bc_eq, if_pos (by rw [Nat.ble_eq]; exact hl), hf]; rfl
theorem retT_any {σ0 σ1 : St} {v : Value} (hl : σ0.next ≤ σ1.low) : ∃ σ2, retT σ0 v σ1 = some (.val v σ2) ∧ (isFlat v = true → σ2 = σ0) ∧ (isFlat v = false → σ2 = { σ1 with low := σ0.low }) := by
  cases hf : isFlat v
  · exact ⟨_, retT_new hf hl, fun h => (by cases h), fun _ => rfl⟩
  · exact ⟨_, retT_flat hf hl, fun _ => rfl, fun h => by cases h⟩
/-- A state in a call that was entered at another one. -/
abbrev In (σ0 σ : St) : Prop := Keep σ0.next { σ0 with low := σ0.next } σ
theorem In.start (σ0 : St) : In σ0 { σ0 with low := σ0.next } := Keep.refl _ _
theorem In.lo {σ0 σ : St} (h : In σ0 σ) : σ0.next ≤ σ.low := by have := h.low; exact Nat.le_trans (Nat.le_min.2 ⟨Nat.le_refl _, Nat.le_refl _⟩) this
theorem In.nx {σ0 σ : St} (h : In σ0 σ) : σ0.next ≤ σ.next := h.next
theorem In.step {σ0 σ σ' : St} (h : In σ0 σ) (k : Ext σ σ') : In σ0 σ' := h.trans (k.keep h.next)
theorem In.ext {σ0 σ : St} (h : In σ0 σ) : Ext σ0 { σ with low := σ0.low } := ⟨h.next, h.wall, rfl, h.old⟩

/-! ### Slices -/
theorem lenT_eq (a : Option Addr) (n c : Nat) (f : Int → R) (h : a = none ∨ ∃ i o, a = some ⟨i, o, none⟩) : lenT (SL a n c) f = f n := by
  rcases h with rfl | ⟨i, o, rfl⟩ <;> rfl
/-- A slice's elements (as cells), in blocks below a number. -/
structure Sl (b : Nat) (σ : St) (a : Option Addr) (n sz : Nat) (cs : List Value) : Prop where
  len : cs.length = n * sz
  ok : a = none ∨ ∃ i o, a = some ⟨i, o, none⟩
  rd : n = 0 ∨ ∃ i o r z bs, a = some ⟨i, o, none⟩ ∧ i < b ∧ σ.heap.get i = some (.cells r z bs) ∧ o + n * sz ≤ bs.length ∧ (bs.drop o).take (n * sz) = cs
theorem Sl.keep {b : Nat} {σ σ' : St} {a : Option Addr} {n sz : Nat} {cs : List Value} (h : Sl b σ a n sz cs) (k : ∀ i, i < b → σ'.heap.get i = σ.heap.get i) : Sl b σ' a n sz cs :=
  ⟨h.len, h.ok, h.rd.imp id fun ⟨i, o, r, z, bs, h1, h2, h3, h4, h5⟩ => ⟨i, o, r, z, bs, h1, h2, by rw [k i h2]; exact h3, h4, h5⟩⟩
theorem Sl.weak {b b' : Nat} {σ : St} {a : Option Addr} {n sz : Nat} {cs : List Value} (h : Sl b σ a n sz cs) (hb : b ≤ b') : Sl b' σ a n sz cs :=
  ⟨h.len, h.ok, h.rd.imp id fun ⟨i, o, r, z, bs, h1, h2, h3, h4, h5⟩ => ⟨i, o, r, z, bs, h1, by omega, h3, h4, h5⟩⟩
theorem Sl.nil (b : Nat) (σ : St) (sz : Nat) : Sl b σ none 0 sz [] := ⟨by simp, .inl rfl, .inl rfl⟩
theorem Sl.lenT {b : Nat} {σ : St} {a : Option Addr} {n sz : Nat} {cs : List Value} (h : Sl b σ a n sz cs) (c : Nat) (f : Int → R) : lenT (SL a n c) f = f n := lenT_eq a n c f h.ok
theorem Sl.at {b : Nat} {σ : St} {a : Option Addr} {n sz : Nat} {cs : List Value} (h : Sl b σ a n sz cs) {k : Nat} (hk : k < n) (c : Nat) (f : Nat → Nat → R) :
    ∃ i o r z bs, atT (SL a n c) (k : Int) sz f = f i o ∧ i < b ∧ σ.heap.get i = some (.cells r z bs) ∧ o + sz ≤ bs.length ∧ (bs.drop o).take sz = (cs.drop (k * sz)).take sz := by
  rcases h.rd with h0 | ⟨i, o, r, z, bs, h1, h2, h3, h4, h5⟩
  · omega
  · have hm : k * sz + sz ≤ n * sz := by
      have := Nat.mul_le_mul_right sz (show k + 1 ≤ n by omega)
      rw [Nat.add_mul] at this; omega
    refine ⟨i, o + k * sz, r, z, bs, ?_, h2, h3, by omega, ?_⟩
    · subst h1
      show ob (natBelow (k : Int) n) (fun m => f i (Nat.add o (Nat.mul m sz))) = _
      rw [natBelow_eq.2 ⟨rfl, hk⟩]; rfl
    · rw [← h5, List.drop_take, List.take_take, List.drop_drop, show min sz (n * sz - k * sz) = sz by omega]
/-- How data lie in cells. -/
structure Enc (α : Type) (sz : Nat) where
  enc : α → List Value
  len : ∀ x, (enc x).length = sz
  pos : 0 < sz
  one : ∀ x, allOne (enc x) = true
abbrev eI : Enc Int 1 := ⟨fun n => [I64 n], fun _ => rfl, Nat.succ_pos _, fun _ => rfl⟩
abbrev eB : Enc Bool 1 := ⟨fun n => [BL n], fun _ => rfl, Nat.succ_pos _, fun _ => rfl⟩
abbrev eS : Enc ByteArray 1 := ⟨fun n => [SR n], fun _ => rfl, Nat.succ_pos _, fun _ => rfl⟩
abbrev eII : Enc (Int × Int) 2 := ⟨fun n => [I64 n.1, I64 n.2], fun _ => rfl, Nat.succ_pos _, fun _ => rfl⟩
variable {α : Type} {sz : Nat} {E : Enc α sz}
def flat (E : Enc α sz) (l : List α) : List Value := l.flatMap E.enc
theorem flat_nil : flat E [] = [] := rfl
theorem flat_cons (x : α) (l : List α) : flat E (x :: l) = E.enc x ++ flat E l := rfl
theorem flat_append (l m : List α) : flat E (l ++ m) = flat E l ++ flat E m := List.flatMap_append ..
theorem flat_len (l : List α) : (flat E l).length = l.length * sz := by
  induction l with
  | nil => simp [flat]
  | cons a l ih => rw [flat_cons, List.length_append, ih, E.len, List.length_cons, Nat.add_mul]; omega
theorem flat_one (l : List α) : allOne (flat E l) = true := by
  induction l with
  | nil => rfl
  | cons a l ih => rw [flat_cons, allOne_all, List.all_append, ← allOne_all, ← allOne_all, E.one, ih]; rfl
theorem flat_at : ∀ (l : List α) (k : Nat) (x : α), l[k]? = some x → ((flat E l).drop (k * sz)).take sz = E.enc x := by
  intro l
  induction l with
  | nil => intro k x h; cases h
  | cons a l ih =>
    intro k x h
    cases k with
    | zero =>
      cases h
      rw [flat_cons, Nat.zero_mul, List.drop_zero, List.take_append_of_le_length (by rw [E.len]; exact Nat.le_refl _), List.take_of_length_le (by rw [E.len]; exact Nat.le_refl _)]
    | succ k =>
      rw [List.getElem?_cons_succ] at h
      have hd : (k + 1) * sz = (E.enc a).length + k * sz := by rw [E.len, Nat.add_mul]; omega
      rw [flat_cons, hd, List.drop_append, show (E.enc a).drop ((E.enc a).length + k * sz) = [] from List.drop_of_length_le (by omega), show (E.enc a).length + k * sz - (E.enc a).length = k * sz by omega]
      exact ih k x h
theorem flat_set : ∀ (l : List α) (k : Nat) (x : α), k < l.length → splice (flat E l) (k * sz) (E.enc x) = flat E (l.set k x) := by
  intro l k x hk
  apply List.ext_getElem?
  intro j
  have hl : k * sz + (E.enc x).length ≤ (flat E l).length := by
    rw [flat_len, E.len]
    have := Nat.mul_le_mul_right sz (show k + 1 ≤ l.length by omega)
    rw [Nat.add_mul] at this; omega
  rw [splice_get _ _ _ _ hl, E.len]
  induction l generalizing k j with
  | nil => cases hk
  | cons a l ih =>
    cases k with
    | zero =>
      rw [List.set_cons_zero, flat_cons, flat_cons, Nat.zero_mul, Nat.zero_add, Nat.sub_zero]
      by_cases h : j < sz
      · rw [if_pos ⟨Nat.zero_le _, h⟩, List.getElem?_append_left (by rw [E.len]; exact h)]
      · rw [if_neg (fun e => h e.2), List.getElem?_append_right (by rw [E.len]; omega), List.getElem?_append_right (by rw [E.len]; omega), E.len, E.len]
    | succ k =>
      rw [List.set_cons_succ, flat_cons, flat_cons]
      have hk' : k < l.length := by simpa using hk
      have hl' : k * sz + (E.enc x).length ≤ (flat E l).length := by
        rw [flat_len, E.len]
        have := Nat.mul_le_mul_right sz (show k + 1 ≤ l.length by omega)
        rw [Nat.add_mul] at this; omega
      have e1 : (k + 1) * sz = k * sz + sz := by rw [Nat.add_mul]; omega
      by_cases h : j < sz
      · rw [if_neg (by omega), List.getElem?_append_left (by rw [E.len]; exact h), List.getElem?_append_left (by rw [E.len]; exact h)]
      · rw [List.getElem?_append_right (by rw [E.len]; omega), List.getElem?_append_right (by rw [E.len]; omega), E.len]
        have := ih k hk' (j - sz) hl'
        rw [← this]
        by_cases h2 : (k + 1) * sz ≤ j ∧ j < (k + 1) * sz + sz
        · rw [if_pos h2, if_pos (by omega), show j - (k + 1) * sz = j - sz - k * sz by omega]
        · rw [if_neg h2, if_neg (by omega)]
/-- A slice of data. -/
abbrev SD (E : Enc α sz) (b : Nat) (σ : St) (a : Option Addr) (n : Nat) (l : List α) : Prop := Sl b σ a n sz (flat E l)
theorem Sl.n_eq {b : Nat} {σ : St} {a : Option Addr} {n : Nat} {l : List α} (h : SD E b σ a n l) : n = l.length := by
  have h1 := h.len; rw [flat_len] at h1
  exact (Nat.eq_of_mul_eq_mul_right E.pos h1).symm
theorem Sl.ldN {b : Nat} {σ : St} {a : Option Addr} {n : Nat} {l : List α} (h : SD E b σ a n l) {k : Nat} {x : α} (hx : l[k]? = some x) (c : Nat) (f : List Value → R) :
    atT (SL a n c) (k : Int) sz (fun i o => AM.ldN σ.heap i o sz f) = f (E.enc x) := by
  have hkl : k < l.length := by
    rcases Nat.lt_or_ge k l.length with h | h
    · exact h
    · rw [List.getElem?_eq_none h] at hx; cases hx
  obtain ⟨i, o, r, z, bs, h1, h2, h3, h4, h5⟩ := h.at (k := k) (by rw [h.n_eq]; exact hkl) c (fun i o => AM.ldN σ.heap i o sz f)
  rw [h1, ldN_cells h3 h4, h5, flat_at l k x hx]
theorem Sl.ldP {b : Nat} {σ : St} {a : Option Addr} {n : Nat} {l : List α} (h : SD E b σ a n l) {k : Nat} {x : α} (hx : l[k]? = some x) (c : Nat) {off : Nat → Nat} {j m : Nat} (hoff : ∀ o, off o = o + j) (hj : j + m ≤ sz) (f : List Value → R) :
    atT (SL a n c) (k : Int) sz (fun i o => AM.ldN σ.heap i (off o) m f) = f (((E.enc x).drop j).take m) := by
  have hkl : k < l.length := by
    rcases Nat.lt_or_ge k l.length with h | h
    · exact h
    · rw [List.getElem?_eq_none h] at hx; cases hx
  obtain ⟨i, o, r, z, bs, h1, h2, h3, h4, h5⟩ := h.at (k := k) (by rw [h.n_eq]; exact hkl) c (fun i o => AM.ldN σ.heap i (off o) m f)
  rw [h1, hoff, ldN_cells h3 (by omega), ← flat_at l k x hx, ← h5, List.drop_take, List.take_take, List.drop_drop, show min m (sz - j) = m by omega]
theorem Sl.ld1 {b : Nat} {σ : St} {a : Option Addr} {n : Nat} {l : List α} (h : SD E b σ a n l) {k : Nat} {x : α} (hx : l[k]? = some x) (c : Nat) {off : Nat → Nat} {j : Nat} {v : Value} (hoff : ∀ o, off o = o + j) (hv : (E.enc x)[j]? = some v) (f : Value → R) :
    atT (SL a n c) (k : Int) sz (fun i o => AM.ld1 σ.heap i (off o) f) = f v := by
  have hkl : k < l.length := by
    rcases Nat.lt_or_ge k l.length with h | h
    · exact h
    · rw [List.getElem?_eq_none h] at hx; cases hx
  have hj : j < sz := by
    rcases Nat.lt_or_ge j (E.enc x).length with h | h
    · rwa [E.len] at h
    · rw [List.getElem?_eq_none h] at hv; cases hv
  obtain ⟨i, o, r, z, bs, h1, h2, h3, h4, h5⟩ := h.at (k := k) (by rw [h.n_eq]; exact hkl) c (fun i o => AM.ld1 σ.heap i (off o) f)
  have he : bs[o + j]? = some v := by
    rw [← hv, ← flat_at l k x hx, ← h5, List.getElem?_take, if_pos hj, List.getElem?_drop]
  rw [h1, hoff, ld1_cells h3 he]
/-- A box of one's own. -/
structure Bx (σ : St) (i : Nat) (cs : List Value) : Prop where
  lt : i < σ.next
  get : σ.heap.get i = some (.cells false 0 cs)
theorem Bx.keep {σ σ' : St} {i : Nat} {cs : List Value} (h : Bx σ i cs) (hn : σ.next ≤ σ'.next) (hg : σ'.heap.get i = σ.heap.get i) : Bx σ' i cs := ⟨Nat.lt_of_lt_of_le h.lt hn, by rw [hg]; exact h.get⟩
theorem Bx.ext {σ σ' : St} {i : Nat} {cs : List Value} (h : Bx σ i cs) (k : Ext σ σ') : Bx σ' i cs := h.keep k.next (k.old i h.lt)
theorem Bx.new (σ : St) (cs : List Value) : Bx (newBlk σ (.cells false 0 cs)) σ.next cs := ⟨Nat.lt_succ_self _, by rw [nb_get, if_pos rfl]⟩
theorem Bx.old {σ : St} {i : Nat} {cs : List Value} (h : Bx σ i cs) (B : Blk) : Bx (newBlk σ B) i cs := h.ext (ext_new σ B)
theorem Bx.ld1 {σ : St} {i o : Nat} {cs : List Value} {v : Value} (h : Bx σ i cs) (hv : cs[o]? = some v) (f : Value → R) : AM.ld1 σ.heap i o f = f v := ld1_cells h.get hv
theorem Bx.ldN {σ : St} {i o n : Nat} {cs : List Value} (h : Bx σ i cs) (hl : o + n ≤ cs.length) (f : List Value → R) : AM.ldN σ.heap i o n f = f ((cs.drop o).take n) := ldN_cells h.get hl
/-- A block is written. -/
noncomputable def wrSt (σ : St) (i : Nat) (z : Nat) (cs : List Value) : St := { σ with heap := σ.heap.put i (.cells false z cs), low := bc (Nat.ble i σ.low) i σ.low }
theorem ws_next (σ : St) (i z : Nat) (cs : List Value) : (wrSt σ i z cs).next = σ.next := rfl
theorem ws_wall (σ : St) (i z : Nat) (cs : List Value) : (wrSt σ i z cs).wall = σ.wall := rfl
theorem ws_low (σ : St) (i z : Nat) (cs : List Value) : (wrSt σ i z cs).low = min i σ.low := low_eq i σ.low
theorem ws_get (σ : St) (i z : Nat) (cs : List Value) (j : Nat) : (wrSt σ i z cs).heap.get j = if i = j then some (.cells false z cs) else σ.heap.get j := get_put _ _ _ _
theorem wrT_cells {σ : St} {i o z : Nat} {cs vs : List Value} (hg : σ.heap.get i = some (.cells false z cs)) (hw : σ.wall ≤ i) (hl : o + vs.length ≤ cs.length) (h1 : allOne vs = true) (h0 : vs ≠ []) (f : St → R) :
    wrT σ i o vs f = f (wrSt σ i z (splice cs o vs)) := by
  unfold wrT; rw [writeAt_cells hg hw hl h1 h0]; rfl
theorem Bx.wr {σ : St} {i o : Nat} {cs vs : List Value} (h : Bx σ i cs) (hw : σ.wall ≤ i) (hl : o + vs.length ≤ cs.length) (h1 : allOne vs = true) (h0 : vs ≠ []) (f : St → R) : wrT σ i o vs f = f (wrSt σ i 0 (splice cs o vs)) := wrT_cells h.get hw hl h1 h0 f
theorem Bx.wrote {σ : St} {i : Nat} (h : i < σ.next) (cs : List Value) : Bx (wrSt σ i 0 cs) i cs := ⟨h, by rw [ws_get, if_pos rfl]⟩
theorem keep_wr {b i z : Nat} {σ : St} {cs : List Value} (h : b ≤ i) : Keep b σ (wrSt σ i z cs) := ⟨Nat.le_refl _, rfl, by rw [ws_low]; omega, fun j hj => by rw [ws_get, if_neg (by omega)]⟩
theorem newC_ok {cs : List Value} {σ : St} {f : St → R} (h : allOne cs = true) : newC cs σ f = f (newBlk σ (.cells false 0 cs)) := by unfold newC; rw [h]; rfl
theorem newZ_eq (z : Nat) (cs : List Value) (σ : St) (f : St → R) : newZ z cs σ f = f (newBlk σ (.cells false z cs)) := rfl

/-! ### Calls -/
theorem callT_of {k : FuncId} {args : List Value} {σ σ' : St} {v : Value} (h : rec (.call k args σ) = some (.val v σ')) (f : KT) : callT rec k args σ f = f v σ' := by
  unfold callT; rw [h]; rfl
theorem callV_fn (k : FuncId) (a b args : List Value) (σ : St) (f : KT) : callV rec (FN k a b) args σ f = callT rec k (a ++ args ++ b) σ f := rfl
theorem callV_fv (k : FuncId) (a b args : List Value) (σ : St) (f : KT) : callV rec (FV (.func k) ⟨a⟩ ⟨b⟩) args σ f = callT rec k (a ++ args ++ b) σ f := rfl
theorem callV_yield (l : Nat) (a b : List Value) (args : List Value) (σ : St) (f : KT) : callV rec (FV (.yield l) ⟨a⟩ ⟨b⟩) args σ f = yieldT rec l (a ++ args) σ f := rfl
theorem yieldT_of {l : Nat} {args : List Value} {σ σ' : St} {v : Value} (h : rec (.yield l args σ) = some (.val v σ')) (f : KT) : yieldT rec l args σ f = f v σ' := by
  unfold yieldT; rw [h]; rfl
theorem reqT_of {q : Req} {σ' : St} {v : Value} (h : rec q = some (.val v σ')) (f : KT) : reqT rec q f = f v σ' := by
  unfold reqT; rw [h]; rfl
/-- It comes to a result of a kind. -/
def Wp (x : R) (Q : Res → Prop) : Prop := ∃ r, x = some r ∧ Q r
theorem Wp.mono {x : R} {Q Q' : Res → Prop} (h : Wp x Q) (k : ∀ r, Q r → Q' r) : Wp x Q' := let ⟨r, h1, h2⟩ := h; ⟨r, h1, k r h2⟩
theorem Wp.le {x y : R} {Q : Res → Prop} (h : Wp x Q) (k : Le x y) : Wp y Q := let ⟨r, h1, h2⟩ := h; ⟨r, k r h1, h2⟩
theorem Wp.of {x : R} {r : Res} {Q : Res → Prop} (h : x = some r) (hq : Q r) : Wp x Q := ⟨r, h, hq⟩
theorem wp_some {r : Res} {Q : Res → Prop} (h : Q r) : Wp (some r) Q := ⟨r, rfl, h⟩
variable {Γ : Tab}
/-- What a call hands back. -/
abbrev Ret (P : Program) (Γ : Tab) (k : FuncId) (args : List Value) (σ : St) (Q : Value → St → Prop) : Prop := ∃ v σ', run P Γ (.call k args σ) = some (.val v σ') ∧ Q v σ'
theorem wp_call {k : FuncId} {args : List Value} {σ : St} {T : R} {Q : Res → Prop} (hΓ : Γ k args σ = none) (e : T = callC P (run P Γ) k args σ) (h : Wp T Q) : Wp (run P Γ (.call k args σ)) Q := h.le ((Le.of_eq e).trans (run_call hΓ))
theorem eq_call {k : FuncId} {args : List Value} {σ : St} {T : R} {r : Res} (hΓ : Γ k args σ = none) (e : T = callC P (run P Γ) k args σ) (h : T = some r) : run P Γ (.call k args σ) = some r := (Le.of_eq e).trans (run_call hΓ) r h
theorem ret_call {k : FuncId} {args : List Value} {σ : St} {T : R} {Q : Value → St → Prop} (hΓ : Γ k args σ = none) (e : T = callC P (run P Γ) k args σ) (h : Wp T fun r => ∃ v σ', r = .val v σ' ∧ Q v σ') : Ret P Γ k args σ Q :=
  let ⟨r, h1, v, σ', h2, h3⟩ := wp_call hΓ e h; ⟨v, σ', h1.trans (by rw [h2]), h3⟩
theorem wp_callT {k : FuncId} {args : List Value} {σ : St} {f : KT} {Q : Res → Prop} {Q' : Value → St → Prop} (h : Ret P Γ k args σ Q') (hf : ∀ v σ', Q' v σ' → Wp (f v σ') Q) : Wp (callT (run P Γ) k args σ f) Q := by
  obtain ⟨v, σ', h1, h2⟩ := h
  rw [callT_of h1]; exact hf v σ' h2
theorem wp_loop {c : Code} {kept : Kept} {fr : Fr} {T : R} {Q : Res → Prop} (e : T = execT P (run P Γ) c kept fr (loopEnd (run P Γ) c kept)) (h : Wp T Q) : Wp (run P Γ (.loop c kept fr)) Q := h.le ((Le.of_eq e).trans (run_loopT c kept fr))
theorem wp_loopT {c : Code} {kept : Kept} {fr : Fr} {K : KX} {Q Q' : Res → Prop} (h : Wp (rec (.loop c kept fr)) Q') (hf : ∀ r, Q' r → Wp (ob (rEx r) fun p => K p.1 p.2) Q) : Wp (loopT rec c kept fr K) Q := by
  obtain ⟨r, h1, h2⟩ := h
  unfold loopT; rw [h1]; exact hf r h2
theorem wp_if {c : Prop} [Decidable c] {A B : R} {Q : Res → Prop} (hA : c → Wp A Q) (hB : ¬ c → Wp B Q) : Wp (if c then A else B) Q := by
  split
  · exact hA ‹_›
  · exact hB ‹_›
end Go.AM
