/- The abstract machine: what relates its memory to the model's, and the laws of its memory. -/
import Derived.Test.YtfmpoodienmieaaAm1
namespace Go.AM
/-! ### Eliminators -/
section
variable {α β γ : Type}
theorem bc_true (x y : α) : bc true x y = x := rfl
theorem bc_false (x y : α) : bc false x y = y := rfl
theorem bc_eq (b : Bool) (x y : α) : bc b x y = if b = true then x else y := by cases b <;> rfl
theorem bc_none {b : Bool} {x : Option α} {v : α} : bc b x none = some v ↔ b = true ∧ x = some v := by cases b <;> simp [bc_true, bc_false]
theorem bc_none' {b : Bool} {x : Option α} {v : α} : bc b none x = some v ↔ b = false ∧ x = some v := by cases b <;> simp [bc_true, bc_false]
theorem bc_and {a b : Bool} : bc a b false = (a && b) := by cases a <;> rfl
theorem ob_none (f : α → Option β) : ob none f = none := rfl
theorem ob_some (a : α) (f : α → Option β) : ob (some a) f = f a := rfl
theorem ob_eq {x : Option α} {f : α → Option β} {v : β} : ob x f = some v ↔ ∃ a, x = some a ∧ f a = some v := by cases x <;> simp [ob_none, ob_some]
theorem om_none (f : α → β) : om none f = none := rfl
theorem om_some (a : α) (f : α → β) : om (some a) f = some (f a) := rfl
theorem om_eq {x : Option α} {f : α → β} {v : β} : om x f = some v ↔ ∃ a, x = some a ∧ f a = v := by cases x <;> simp [om_none, om_some]
theorem oe_none (d : β) (f : α → β) : oe none d f = d := rfl
theorem oe_some (a : α) (d : β) (f : α → β) : oe (some a) d f = f a := rfl
theorem le_nil (d : β) (f : α → List α → β) : le [] d f = d := rfl
theorem le_cons (a : α) (r : List α) (d : β) (f : α → List α → β) : le (a :: r) d f = f a r := rfl
theorem ne_zero (d : β) (f : Nat → β) : ne 0 d f = d := rfl
theorem ne_succ (n : Nat) (d : β) (f : Nat → β) : ne (n + 1) d f = f n := rfl
end

/-! ### Maps by numbers -/
section
variable {α : Type}
theorem lget_nil (n : Nat) : lget (α := α) n [] = none := rfl
theorem lget_cons (n : Nat) (p : Nat × α) (l : List (Nat × α)) : lget n (p :: l) = if p.1 = n then some p.2 else lget n l := by
  show bc (Nat.beq p.1 n) (some p.2) (lget n l) = _
  rw [bc_eq]; simp
theorem lput_nil (n : Nat) (v : α) : lput n v [] = [(n, v)] := rfl
theorem lput_cons (n : Nat) (v : α) (p : Nat × α) (l : List (Nat × α)) : lput n v (p :: l) = if p.1 = n then (n, v) :: l else p :: lput n v l := by
  show bc (Nat.beq p.1 n) _ _ = _
  rw [bc_eq]; simp; rfl
theorem ldel_nil (n : Nat) : ldel (α := α) n [] = [] := rfl
theorem ldel_cons (n : Nat) (p : Nat × α) (l : List (Nat × α)) : ldel n (p :: l) = if p.1 = n then ldel n l else p :: ldel n l := by
  show bc (Nat.beq p.1 n) _ _ = _
  rw [bc_eq]; simp; rfl
theorem lget_lput (n m : Nat) (v : α) (l : List (Nat × α)) : lget m (lput n v l) = if n = m then some v else lget m l := by
  induction l with
  | nil => rw [lput_nil, lget_cons, lget_nil]
  | cons p l ih =>
    rw [lput_cons]
    by_cases h : p.1 = n
    · rw [if_pos h, lget_cons, lget_cons]
      simp only [h]
      by_cases h2 : n = m <;> simp [h2]
    · rw [if_neg h, lget_cons, lget_cons, ih]
      by_cases h2 : p.1 = m
      · have : n ≠ m := fun e => h (h2.trans e.symm)
        simp [h2, this]
      · simp [h2]
theorem lget_ldel (n m : Nat) (l : List (Nat × α)) : lget m (ldel n l) = if n = m then none else lget m l := by
  induction l with
  | nil => rw [ldel_nil, lget_nil]; split <;> rfl
  | cons p l ih =>
    rw [ldel_cons]
    by_cases h : p.1 = n
    · rw [if_pos h, ih, lget_cons]
      by_cases h2 : n = m
      · simp [h2]
      · have : p.1 ≠ m := fun e => h2 (h.symm.trans e)
        simp [h2, this]
    · rw [if_neg h, lget_cons, lget_cons, ih]
      by_cases h2 : p.1 = m
      · have : n ≠ m := fun e => h (h2.trans e.symm)
        simp [h2, this]
      · simp [h2]
theorem get_leaf (l : List (Nat × α)) (n : Nat) : (Tr.leaf l).get n = lget n l := rfl
theorem get_node (a b : Tr α) (n : Nat) : (Tr.node a b).get n = if n % 2 = 0 then a.get (n / 2) else b.get (n / 2) := by
  show bc (Nat.beq (n % 2) 0) (a.get (n / 2)) (b.get (n / 2)) = _
  rw [bc_eq]; simp
theorem put_leaf (l : List (Nat × α)) (n : Nat) (v : α) : (Tr.leaf l).put n v = .leaf (lput n v l) := rfl
theorem put_node (a b : Tr α) (n : Nat) (v : α) : (Tr.node a b).put n v = if n % 2 = 0 then .node (a.put (n / 2) v) b else .node a (b.put (n / 2) v) := by
  show bc (Nat.beq (n % 2) 0) _ _ = _
  rw [bc_eq]; simp; rfl
theorem del_leaf (l : List (Nat × α)) (n : Nat) : (Tr.leaf l).del n = .leaf (ldel n l) := rfl
theorem del_node (a b : Tr α) (n : Nat) : (Tr.node a b).del n = if n % 2 = 0 then .node (a.del (n / 2)) b else .node a (b.del (n / 2)) := by
  show bc (Nat.beq (n % 2) 0) _ _ = _
  rw [bc_eq]; simp; rfl
theorem get_put (t : Tr α) (n m : Nat) (v : α) : (t.put n v).get m = if n = m then some v else t.get m := by
  induction t generalizing n m with
  | leaf l => rw [put_leaf, get_leaf, get_leaf, lget_lput]
  | node a b iha ihb =>
    have key : n = m ↔ n % 2 = m % 2 ∧ n / 2 = m / 2 := by omega
    rw [put_node, get_node]
    by_cases h : n % 2 = 0
    · rw [if_pos h, get_node]
      by_cases h2 : m % 2 = 0
      · rw [if_pos h2, if_pos h2, iha]
        by_cases h3 : n / 2 = m / 2
        · rw [if_pos h3, if_pos (by omega)]
        · rw [if_neg h3, if_neg (by omega)]
      · rw [if_neg h2, if_neg h2, if_neg (by omega)]
    · rw [if_neg h, get_node]
      by_cases h2 : m % 2 = 0
      · rw [if_pos h2, if_pos h2, if_neg (by omega)]
      · rw [if_neg h2, if_neg h2, ihb]
        by_cases h3 : n / 2 = m / 2
        · rw [if_pos h3, if_pos (by omega)]
        · rw [if_neg h3, if_neg (by omega)]
theorem get_del (t : Tr α) (n m : Nat) : (t.del n).get m = if n = m then none else t.get m := by
  induction t generalizing n m with
  | leaf l => rw [del_leaf, get_leaf, get_leaf, lget_ldel]
  | node a b iha ihb =>
    rw [del_node, get_node]
    by_cases h : n % 2 = 0
    · rw [if_pos h, get_node]
      by_cases h2 : m % 2 = 0
      · rw [if_pos h2, if_pos h2, iha]
        by_cases h3 : n / 2 = m / 2
        · rw [if_pos h3, if_pos (by omega)]
        · rw [if_neg h3, if_neg (by omega)]
      · rw [if_neg h2, if_neg h2, if_neg (by omega)]
    · rw [if_neg h, get_node]
      by_cases h2 : m % 2 = 0
      · rw [if_pos h2, if_pos h2, if_neg (by omega)]
      · rw [if_neg h2, if_neg h2, ihb]
        by_cases h3 : n / 2 = m / 2
        · rw [if_pos h3, if_pos (by omega)]
        · rw [if_neg h3, if_neg (by omega)]
theorem get_mk (d n : Nat) : (Tr.mk (α := α) d).get n = none := by
  induction d generalizing n with
  | zero => rfl
  | succ d ih => show (Tr.node _ _).get n = none; simp [get_node, ih]
end

/-! ### Lists -/
theorem dropL_eq (n : Nat) (l : List Value) : dropL n l = l.drop n := by
  induction n generalizing l with
  | zero => rfl
  | succ n ih => cases l with
    | nil => rfl
    | cons a r => show dropL n r = _; rw [ih]; rfl
theorem takeL_eq (n : Nat) (l : List Value) : takeL n l = l.take n := by
  induction n generalizing l with
  | zero => simp; rfl
  | succ n ih => cases l with
    | nil => rfl
    | cons a r => show a :: takeL n r = _; rw [ih]; rfl
theorem setL_eq (v : Value) (n : Nat) (l : List Value) : setL v n l = l.set n v := by
  induction n generalizing l with
  | zero => cases l <;> rfl
  | succ n ih => cases l with
    | nil => rfl
    | cons a r => show a :: setL v n r = _; rw [ih]; rfl
theorem splice_nil (cs : List Value) (o : Nat) : splice cs o [] = cs := rfl
theorem splice_cons (cs : List Value) (o : Nat) (v : Value) (vs : List Value) : splice cs o (v :: vs) = splice (cs.set o v) (o + 1) vs := by
  show splice (setL v o cs) (o + 1) vs = _
  rw [setL_eq]
theorem splice_length (vs cs : List Value) (o : Nat) : (splice cs o vs).length = cs.length := by
  induction vs generalizing cs o with
  | nil => rfl
  | cons v vs ih => rw [splice_cons, ih]; simp
theorem splice_get (vs cs : List Value) (o j : Nat) (h : o + vs.length ≤ cs.length) : (splice cs o vs)[j]? = if o ≤ j ∧ j < o + vs.length then vs[j - o]? else cs[j]? := by
  induction vs generalizing cs o with
  | nil => rw [splice_nil, if_neg (by simp only [List.length_nil]; omega)]
  | cons v vs ih =>
    simp only [List.length_cons] at h
    rw [splice_cons, ih _ _ (by simp; omega), List.getElem?_set]
    by_cases h1 : o = j
    · subst h1
      have hl : o < cs.length := by omega
      rw [if_neg (by omega), if_pos rfl, if_pos hl, if_pos (by simp)]
      simp
    · rw [if_neg h1]
      by_cases h2 : o + 1 ≤ j ∧ j < o + 1 + vs.length
      · rw [if_pos h2, if_pos (by simp; omega)]
        have : j - o = (j - (o + 1)) + 1 := by omega
        rw [this]; simp
      · rw [if_neg h2, if_neg (by simp; omega)]
theorem allOne_nil : allOne [] = true := rfl
theorem allOne_cons (v : Value) (l : List Value) : allOne (v :: l) = (oneCell v && allOne l) := by
  show bc (oneCell v) (allOne l) false = _; rw [bc_and]
theorem allOne_mem {l : List Value} (h : allOne l = true) {v : Value} (hv : v ∈ l) : oneCell v = true := by
  induction l with
  | nil => cases hv
  | cons a l ih =>
    rw [allOne_cons, Bool.and_eq_true] at h
    cases hv with
    | head => exact h.1
    | tail _ h2 => exact ih h.2 h2
theorem allFlat_cons (v : Value) (l : List Value) : allFlat (v :: l) = (isFlat v && allFlat l) := by
  show bc (isFlat v) (allFlat l) false = _; rw [bc_and]

/-! ### What relates a value to the model's -/
structure LocE where
  b : Nat
  s : Nat
  cap : Nat
  z : Nat
abbrev Env := Nat → Option LocE

mutual
inductive VRel (e : Env) : Value → Value → Prop where
  | poison (v : Value) : VRel e (.chan none) v
  | bool (b : Bool) : VRel e (.bool b) (.bool b)
  | int (k : IntKind) (n : Int) : VRel e (.int k n) (.int k n)
  | float (k : FloatKind) (n : Nat) : VRel e (.float k n) (.float k n)
  | complex (k : FloatKind) (a b : Nat) : VRel e (.complex k a b) (.complex k a b)
  | str (s : ByteArray) : VRel e (.string s) (.string s)
  | pnil : VRel e (.pointer none) (.pointer none)
  | ptr {i : Nat} {L : LocE} (o : Nat) (h : e i = some L) : VRel e (.pointer (some ⟨i, o, none⟩)) (.pointer (some ⟨L.b, L.s + o, none⟩))
  | snil : VRel e (.slice none 0 0) (.slice none 0 0)
  | exact {i : Nat} {L : LocE} (o len c : Nat) (h : e i = some L) (hl : len ≤ c) : VRel e (.slice (some ⟨i, o, none⟩) len (c + 1)) (.slice (some ⟨L.b, L.s + o, none⟩) len c)
  | open {i : Nat} {L : LocE} (o len c : Nat) (h : e i = some L) (h0 : 0 < len) (hl : len ≤ c) (hc : o + c * L.z = L.cap) : VRel e (.slice (some ⟨i, o, none⟩) len 0) (.slice (some ⟨L.b, L.s + o, none⟩) len c)
  | open0 {i : Nat} {L : LocE} (o c : Nat) (a : Addr) (h : e i = some L) (hb : a.block = L.b) (hc : c = 0 ∨ (a.spot = none ∧ L.s ≤ a.off ∧ a.off + c * L.z = L.s + L.cap)) :
      VRel e (.slice (some ⟨i, o, none⟩) 0 0) (.slice (some a) 0 c)
  | mnil : VRel e (.map none) (.map none)
  | map {i : Nat} {L : LocE} (h : e i = some L) : VRel e (.map (some i)) (.map (some L.b))
  | func (k : FuncId) {a a' b b' : List Value} (ha : LRel e a a') (hb : LRel e b b') : VRel e (.func (.func k) ⟨a⟩ ⟨b⟩) (.func (.func k) ⟨a'⟩ ⟨b'⟩)
  | yield {l : Nat} {L : LocE} (h : e l = some L) {a a' b b' : List Value} (ha : LRel e a a') (hb : LRel e b b') : VRel e (.func (.yield l) ⟨a⟩ ⟨b⟩) (.func (.yield L.b) ⟨a'⟩ ⟨b'⟩)
  | fnil : VRel e .nilFunc .nilFunc
  | inil : VRel e .nilIface .nilIface
  | agg {a a' : List Value} (h : LRel e a a') : VRel e (.agg ⟨a⟩) (.agg ⟨a'⟩)
  | tup {a a' : List Value} (h : LRel e a a') : VRel e (.tuple ⟨a⟩) (.tuple ⟨a'⟩)
inductive LRel (e : Env) : List Value → List Value → Prop where
  | nil : LRel e [] []
  | cons {v v' : Value} {l l' : List Value} (h : VRel e v v') (hl : LRel e l l') : LRel e (v :: l) (v' :: l')
end

def Env.le (e e' : Env) : Prop := ∀ i L, e i = some L → e' i = some L
theorem Env.le.refl (e : Env) : e.le e := fun _ _ h => h
theorem Env.le.trans {a b c : Env} (h : a.le b) (k : b.le c) : a.le c := fun i L x => k i L (h i L x)

theorem VRel.mono {e e' : Env} (he : e.le e') {v v' : Value} (h : VRel e v v') : VRel e' v v' := by
  refine VRel.rec (motive_1 := fun v v' _ => VRel e' v v') (motive_2 := fun l l' _ => LRel e' l l') ?_ ?_ ?_ ?_ ?_ ?_ ?_ ?_ ?_ ?_ ?_ ?_ ?_ ?_ ?_ ?_ ?_ ?_ ?_ ?_ ?_ ?_ h
  · exact fun v => .poison v
  · exact fun b => .bool b
  · exact fun k n => .int k n
  · exact fun k n => .float k n
  · exact fun k a b => .complex k a b
  · exact fun s => .str s
  · exact .pnil
  · exact fun o h => .ptr o (he _ _ h)
  · exact .snil
  · exact fun o l c h hl => .exact o l c (he _ _ h) hl
  · exact fun o l c h h0 hl hc => .open o l c (he _ _ h) h0 hl hc
  · exact fun o c a h hb hc => .open0 o c a (he _ _ h) hb hc
  · exact .mnil
  · exact fun h => .map (he _ _ h)
  · exact fun k _ _ _ _ _ _ ha hb => .func k ha hb
  · exact fun h _ _ _ _ _ _ ha hb => .yield (he _ _ h) ha hb
  · exact .fnil
  · exact .inil
  · exact fun _ h => .agg h
  · exact fun _ h => .tup h
  · exact .nil
  · exact fun _ _ h hl => .cons h hl
theorem LRel.mono {e e' : Env} (he : e.le e') {l l' : List Value} (h : LRel e l l') : LRel e' l l' := by
  induction l generalizing l' with
  | nil => cases h; exact .nil
  | cons a l ih => cases h with | cons h hl => exact .cons (h.mono he) (ih hl)
theorem LRel.length {e : Env} {l l' : List Value} (h : LRel e l l') : l.length = l'.length := by
  induction l generalizing l' with
  | nil => cases h; rfl
  | cons a l ih => cases h with | cons h hl => simp [ih hl]
theorem LRel.get {e : Env} {l l' : List Value} (h : LRel e l l') {j : Nat} {v : Value} (hj : l[j]? = some v) : ∃ v', l'[j]? = some v' ∧ VRel e v v' := by
  induction l generalizing l' j with
  | nil => simp at hj
  | cons a l ih => cases h with
    | cons h hl => cases j with
      | zero => simp at hj; subst hj; exact ⟨_, by simp, h⟩
      | succ j => simp at hj; obtain ⟨v', h1, h2⟩ := ih hl hj; exact ⟨v', by simpa using h1, h2⟩
theorem LRel.of_get {e : Env} {l l' : List Value} (hl : l.length = l'.length) (h : ∀ (j : Nat) (v v' : Value), l[j]? = some v → l'[j]? = some v' → VRel e v v') : LRel e l l' := by
  induction l generalizing l' with
  | nil => cases l' with
    | nil => exact .nil
    | cons => simp at hl
  | cons a l ih => cases l' with
    | nil => simp at hl
    | cons a' l' => exact .cons (h 0 _ _ (by simp) (by simp)) (ih (by simpa using hl) fun j v v' h1 h2 => h (j + 1) v v' (by simpa using h1) (by simpa using h2))
theorem LRel.append {e : Env} {a a' b b' : List Value} (h : LRel e a a') (k : LRel e b b') : LRel e (a ++ b) (a' ++ b') := by
  induction a generalizing a' with
  | nil => cases h; exact k
  | cons x a ih => cases h with | cons h hl => exact .cons h (ih hl)
theorem LRel.drop {e : Env} {a a' : List Value} (h : LRel e a a') (n : Nat) : LRel e (a.drop n) (a'.drop n) := by
  induction n generalizing a a' with
  | zero => simpa using h
  | succ n ih => cases h with
    | nil => simp; exact .nil
    | cons h hl => simpa using ih hl
theorem LRel.take {e : Env} {a a' : List Value} (h : LRel e a a') (n : Nat) : LRel e (a.take n) (a'.take n) := by
  induction n generalizing a a' with
  | zero => simp; exact .nil
  | succ n ih => cases h with
    | nil => simp; exact .nil
    | cons h hl => simpa using .cons h (ih hl)
theorem LRel.map {e : Env} {ι : Type} {f g : ι → Value} {l : List ι} (h : ∀ x ∈ l, VRel e (f x) (g x)) : LRel e (l.map f) (l.map g) := by
  induction l with
  | nil => exact .nil
  | cons a l ih => exact .cons (h a (by simp)) (ih fun x hx => h x (by simp [hx]))

theorem isFlat_agg_list (l : List Value) : isFlat (.agg ⟨l⟩) = allFlat l := by
  induction l with
  | nil => rfl
  | cons a l ih => rw [allFlat_cons, ← ih]; show bc (isFlat a) _ false = _; rw [bc_and]; rfl
theorem isFlat_tuple_list (l : List Value) : isFlat (.tuple ⟨l⟩) = allFlat l := by
  induction l with
  | nil => rfl
  | cons a l ih => rw [allFlat_cons, ← ih]; show bc (isFlat a) _ false = _; rw [bc_and]; rfl

/-- A flat value is related to itself alone. -/
theorem VRel.flat_eq {e : Env} {v v' : Value} (h : VRel e v v') : isFlat v = true → v' = v := by
  refine VRel.rec (motive_1 := fun v v' _ => isFlat v = true → v' = v) (motive_2 := fun l l' _ => allFlat l = true → l' = l) ?_ ?_ ?_ ?_ ?_ ?_ ?_ ?_ ?_ ?_ ?_ ?_ ?_ ?_ ?_ ?_ ?_ ?_ ?_ ?_ ?_ ?_ h
  · intro v h; cases h
  · intro _ _; rfl
  · intro _ _ _; rfl
  · intro _ _ _; rfl
  · intro _ _ _ _; rfl
  · intro _ _; rfl
  · intro _; rfl
  · intro i L o _ h; cases h
  · intro _; rfl
  · intro i L o l c _ _ h; cases h
  · intro i L o l c _ _ _ _ h; cases h
  · intro i L o c a _ _ _ h; cases h
  · intro _; rfl
  · intro i L _ h; cases h
  · intro k a a' b b' _ _ _ _ h; cases h
  · intro l L _ a a' b b' _ _ _ _ h; cases h
  · intro _; rfl
  · intro _; rfl
  · intro a a' _ ih h; rw [isFlat_agg_list] at h; rw [ih h]
  · intro a a' _ ih h; rw [isFlat_tuple_list] at h; rw [ih h]
  · intro _; rfl
  · intro v v' l l' _ _ ih ihl h
    rw [allFlat_cons, Bool.and_eq_true] at h
    rw [ih h.1, ihl h.2]
theorem VRel.refl_aux (e : Env) (v : Value) : isFlat v = true → VRel e v v := by
  refine Value.rec (motive_1 := fun v => isFlat v = true → VRel e v v) (motive_2 := fun a => allFlat a.toList = true → LRel e a.toList a.toList) (motive_3 := fun l => allFlat l = true → LRel e l l)
    ?_ ?_ ?_ ?_ ?_ ?_ ?_ ?_ ?_ ?_ ?_ ?_ ?_ ?_ ?_ ?_ ?_ ?_ v
  · exact fun b _ => .bool b
  · exact fun k n _ => .int k n
  · exact fun k n _ => .float k n
  · exact fun k a b _ => .complex k a b
  · exact fun s _ => .str s
  · intro a h; cases a with
    | none => exact .pnil
    | some a => cases h
  · intro a l c h; cases a with
    | none =>
      have h : (Nat.beq l 0 && Nat.beq c 0) = true := h
      simp at h; obtain ⟨rfl, rfl⟩ := h; exact .snil
    | some a => cases h
  · intro r h; cases r with
    | none => exact .mnil
    | some a => cases h
  · intro r h; cases h
  · intro f a b _ _ h; cases h
  · exact fun _ => .fnil
  · intro t v _ h; cases h
  · exact fun _ => .inil
  · intro cs ih h
    obtain ⟨cs⟩ := cs
    rw [isFlat_agg_list] at h; exact .agg (ih h)
  · intro cs ih h
    obtain ⟨cs⟩ := cs
    rw [isFlat_tuple_list] at h; exact .tup (ih h)
  · intro l ih h; exact ih h
  · intro _; exact .nil
  · intro v l ih ihl h
    rw [allFlat_cons, Bool.and_eq_true] at h
    exact .cons (ih h.1) (ihl h.2)
theorem VRel.flat (e : Env) {v : Value} (h : isFlat v = true) : VRel e v v := VRel.refl_aux e v h
theorem VRel.undef (e : Env) : VRel e Go.undef Go.undef := VRel.flat e rfl
end Go.AM
