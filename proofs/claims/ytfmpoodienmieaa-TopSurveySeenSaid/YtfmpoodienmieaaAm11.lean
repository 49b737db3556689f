/- The abstract machine: one operation. -/
import Derived.Test.YtfmpoodienmieaaAm10
import Derived.Laws.IdiomStrings
namespace Go.AM
variable {P : Program}
def RRel (e : Env) (ρ ρ' : Rho) : Prop := ∀ x, VRel e (ρ x) (ρ' x)
/-- What an operation answers: a value, or nothing. -/
def NRel (e : Env) (v : Value) (n : Next) : Prop := (∃ v', n = .value v' ∧ VRel e v v') ∨ (n = .skip ∧ v = undef)
def OpOk (P : Program) (e : Env) (σ : St) (w : World) (v : Value) (σ' : St) (s : Sem Next) : Prop :=
  ∃ e' w' n, s.run P w = .ok n w' ∧ WRel e' σ' w' ∧ Grow e σ w e' σ' w' ∧ NRel e' v n
theorem MoveOk.op {e : Env} {σ σ' : St} {w : World} {v : Value} {s : Sem Value} (h : MoveOk P e σ w v σ' s) : OpOk P e σ w v σ' (do pure (.value (← s))) :=
  let ⟨e', w', v', h1, h2, h3, h4⟩ := h; ⟨e', w', .value v', by simp [h1], h2, h3, .inl ⟨v', rfl, h4⟩⟩
theorem StillOk.op {e : Env} {σ : St} {w : World} {v : Value} {s : Sem Value} (hW : WRel e σ w) (h : StillOk P e w v s) : OpOk P e σ w v σ (do pure (.value (← s))) := (h.move hW).op
theorem unit_op {e : Env} {σ σ' : St} {w : World} {s : Sem Unit} (h : ∃ w', s.run P w = .ok () w' ∧ WRel e σ' w' ∧ Grow e σ w e σ' w') : OpOk P e σ w undef σ' (do s; pure .skip) :=
  let ⟨w', h1, h2, h3⟩ := h; ⟨e, w', .skip, by simp [h1], h2, h3, .inr ⟨rfl, rfl⟩⟩
theorem still_eq {σ σ' : St} {r : Option Value} {v : Value} : still σ r = some (v, σ') ↔ r = some v ∧ σ' = σ := by
  unfold still; rw [om_eq]
  constructor
  · rintro ⟨a, h1, h2⟩; cases h2; exact ⟨h1, rfl⟩
  · rintro ⟨h1, rfl⟩; exact ⟨v, h1, rfl⟩
theorem done_eq {σ' : St} {r : Option St} {v : Value} : done r = some (v, σ') ↔ r = some σ' ∧ v = undef := by
  unfold done; rw [om_eq]
  constructor
  · rintro ⟨a, h1, h2⟩; cases h2; exact ⟨h1, rfl⟩
  · rintro ⟨h1, rfl⟩; exact ⟨σ', h1, rfl⟩
theorem parts_rel {e : Env} {ρ ρ' : Rho} (h : RRel e ρ ρ') (l : List (Nat × Operand)) : PRel e (l.map fun p => (p.1, ρ p.2)) (l.map fun p => (p.1, ρ' p.2)) := by
  induction l with
  | nil => exact .nil
  | cons p l ih => exact .cons (h p.2) ih
theorem args_rel {e : Env} {ρ ρ' : Rho} (h : RRel e ρ ρ') (l : List Operand) : LRel e (l.map ρ) (l.map ρ') := by
  induction l with
  | nil => exact .nil
  | cons p l ih => exact .cons (h p) ih
theorem opt_rel {e : Env} {ρ ρ' : Rho} (h : RRel e ρ ρ') (o : Option Operand) : ORel e (om o ρ) (o.map ρ') := by
  cases o with
  | none => exact .inl ⟨rfl, rfl⟩
  | some x => exact .inr ⟨_, _, rfl, rfl, h x⟩
theorem conv_sound {e : Env} {σ σ' : St} {w : World} (hW : WRel e σ w) {src dst : TypeId} {x x' v : Value} (hx : VRel e x x') (h : convA P src dst x σ = some (v, σ')) : MoveOk P e σ w v σ' (convert src dst x') := by
  unfold convA at h
  rw [bc_eq] at h
  split at h
  · rename_i hc
    rw [bc_and, Bool.and_eq_true] at hc
    obtain ⟨hs, _⟩ := hc
    have hsu := isStringT_und hs
    rw [ob_eq] at h; obtain ⟨d, hd, h⟩ := h
    obtain ⟨hu, _⟩ := sliceT_und hd
    cases hde : und P d.elem with
    | none => rw [hde] at h; simp at h
    | some de =>
      rw [hde] at h
      cases de <;> try (cases h; done)
      rename_i k
      cases k <;> try (cases h; done)
      replace h : ob (vStr x) (fun s => bc (Nat.ble s.size (2 ^ 47)) (some (Value.slice (some ⟨σ.next, 0, none⟩) s.size 0, newBlk σ (.cells true 1 (byteVals s)))) none) = some (v, σ') := h
      rw [ob_eq] at h; obtain ⟨s, hs', h⟩ := h
      rw [bc_none] at h; obtain ⟨_, h⟩ := h
      have := vStr_eq hs'
      subst this
      cases hx
      cases h
      have hr := run_bytes_of_string (P := P) w src dst d.elem s hsu hu hde
      obtain ⟨hW0, hG0⟩ := drew_sound hW
      have hb : BRel e ⟨w.heap.size, 0, grownCap w s.size 0 d.elem, 1⟩ (.cells true 1 (byteVals s)) (some (.cells (bytesRow s (grownCap w s.size 0 d.elem)) d.elem ((bytesRow s (grownCap w s.size 0 d.elem)).size, (bytesRow s (grownCap w s.size 0 d.elem)).size + 1))) := by
        refine .ro rfl fun j v hj => ⟨_, _, _, v, rfl, ?_, ?_⟩
        · simp only [Nat.zero_add, bytesRow]
          have hl : j < (byteVals s).length := (List.getElem?_eq_some_iff.1 hj).1
          rw [Array.getElem?_append_left (by simpa [byteVals] using hl), ← hj]
          simp [byteVals]
        · have hm := List.mem_of_getElem? hj
          simp only [byteVals, List.mem_map] at hm
          obtain ⟨b, _, rfl⟩ := hm
          exact .int _ _
      obtain ⟨x1, x2⟩ := new_sound hW0 (L := ⟨w.heap.size, 0, grownCap w s.size 0 d.elem, 1⟩) rfl hb
      refine ⟨_, _, _, hr, x1, hG0.trans x2, ?_⟩
      by_cases h0 : s.size = 0
      · rw [h0]
        exact .open0 0 _ _ (Env.add_self e σ.next _) rfl (.inr ⟨rfl, Nat.le_refl _, by simp⟩)
      · have := VRel.open 0 s.size (grownCap w s.size 0 d.elem) (Env.add_self e σ.next ⟨w.heap.size, 0, grownCap w s.size 0 d.elem, 1⟩) (by omega) (grownCap_ge w _ _ _) (by simp)
        simpa using this
  · rw [bc_none] at h; obtain ⟨hf, h⟩ := h
    rw [still_eq] at h; obtain ⟨h, rfl⟩ := h
    rw [hx.flat_eq hf]
    exact (flat_still h).move hW

theorem pure_still {e : Env} {σ σ' : St} {w : World} {f : Array Value → Sem Value} {args args' : List Value} (ha : LRel e args args') {v : Value} (h : pureA σ P f args = some (v, σ')) : StillOk P e w v (f ⟨args'⟩) ∧ σ' = σ := by
  unfold pureA at h
  rw [bc_none] at h; obtain ⟨hf, h⟩ := h
  rw [still_eq] at h; obtain ⟨h, rfl⟩ := h
  have : args' = args := by
    clear h
    induction args generalizing args' with
    | nil => cases ha; rfl
    | cons a l ih => cases ha with
      | cons h hl =>
        rw [allFlat_cons, Bool.and_eq_true] at hf
        rw [h.flat_eq hf.1, ih hl hf.2]
  subst this
  exact ⟨flat_still h, rfl⟩

theorem arg1_eq {α : Type} {l : List α} {f : α → OpRes} {r : Value × St} (h : arg1 l f = some r) : ∃ a t, l = a :: t ∧ f a = some r := by
  cases l with
  | nil => cases h
  | cons a t => exact ⟨a, t, rfl, h⟩
theorem arg2_eq {α : Type} {l : List α} {f : α → α → OpRes} {r : Value × St} (h : arg2 l f = some r) : ∃ a b t, l = a :: b :: t ∧ f a b = some r := by
  cases l with
  | nil => cases h
  | cons a t => cases t with
    | nil => cases h
    | cons b t => exact ⟨a, b, t, rfl, h⟩
theorem builtin_sound {e : Env} {σ σ' : St} {w : World} (hW : WRel e σ w) {b : Builtin} {ts : Array TypeId} {ty : TypeId} {cs : Array Bool} {args args' : List Value} (ha : LRel e args args') {v : Value}
    (h : builtinA b P ts.toList ty args σ = some (v, σ')) : OpOk P e σ w v σ' (builtin b ts ty cs ⟨args'⟩) := by
  obtain ⟨ts⟩ := ts
  cases b <;> try (cases h; done)
  case len =>
    replace h : arg1 ts (fun t => arg1 args fun x => still σ (lenOf P t x σ.heap)) = some (v, σ') := h
    obtain ⟨t, r, rfl, ha1⟩ := arg1_eq h
    obtain ⟨x, r', rfl, ha2⟩ := arg1_eq ha1
    clear h ha1
    rw [still_eq] at ha2; obtain ⟨h, rfl⟩ := ha2
    cases ha with
    | cons hx hr =>
      obtain ⟨v', h1, h2⟩ := len_sound (P := P) (ty := ty) hW hx h
      refine StillOk.op hW ⟨v', ?_, h2⟩
      simpa [Builtin.len_] using h1
  case cap =>
    replace h : arg1 ts (fun t => arg1 args fun x => still σ (capA P t x)) = some (v, σ') := h
    obtain ⟨t, r, rfl, ha1⟩ := arg1_eq h
    obtain ⟨x, r', rfl, ha2⟩ := arg1_eq ha1
    clear h ha1
    rw [still_eq] at ha2; obtain ⟨h, rfl⟩ := ha2
    cases ha with
    | cons hx hr =>
      obtain ⟨v', h1, h2⟩ := cap_sound (P := P) (w := w) (ty := ty) hx h
      refine StillOk.op hW ⟨v', ?_, h2⟩
      simpa [Builtin.cap_] using h1
  case append =>
    replace h : arg2 ts (fun t u => arg2 args fun s x => appendA P t u s x σ) = some (v, σ') := h
    obtain ⟨t, u, r, rfl, ha1⟩ := arg2_eq h
    obtain ⟨s, x, r', rfl, ha2⟩ := arg2_eq ha1
    clear h ha1
    have h := ha2
    cases ha with
    | cons hs hr => cases hr with
      | cons hx hr =>
        obtain ⟨e', w', v', h1, h2⟩ := append_sound (P := P) (ty := ty) hW hs hx h
        refine MoveOk.op ⟨e', w', v', ?_, h2⟩
        simpa [Builtin.append_] using h1
  case copy =>
    replace h : arg1 ts (fun t => arg2 args fun d x => copyA P t d x σ) = some (v, σ') := h
    obtain ⟨t, r, rfl, ha1⟩ := arg1_eq h
    obtain ⟨d, x, r', rfl, ha2⟩ := arg2_eq ha1
    clear h ha1
    have h := ha2
    cases ha with
    | cons hd hr => cases hr with
      | cons hx hr =>
        obtain ⟨e', w', v', h1, h2⟩ := copy_sound (P := P) (ty := ty) (xt := t) hW hd hx h
        refine MoveOk.op ⟨e', w', v', ?_, h2⟩
        simpa [Builtin.copy_] using h1
  case clear =>
    replace h : arg1 ts (fun t => arg1 args fun x => clearA P t x σ) = some (v, σ') := h
    obtain ⟨t, r, rfl, ha1⟩ := arg1_eq h
    obtain ⟨x, r', rfl, ha2⟩ := arg1_eq ha1
    clear h ha1
    have h := ha2
    cases ha with
    | cons hx hr =>
      obtain ⟨e', w', v', h1, h2⟩ := clear_sound (P := P) (ty := ty) hW hx h
      refine MoveOk.op ⟨e', w', v', ?_, h2⟩
      simpa [Builtin.clear_] using h1
  case min =>
    replace h : pureA σ P (Builtin.min_ ts.toArray ty) args = some (v, σ') := h
    obtain ⟨h1, rfl⟩ := pure_still (w := w) ha h
    exact StillOk.op hW h1
  case max =>
    replace h : pureA σ P (Builtin.max_ ts.toArray ty) args = some (v, σ') := h
    obtain ⟨h1, rfl⟩ := pure_still (w := w) ha h
    exact StillOk.op hW h1

theorem toArr_sound {e : Env} {w : World} {ty : TypeId} {x x' : Value} {a : Nat × Nat × TypeId} {v : SliceV} {p : Nat × Nat} (hx : VRel e x x') (ha : arrayT P ty = some a) (hv : vSlice x = some v) (hp : v.base = some p) (h1 : a.1 ≤ v.len) (h2 : 1 ≤ v.len) :
    StillOk P e w (.pointer (some ⟨p.1, p.2, none⟩)) (Instr.arrayAt ty x') := by
  obtain ⟨hu, _⟩ := arrayT_und ha
  have hxe := vSlice_eq hv
  obtain ⟨sb, sl, sc⟩ := v
  simp only at hp h1 h2 hxe
  subst hp
  simp only [Option.map_some] at hxe
  subst hxe
  have h3 : ¬ sl < a.1 := by omega
  cases hx with
  | exact o len c hL hl => exact ⟨_, by simp [Instr.arrayAt, R_und hu, h3], .ptr _ hL⟩
  | «open» o len c hL hpos hl hcc => exact ⟨_, by simp [Instr.arrayAt, R_und hu, h3], .ptr _ hL⟩
  | open0 o c a hL hb hc => omega
theorem opA_sound {e : Env} {σ σ' : St} {w : World} (hW : WRel e σ w) {ρ ρ' : Rho} (hρ : RRel e ρ ρ') (o : Oper) {v : Value} (h : opA o.op P o.type ρ σ = some (v, σ')) : OpOk P e σ w v σ' (execOp ρ' o) := by
  obtain ⟨dst, op, type, pos, after, guard⟩ := o
  simp only at h
  cases op <;> try (cases h; done)
  case move x =>
    replace h : some (ρ x, σ) = some (v, σ') := h
    cases h
    exact ⟨e, w, .value (ρ' x), rfl, hW, .refl _ _ _, .inl ⟨_, rfl, hρ x⟩⟩
  case assign x =>
    replace h : some (ρ x, σ) = some (v, σ') := h
    cases h
    exact ⟨e, w, .value (ρ' x), rfl, hW, .refl _ _ _, .inl ⟨_, rfl, hρ x⟩⟩
  case pick c a b =>
    replace h : om (vBool (ρ c)) (fun q => (bc q (ρ a) (ρ b), σ)) = some (v, σ') := h
    rw [om_eq] at h; obtain ⟨q, hq, h⟩ := h
    cases h
    have hc := hρ c
    rw [vBool_eq hq] at hc
    have hc' : ρ' c = .bool q := by generalize ρ' c = y at hc; cases hc; rfl
    refine ⟨e, w, .value (if q then ρ' a else ρ' b), by simp [execOp, hc', asBool], hW, .refl _ _ _, .inl ⟨_, rfl, ?_⟩⟩
    cases q
    · exact hρ b
    · exact hρ a
  case alloc el =>
    replace h : ob (zro P el) (fun z => allocA 0 (vcells z) σ) = some (v, σ') := h
    rw [ob_eq] at h; obtain ⟨z, hz, h⟩ := h
    obtain ⟨e', w', hr, h1, h2, h3⟩ := alloc_sound (P := P) hW (cs' := vcells z) el (fun _ => .flats (flat_cells (zro_flat hz))) rfl h
    refine MoveOk.op ⟨e', w', _, ?_, h1, h2, h3⟩
    have hzc : z.cells = ⟨vcells z⟩ := by apply Array.ext'; rw [← vcells_eq]
    simp [Instr.alloc, R_zro hz, newVar, hzc, hr]
  case box el x =>
    replace h : allocA 0 (vcells (ρ x)) σ = some (v, σ') := h
    obtain ⟨e', w', hr, h1, h2, h3⟩ := alloc_sound (P := P) hW (cs' := vcells (ρ' x)) el (fun ho => (hρ x).cells (by rw [← allOne_all]; exact ho)) rfl h
    refine MoveOk.op ⟨e', w', _, ?_, h1, h2, h3⟩
    have hzc : (ρ' x).cells = ⟨vcells (ρ' x)⟩ := by apply Array.ext'; rw [← vcells_eq]
    simp [Instr.box, newVar, hzc, hr]
  case build t parts =>
    replace h : still σ (buildA P t (parts.toList.map fun p => (p.1, ρ p.2))) = some (v, σ') := h
    rw [still_eq] at h; obtain ⟨h, rfl⟩ := h
    have := build_sound (P := P) (w := w) (parts_rel hρ parts.toList) h
    have e1 : (parts.map fun (i, x) => (i, ρ' x)) = ⟨parts.toList.map fun p => (p.1, ρ' p.2)⟩ := by apply Array.ext'; simp
    rw [← e1] at this
    exact StillOk.op hW this
  case buildSlice t n parts =>
    replace h : buildSliceA P t n (parts.toList.map fun p => (p.1, ρ p.2)) σ = some (v, σ') := h
    have := buildSlice_sound (P := P) hW (parts_rel hρ parts.toList) h
    have e1 : (parts.map fun (i, x) => (i, ρ' x)) = ⟨parts.toList.map fun p => (p.1, ρ' p.2)⟩ := by apply Array.ext'; simp
    rw [← e1] at this
    exact MoveOk.op this
  case load t a =>
    replace h : still σ (loadA P t σ.heap (ρ a)) = some (v, σ') := h
    rw [still_eq] at h; obtain ⟨h, rfl⟩ := h
    exact StillOk.op hW (load_sound (P := P) hW (hρ a) h)
  case store t a x =>
    replace h : done (storeA P t (ρ a) (ρ x) σ) = some (v, σ') := h
    rw [done_eq] at h; obtain ⟨h, rfl⟩ := h
    exact unit_op (store_sound (P := P) hW (hρ a) (hρ x) h)
  case nilCheck x =>
    replace h : om (vPtr (ρ x)) (fun _ => (ρ x, σ)) = some (v, σ') := h
    rw [om_eq] at h; obtain ⟨p, hp, h⟩ := h
    cases h
    have hx := hρ x
    have hp' : ∃ a, ρ' x = .pointer (some a) := by rw [vPtr_eq hp] at hx; generalize ρ' x = y at hx; cases hx; exact ⟨_, rfl⟩
    obtain ⟨a, ha⟩ := hp'
    refine ⟨e, w, .value (ρ' x), by simp [execOp, ha], hW, .refl _ _ _, .inl ⟨_, rfl, hx⟩⟩
  case binOp op xt x y yt =>
    replace h : still σ (binA P op xt x y (ρ x) (ρ y)) = some (v, σ') := h
    rw [still_eq] at h; obtain ⟨h, rfl⟩ := h
    exact StillOk.op hW (binA_sound (P := P) (hρ x) (hρ y) h)
  case unOp op t x =>
    replace h : still σ (unA op P (ρ x)) = some (v, σ') := h
    rw [still_eq] at h; obtain ⟨h, rfl⟩ := h
    exact StillOk.op hW (unA_sound (P := P) (hρ x) h)
  case convert s d x =>
    replace h : convA P s d (ρ x) σ = some (v, σ') := h
    exact MoveOk.op (conv_sound (P := P) hW (hρ x) h)
  case sliceToArrayPointer ty x =>
    replace h : ob (arrayT P ty) (fun a => ob (vSlice (ρ x)) fun v => ob v.base fun p =>
      bc (Nat.ble a.1 v.len) (bc (Nat.ble 1 v.len) (some (Value.pointer (some ⟨p.1, p.2, none⟩), σ)) none) none) = some (v, σ') := h
    rw [ob_eq] at h; obtain ⟨a, ha, h⟩ := h
    rw [ob_eq] at h; obtain ⟨s, hs, h⟩ := h
    rw [ob_eq] at h; obtain ⟨p, hp, h⟩ := h
    rw [bc_none, bc_none] at h; obtain ⟨h1, h2, h⟩ := h
    cases h
    exact StillOk.op hW (toArr_sound (P := P) (hρ x) ha hs hp (by simpa using h1) (by simpa using h2))
  case makeFunc f first captured =>
    cases f <;> try (cases h; done)
    rename_i k
    replace h : some (Value.func (.func k) ⟨first.toList.map ρ⟩ ⟨captured.toList.map ρ⟩, σ) = some (v, σ') := h
    cases h
    have e1 : first.map ρ' = ⟨first.toList.map ρ'⟩ := by apply Array.ext'; simp
    have e2 : captured.map ρ' = ⟨captured.toList.map ρ'⟩ := by apply Array.ext'; simp
    refine MoveOk.op ⟨e, w, .func (.func k) (first.map ρ') (captured.map ρ'), rfl, hW, .refl _ _ _, ?_⟩
    rw [e1, e2]
    exact .func k (args_rel hρ _) (args_rel hρ _)
  case makeMap t r =>
    replace h : bc r.isNone (some (Value.map (some σ.next), newBlk σ (.map []))) none = some (v, σ') := h
    rw [bc_none] at h; obtain ⟨hr, h⟩ := h
    cases h
    have hr0 : r = none := by cases r <;> first | rfl | cases hr
    subst hr0
    obtain ⟨x1, x2⟩ := new_sound hW (L := ⟨w.heap.size, 0, 0, 0⟩) (B := .map []) (o := .map #[] 0) rfl (.map rfl (by simp) (by simp))
    exact MoveOk.op ⟨_, _, _, rfl, x1, x2, .map (Env.add_self e σ.next ⟨w.heap.size, 0, 0, 0⟩)⟩
  case makeSlice ty l c =>
    replace h : makeSliceA P ty (ρ l) (ρ c) σ = some (v, σ') := h
    exact MoveOk.op (makeSlice_sound (P := P) hW (hρ l) (hρ c) h)
  case slice ty x lo hi mx =>
    replace h : still σ (sliceA P σ.heap ty (ρ x) (om lo ρ) (om hi ρ) (om mx ρ)) = some (v, σ') := h
    rw [still_eq] at h; obtain ⟨h, rfl⟩ := h
    exact StillOk.op hW (slice_sound (P := P) hW (hρ x) (opt_rel hρ lo) (opt_rel hρ hi) (opt_rel hρ mx) h)
  case fieldAddr s x f =>
    replace h : still σ (fieldAddrA P s (ρ x) f) = some (v, σ') := h
    rw [still_eq] at h; obtain ⟨h, rfl⟩ := h
    exact StillOk.op hW (fieldAddr_sound (P := P) (hρ x) h)
  case field s x f =>
    replace h : still σ (fieldA P s (ρ x) f) = some (v, σ') := h
    rw [still_eq] at h; obtain ⟨h, rfl⟩ := h
    exact StillOk.op hW (field_sound (P := P) (hρ x) h)
  case indexAddr ty x ix =>
    replace h : still σ (indexAddrA P ty (ρ x) (ρ ix)) = some (v, σ') := h
    rw [still_eq] at h; obtain ⟨h, rfl⟩ := h
    exact StillOk.op hW (indexAddr_sound (P := P) (hρ x) (hρ ix) h)
  case index ty x ix =>
    replace h : still σ (indexA P ty (ρ x) (ρ ix)) = some (v, σ') := h
    rw [still_eq] at h; obtain ⟨h, rfl⟩ := h
    exact StillOk.op hW (index_sound (P := P) (hρ x) (hρ ix) h)
  case lookup ty x k ok =>
    replace h : still σ (lookupA P ty (ρ x) (ρ k) ok σ.heap) = some (v, σ') := h
    rw [still_eq] at h; obtain ⟨h, rfl⟩ := h
    exact StillOk.op hW (lookup_sound (P := P) hW (hρ x) (hρ k) h)
  case mapUpdate ty m k x =>
    replace h : done (mapUpdateA P ty (ρ m) (ρ k) (ρ x) σ) = some (v, σ') := h
    rw [done_eq] at h; obtain ⟨h, rfl⟩ := h
    exact unit_op (mapUpdate_sound (P := P) hW (hρ m) (hρ k) (hρ x) h)
  case extract x i =>
    replace h : ob (vTup (ρ x)) (fun vs => still σ (headOf (dropL i vs))) = some (v, σ') := h
    rw [ob_eq] at h; obtain ⟨vs, hvs, h⟩ := h
    rw [still_eq] at h; obtain ⟨h, rfl⟩ := h
    have hx := hρ x
    rw [vTup_eq hvs] at hx
    rw [dropL_eq] at h
    have hi : vs[i]? = some v := by
      cases hd : vs.drop i with
      | nil => rw [hd] at h; cases h
      | cons a r =>
        rw [hd] at h
        replace h : some a = some v := h
        cases h
        have hd0 : (vs.drop i)[0]? = some v := by rw [hd]; rfl
        rwa [List.getElem?_drop] at hd0
    generalize hy : ρ' x = y at hx
    cases hx with
    | tup hl =>
      obtain ⟨v', h1, h2⟩ := hl.get hi
      refine StillOk.op hW ⟨v', ?_, h2⟩
      simp [Instr.extract, hy, h1]
  case call c =>
    obtain ⟨callee, args, argTypes⟩ := c
    cases callee <;> try (cases h; done)
    rename_i b
    replace h : builtinA b P argTypes.toList type (args.toList.map ρ) σ = some (v, σ') := h
    have := builtin_sound (P := P) (cs := args.map fun | .const _ => true | _ => false) hW (args_rel hρ args.toList) h
    have e1 : args.map ρ' = ⟨args.toList.map ρ'⟩ := by apply Array.ext'; simp
    rw [← e1] at this
    obtain ⟨e', w', n, h1, h2⟩ := this
    refine ⟨e', w', n, ?_, h2⟩
    simp only [execOp, resolve, Sem.run_bind, Sem.run_pure, Result.andThen_ok, invoke]
    exact h1
end Go.AM
