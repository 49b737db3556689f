/- The abstract machine: structs, arrays and slices built, memory made, conversions. -/
import Derived.Test.YtfmpoodienmieaaAm6
import Derived.Laws.Tables
import Derived.Laws.MakeOwn
import Derived.Laws.AppendOwn
namespace Go.AM
variable {P : Program}
theorem zero_get (z : Array Value) (i : Nat) (h : 0 < z.size) : z[i % z.size]! = z.toList.getD (i % z.toList.length) undef := by
  have hl : i % z.size < z.size := Nat.mod_lt _ h
  simp [List.getD, hl]
theorem made_eq (z : Array Value) (n : Nat) : madeCells z (n * z.size) = ⟨zerosA z.toList n⟩ := by
  apply Array.ext'
  simp only [madeCells, zerosA, Array.toList_map, Array.toList_range, Array.length_toList]
  apply List.map_congr_left
  intro i hi
  have : 0 < z.size := by
    rcases Nat.eq_zero_or_pos z.size with h | h
    · simp [h] at hi
    · exact h
  simpa using zero_get z i this
theorem zeroCells_eq (z : Array Value) (n : Nat) : Builtin.zeroCells z n = ⟨zerosA z.toList n⟩ := by
  rw [← made_eq]; rfl
theorem zeros_length (z : List Value) (n : Nat) : (zerosA z n).length = n * z.length := by simp [zerosA]
theorem flat_mem {l : List Value} (h : allFlat l = true) {v : Value} (hv : v ∈ l) : isFlat v = true := by
  induction l with
  | nil => cases hv
  | cons a l ih =>
    rw [allFlat_cons, Bool.and_eq_true] at h
    cases hv with
    | head => exact h.1
    | tail _ h2 => exact ih h.2 h2
theorem flat_cells {v : Value} (h : isFlat v = true) : allFlat (vcells v) = true := by
  cases v with
  | agg a => obtain ⟨l⟩ := a; rw [isFlat_agg_list] at h; exact h
  | _ => first | exact (by have := allFlat_cons; simp only [vcells]; show allFlat [_] = true; rw [this, h]; rfl)
theorem LRel.flats {e : Env} {l : List Value} (h : allFlat l = true) : LRel e l l := by
  induction l with
  | nil => exact .nil
  | cons a l ih => rw [allFlat_cons, Bool.and_eq_true] at h; exact .cons (.flat e h.1) (ih h.2)
theorem zeros_rel {e : Env} {z : List Value} (n : Nat) (h : allFlat z = true) : LRel e (zerosA z n) (zerosA z n) := by
  refine .of_get rfl fun j v v' h1 h2 => ?_
  rw [h1] at h2; cases h2
  have hm := List.mem_of_getElem? h1
  simp only [zerosA, List.mem_map, List.mem_range] at hm
  obtain ⟨i, hi, rfl⟩ := hm
  have hz : 0 < z.length := by
    rcases Nat.eq_zero_or_pos z.length with h | h
    · simp [h] at hi
    · exact h
  have hl : i % z.length < z.length := Nat.mod_lt _ hz
  refine .flat e (flat_mem h ?_)
  simp [List.getD, hl]
theorem zeros_one {z : List Value} (n : Nat) (h : allOne z = true) : allOne (zerosA z n) = true := by
  rw [allOne_all, List.all_eq_true]
  intro v hm
  simp only [zerosA, List.mem_map, List.mem_range] at hm
  obtain ⟨i, hi, rfl⟩ := hm
  have hz : 0 < z.length := by
    rcases Nat.eq_zero_or_pos z.length with h | h
    · simp [h] at hi
    · exact h
  have hl : i % z.length < z.length := Nat.mod_lt _ hz
  refine allOne_mem h ?_
  simp [List.getD, hl]

/-! ### Parts filled in -/
theorem splice_fold (o : Nat) (l : List Value) : ∀ (k : Nat) (cells : Array Value), ((l.zipIdx k).foldl (fun cs p => cs.setIfInBounds (o + p.2) p.1) cells).toList = splice cells.toList (o + k) l := by
  induction l with
  | nil => intro k cells; rfl
  | cons v l ih =>
    intro k cells
    rw [List.zipIdx_cons, List.foldl_cons, ih, splice_cons]
    simp [Nat.add_assoc]
theorem LRel.set {e : Env} {l l' : List Value} (h : LRel e l l') {v v' : Value} (hv : VRel e v v') (i : Nat) : LRel e (l.set i v) (l'.set i v') := by
  induction l generalizing l' i with
  | nil => cases h; exact .nil
  | cons a l ih => cases h with
    | cons h hl => cases i with
      | zero => exact .cons hv hl
      | succ i => exact .cons h (ih hl i)
theorem LRel.splice {e : Env} {vs vs' : List Value} (hv : LRel e vs vs') : ∀ {l l' : List Value} (_ : LRel e l l') (o : Nat), LRel e (splice l o vs) (splice l' o vs') := by
  induction vs generalizing vs' with
  | nil => intro l l' h o; cases hv; exact h
  | cons a vs ih => intro l l' h o; cases hv with
    | cons h1 h2 => rw [splice_cons, splice_cons]; exact ih h2 (h.set h1 o) (o + 1)
/-- Parts and the model's parts. -/
inductive PRel (e : Env) : List (Nat × Value) → List (Nat × Value) → Prop where
  | nil : PRel e [] []
  | cons {i : Nat} {v v' : Value} {l l' : List (Nat × Value)} (h : VRel e v v') (hl : PRel e l l') : PRel e ((i, v) :: l) ((i, v') :: l')
theorem fill_sound {e : Env} {place : Nat → Option (Nat × Nat)} {parts parts' : List (Nat × Value)} (hp : PRel e parts parts') : ∀ {cs cs' r : List Value} (_ : LRel e cs cs') (_ : fillA place parts cs = some r),
    ∃ r', Instr.fill place ⟨cs'⟩ parts' = some ⟨r'⟩ ∧ LRel e r r' := by
  induction parts generalizing parts' with
  | nil => intro cs cs' r h hf; cases hp; replace hf : some cs = some r := hf; cases hf; exact ⟨cs', rfl, h⟩
  | cons p parts ih =>
    intro cs cs' r h hf
    cases hp with
    | cons hv hl =>
      rename_i i v v' l'
      replace hf : ob (place i) (fun q => bc (allOne (vcells v)) (bc (Nat.beq (vcells v).length q.2) (bc (Nat.ble (Nat.add q.1 (vcells v).length) cs.length) (fillA place parts (splice cs q.1 (vcells v))) none) none) none) = some r := hf
      rw [ob_eq] at hf; obtain ⟨q, hq, hf⟩ := hf
      rw [bc_none, bc_none, bc_none] at hf
      obtain ⟨h1, h2, h3, hf⟩ := hf
      rw [allOne_all] at h1
      have hc := hv.cells h1
      obtain ⟨r', hr, hrel⟩ := ih hl (hc.splice h q.1) hf
      refine ⟨r', ?_, hrel⟩
      have e1 : v'.cells.size = (vcells v).length := by rw [hc.length, vcells_eq]; simp
      have e2 : (vcells v).length = q.2 := by simpa using h2
      have e3 : q.1 + (vcells v).length ≤ cs'.length := by rw [← h.length]; simpa using h3
      obtain ⟨q1, q2⟩ := q
      simp only at e2 e3 hr hq
      rw [Instr.fill, hq]
      have e4 : ¬ ((decide (v'.cells.size ≠ q2) || decide (q1 + v'.cells.size > (⟨cs'⟩ : Array Value).size)) = true) := by
        simp only [Bool.or_eq_true, decide_eq_true_eq, not_or]
        constructor
        · omega
        · simp; omega
      have e5 : (v'.cells.zipIdx.foldl (fun cs p => cs.setIfInBounds (q1 + p.2) p.1) (⟨cs'⟩ : Array Value)) = ⟨AM.splice cs' q1 (vcells v')⟩ := by
        apply Array.ext'
        rw [← Array.foldl_toList, Array.toList_zipIdx, splice_fold, vcells_eq]; rfl
      simp only [ne_eq, decide_not, gt_iff_lt, Bool.or_eq_true, Bool.not_eq_true', decide_eq_false_iff_not, decide_eq_true_eq, not_or, Decidable.not_not] at e4 ⊢
      rw [if_neg (by simpa using e4)]
      exact (congrArg (fun c => Instr.fill place c l') e5).trans hr

theorem places_eq {fs : List Field} {l : List (Nat × Nat)} (h : placesA P fs = some l) : fs.mapM (fun f => (P.info? f.type).map fun i => (f.offset, i.size)) = some l := by
  induction fs generalizing l with
  | nil => simp [placesA] at h; subst h; rfl
  | cons f r ih =>
    simp only [placesA] at h
    cases hs : sz P f.type with
    | none => simp [hs] at h
    | some n =>
      cases hr : placesA P r with
      | none => simp [hs, hr] at h
      | some q =>
        simp [hs, hr] at h
        subst h
        obtain ⟨i, hi, rfl⟩ := sz_info hs
        simp [hi, ih hr]
theorem build_sound {e : Env} {w : World} {t : TypeId} {parts parts' : List (Nat × Value)} (hp : PRel e parts parts') {v : Value} (h : buildA P t parts = some v) : StillOk P e w v (Instr.build t ⟨parts'⟩) := by
  unfold buildA at h
  rw [ob_eq] at h; obtain ⟨b, hb, h⟩ := h
  rw [om_eq] at h; obtain ⟨cs, hcs, rfl⟩ := h
  unfold buildT at hb
  rw [ob_eq] at hb; obtain ⟨z, hz, hb⟩ := hb
  obtain ⟨i, hi, hiz⟩ := zro_info hz
  have hzf : LRel e (vcells z) (vcells z) := .flats (flat_cells (zro_flat hz))
  have hzc : z.cells = ⟨vcells z⟩ := by apply Array.ext'; rw [← vcells_eq]
  cases hu : und P t with
  | none => rw [hu] at hb; simp at hb
  | some d =>
    rw [hu] at hb
    have hu' : P.underlying t = some d := hu
    cases d <;> simp only [] at hb <;> try (cases hb; done)
    case struct fs =>
      cases hpl : placesA P fs.toList with
      | none => simp [hpl] at hb
      | some ps =>
        simp [hpl] at hb
        subst hb
        obtain ⟨r', hr, hrel⟩ := fill_sound hp hzf hcs
        refine ⟨_, run_build w t ⟨parts'⟩ ⟨r'⟩ ?_, .agg hrel⟩
        simp only [Program.built, hi, hu', hiz, places_eq hpl, hzc]
        have : (fun (i : Nat) => ps[i]?) = fun (i : Nat) => ps.toArray[i]? := by funext i; simp
        rw [this] at hr
        exact hr
    case array n el =>
      cases hs : sz P el with
      | none => simp [hs] at hb
      | some s =>
        simp [hs] at hb
        subst hb
        obtain ⟨r', hr, hrel⟩ := fill_sound hp hzf hcs
        obtain ⟨ie, hie, rfl⟩ := sz_info hs
        refine ⟨_, run_build w t ⟨parts'⟩ ⟨r'⟩ ?_, .agg hrel⟩
        simp only [Program.built, hi, hu', hiz, hie, hzc]
        exact hr

/-! ### Slices made -/
theorem drew_sound {e : Env} {σ : St} {w : World} (hW : WRel e σ w) : WRel e σ w.drew ∧ Grow e σ w e σ w.drew :=
  ⟨⟨hW.dom, hW.blk, hW.sep, hW.bnd⟩, ⟨.refl e, fun _ _ => rfl, Nat.le_refl _, rfl, Nat.le_refl _, rfl, rfl, rfl, fun _ _ _ => rfl, fun _ _ h => h, fun _ _ h => .inl h, fun _ _ _ => rfl, fun _ _ _ => rfl, Nat.le_refl _⟩⟩
theorem buildSlice_sound {e : Env} {σ σ' : St} {w : World} (hW : WRel e σ w) {t : TypeId} {n : Nat} {parts parts' : List (Nat × Value)} (hp : PRel e parts parts') {v : Value}
    (h : buildSliceA P t n parts σ = some (v, σ')) : MoveOk P e σ w v σ' (Instr.buildSlice t n ⟨parts'⟩) := by
  unfold buildSliceA at h
  rw [ob_eq] at h; obtain ⟨s, hs, h⟩ := h
  rw [bc_none] at h; obtain ⟨hle, h⟩ := h
  rw [ob_eq] at h; obtain ⟨cs, hcs, h⟩ := h
  rw [bc_none, bc_none] at h; obtain ⟨hone, hzl, h⟩ := h
  cases h
  obtain ⟨hu, hsz, hby, z, hz, hzs, _⟩ := sliceT_und hs
  have hle : n * s.size ≤ 2 ^ 24 := by simpa using hle
  have hzl : s.zero.length = s.size := by simpa using hzl
  have hzf := flat_cells (zro_flat hz)
  rw [← hzs] at hzf
  obtain ⟨r', hr, hrel⟩ := fill_sound hp (zeros_rel (e := e) n hzf) hcs
  have hlen : cs.length = n * s.size := by
    have : ∀ (parts : List (Nat × Value)) (a b : List Value), fillA (fun i => some (i * s.size, s.size)) parts a = some b → b.length = a.length := by
      intro parts
      induction parts with
      | nil => intro a b h; replace h : some a = some b := h; cases h; rfl
      | cons p parts ih =>
        intro a b h
        replace h : bc (allOne (vcells p.2)) (bc (Nat.beq (vcells p.2).length s.size) (bc (Nat.ble (Nat.add (p.1 * s.size) (vcells p.2).length) a.length) (fillA (fun i => some (i * s.size, s.size)) parts (splice a (p.1 * s.size) (vcells p.2))) none) none) none = some b := h
        rw [bc_none, bc_none, bc_none] at h
        rw [ih _ _ h.2.2.2, splice_length]
    rw [this _ _ _ hcs, zeros_length, hzl]
  obtain ⟨a, b⟩ := row_sound hW s.size (n * s.size) s.elem hrel (more := []) (fun _ => by rw [← hrel.length, hlen]; simp)
  rw [List.append_nil] at a b
  refine ⟨_, _, .slice (some ⟨w.heap.size, 0, none⟩) n n, ?_, a, b, by simpa using VRel.exact 0 n n (Env.add_self e σ.next ⟨w.heap.size, 0, n * s.size, s.size⟩) (Nat.le_refl _)⟩
  have hzz : z.cells.size = s.size := by rw [← hzl, hzs, vcells_eq]; simp
  have hcell : (Array.range (n * s.size)).map (fun x => (if n * s.size = 0 then (#[] : Array Value) else z.cells)[x % (if n * s.size = 0 then (#[] : Array Value) else z.cells).size]!) = ⟨zerosA s.zero n⟩ := by
    by_cases h0 : n * s.size = 0
    · rw [if_pos h0, h0]; apply Array.ext'; have : zerosA s.zero n = [] := List.eq_nil_of_length_eq_zero (by rw [zeros_length, hzl, h0]); simp [this]
    · rw [if_neg h0]
      have := made_eq z.cells n
      rw [hzz, ← vcells_eq, ← hzs] at this
      exact this
  have hnot : ¬ (n * s.size > 2 ^ 24) := by omega
  by_cases h0 : n * s.size = 0
  · rw [if_pos h0] at hcell
    simp only [Instr.buildSlice, Sem.run_bind, R_und hu, Result.andThen_ok, R_sz hsz, if_neg hnot, if_pos h0, Sem.run_pure, hcell, hr]
    simp [newRow]
  · rw [if_neg h0] at hcell
    simp only [Instr.buildSlice, Sem.run_bind, R_und hu, Result.andThen_ok, R_sz hsz, if_neg hnot, if_neg h0, Sem.run_pure, R_zro hz, hcell, hr]
    simp [newRow]
theorem makeSlice_sound {e : Env} {σ σ' : St} {w : World} (hW : WRel e σ w) {t : TypeId} {x x' y y' : Value} (hx : VRel e x x') (hy : VRel e y y') {v : Value}
    (h : makeSliceA P t x y σ = some (v, σ')) : MoveOk P e σ w v σ' (Instr.makeSlice t x' y') := by
  unfold makeSliceA at h
  rw [ob_eq] at h; obtain ⟨s, hs, h⟩ := h
  rw [ob_eq] at h; obtain ⟨l, hl, h⟩ := h
  rw [ob_eq] at h; obtain ⟨c, hc, h⟩ := h
  split at h
  · rename_i hcond
    obtain ⟨h1, h2, h3, h4, h5⟩ := hcond
    rw [bc_none] at h; obtain ⟨hone, h⟩ := h
    cases h
    obtain ⟨hu, hsz, hby, z, hz, hzs, _⟩ := sliceT_und hs
    obtain ⟨i, hi, hiz⟩ := zro_info hz
    have hib : i.bytes = s.bytes := by obtain ⟨j, hj, hb⟩ := byt_info hby; rw [hi] at hj; cases hj; exact hb
    have his : i.size = s.size := by obtain ⟨j, hj, hb⟩ := sz_info hsz; rw [hi] at hj; cases hj; exact hb
    have ex := vInt_eq hl; have ey := vInt_eq hc
    subst ex; subst ey
    cases hx; cases hy
    obtain ⟨lk, l⟩ := l; obtain ⟨ck, c⟩ := c
    simp only at h1 h2 h3 h4 ⊢
    have hzf := flat_cells (zro_flat hz)
    rw [← hzs] at hzf
    have hzz : z.cells.size = s.size := by rw [← h5, hzs, vcells_eq]; simp
    have hr := run_make (P := P) w t s.elem i z hu hi hiz lk ck l c h1 h2 (by rw [hib]; omega) (by omega)
    rw [his, ← hzz, made_eq, ← vcells_eq, ← hzs] at hr
    obtain ⟨a, b⟩ := row_sound hW s.size (c.toNat * s.size) s.elem (zeros_rel (e := e) c.toNat hzf) (more := []) (fun _ => by rw [zeros_length, h5]; simp)
    rw [List.append_nil] at a b
    exact ⟨_, _, _, hr, a, b, by simpa using VRel.exact 0 l.toNat c.toNat (Env.add_self e σ.next ⟨w.heap.size, 0, c.toNat * s.size, s.size⟩) (by omega)⟩
  · cases h
end Go.AM
