/- The abstract machine: builtins. -/
import Derived.Test.YtfmpoodienmieaaAm8
namespace Go.AM
variable {P : Program}
theorem byteVals_rel (e : Env) (s : ByteArray) : LRel e (byteVals s) (byteVals s) := by
  refine .flats ?_
  unfold byteVals
  induction s.data.toList with
  | nil => rfl
  | cons b l ih => rw [List.map_cons, allFlat_cons, ih]; rfl
theorem srcLen_sound {e : Env} {x x' : Value} (hx : VRel e x x') {n : Nat} (h : srcLen x = some n) (w : World) : (Builtin.lenOf x').run P w = .ok n w := by
  unfold srcLen at h
  cases hs : vSlice x with
  | none =>
    rw [hs] at h
    replace h : om (vStr x) (fun s => s.size) = some n := h
    rw [om_eq] at h; obtain ⟨s, hs, rfl⟩ := h
    have := vStr_eq hs
    subst this
    cases hx
    rfl
  | some v =>
    rw [hs] at h
    replace h : some v.len = some n := h
    cases h
    obtain ⟨a', c', rfl, _⟩ := hx.slice_nil hs
    rfl
theorem srcCells_sound {e : Env} {σ : St} {w : World} (hW : WRel e σ w) {x x' : Value} (hx : VRel e x x') {size n m : Nat} {cs : List Value} (hm : srcLen x = some m) (hnm : n ≤ m) (h : srcCells size n x σ.heap = some cs) :
    ∃ cs', (∀ w1 : World, w1.heap = w.heap → (Builtin.firstCells size n x').run P w1 = .ok ⟨cs'⟩ w1) ∧ LRel e cs cs' := by
  unfold srcCells at h
  cases hs : vSlice x with
  | none =>
    rw [hs] at h
    replace h : om (vStr x) (fun s => takeL n (byteVals s)) = some cs := h
    rw [om_eq] at h; obtain ⟨s, hs, rfl⟩ := h
    have := vStr_eq hs
    subst this
    cases hx
    refine ⟨_, ?_, by rw [takeL_eq]; exact (byteVals_rel e s).take n⟩
    intro w1 _
    simp only [Builtin.firstCells, Sem.run_pure]
    congr 1
    apply Array.ext'
    simp [byteVals, ByteArray.data_extract, List.extract, List.map_take]
  | some v =>
    rw [hs] at h
    have hxe := vSlice_eq hs
    obtain ⟨sb, sl, sc⟩ := v
    cases sb with
    | none =>
      replace h : some [] = some cs := h
      cases h
      subst hxe
      cases hx
      exact ⟨[], fun _ _ => run_firstCells_none _ _ _ _ _, .nil⟩
    | some p =>
      replace h : readAt σ.heap p.1 p.2 (n * size) = some cs := h
      simp only [Option.map_some] at hxe
      subst hxe
      cases hx with
      | exact o len c hL hl => obtain ⟨cs', h1, h2, _⟩ := read_sound_at (P := P) hW hL h; exact ⟨cs', h1, h2⟩
      | «open» o len c hL hpos hl hcc => obtain ⟨cs', h1, h2, _⟩ := read_sound_at (P := P) hW hL h; exact ⟨cs', h1, h2⟩
      | open0 o c a hL hb hc =>
        unfold srcLen at hm
        rw [hs] at hm
        replace hm : some 0 = some m := hm
        cases hm
        have : n = 0 := by omega
        subst this
        simp only [Nat.zero_mul] at h
        replace h : some [] = some cs := h
        cases h
        exact ⟨[], fun _ _ => by simp [Builtin.firstCells, loadCells, loadCellsFrom], .nil⟩
theorem slice_len_cap {e : Env} {v : SliceV} {x x' : Value} (hs : vSlice x = some v) (hx : VRel e x x') : ∃ a c, x' = .slice a v.len c ∧ v.len ≤ c := by
  have hxe := vSlice_eq hs
  obtain ⟨sb, sl, sc⟩ := v
  subst hxe
  cases sb with
  | none => cases hx; exact ⟨_, _, rfl, Nat.le_refl _⟩
  | some p => cases hx with
    | exact o len c hL hl => exact ⟨_, _, rfl, hl⟩
    | «open» o len c hL hpos hl hcc => exact ⟨_, _, rfl, hl⟩
    | open0 o c a hL hb hc => exact ⟨_, _, rfl, Nat.zero_le _⟩
theorem none_stored (w : World) (n : Nat) : ∀ a' : Option Addr, (match a' with | some a => storeCells (a.add n) (#[] : Array Value).toList | none => pure ()).run P w = .ok () w
  | none => rfl
  | some _ => rfl
theorem append_sound {e : Env} {σ σ' : St} {w : World} (hW : WRel e σ w) {st xt ty : TypeId} {sv sv' x x' r : Value} (hv : VRel e sv sv') (hx : VRel e x x') (h : appendA P st xt sv x σ = some (r, σ')) :
    MoveOk P e σ w r σ' (Builtin.append_ #[st, xt] ty #[sv', x']) := by
  unfold appendA at h
  rw [ob_eq] at h; obtain ⟨s, hs, h⟩ := h
  rw [ob_eq] at h; obtain ⟨v, hsv, h⟩ := h
  obtain ⟨hu, hsz, hby, z, hz, hzs, hzl⟩ := sliceT_und hs
  obtain ⟨a', c', hsv', hlc⟩ := slice_len_cap hsv hv
  obtain ⟨hW0, hG0⟩ := drew_sound hW
  have hzz : z.cells = ⟨s.zero⟩ := by apply Array.ext'; rw [← vcells_eq, ← hzs]
  rw [bc_eq] at h
  split at h
  · rename_i hint
    rw [ob_eq] at h; obtain ⟨l, hl, h⟩ := h
    have := vInt_eq hl
    subst this
    cases hx
    obtain ⟨k', l⟩ := l
    simp only at h ⊢
    have hxu : ∃ k, und P xt = some (.int k) := by
      unfold isIntT at hint
      cases hd : und P xt with
      | none => simp [hd] at hint
      | some d => rw [hd] at hint; cases d <;> simp at hint; exact ⟨_, rfl⟩
    obtain ⟨k, hxu⟩ := hxu
    unfold appendZ at h
    split at h
    · rename_i hcond
      obtain ⟨h0, h1, h2, h3⟩ := hcond
      cases hn : l.toNat with
      | zero =>
        rw [hn] at h
        replace h : some (sv, σ) = some (r, σ') := h
        cases h
        subst hsv'
        refine ⟨e, w, .slice a' v.len c', ?_, hW, .refl _ _ _, hv⟩
        have := run_apz_room (P := P) w (ty := ty) (k' := k') hu hsz hby hz hxu h0 h2 h1 hn (by simpa using hlc) (base := a') (sLen := v.len) (sCap := c') (w' := w) (by rw [if_pos (Nat.zero_mul _)]; exact none_stored w _ a')
        simpa using this
      | succ n =>
        rw [hn] at h
        replace h : appendTo s.size s.bytes v (zerosA s.zero (n + 1)) (n + 1) σ = some (r, σ') := h
        have hzf := flat_cells (zro_flat hz)
        rw [← hzs] at hzf
        have hpos : ¬ (n + 1) * s.size = 0 := by
          have h' := h
          unfold appendTo at h'
          rw [bc_none, bc_none] at h'
          have : 1 ≤ s.size := by simpa using h'.2.1
          exact Nat.ne_of_gt (Nat.mul_pos (Nat.succ_pos n) this)
        have hze : (if (n + 1) * s.size = 0 then (#[] : Array Value) else Builtin.zeroCells z.cells (n + 1)) = ⟨zerosA s.zero (n + 1)⟩ := by rw [if_neg hpos, zeroCells_eq, hzz]
        refine appendTo_sound hW hsv hv (zeros_rel (n + 1) hzf) (z := z) (el := s.elem) (by rw [← hzs]; exact hzl) h ?_ ?_
        · intro base sLen sCap w' e1 hroom hst
          rw [e1]
          refine run_apz_room (P := P) w hu hsz hby hz hxu h0 h2 h1 hn hroom ?_
          rw [hze]; exact hst
        · intro base sLen sCap old e1 hg hfit h63 ho
          have := run_apz_grow (P := P) w (ty := ty) (k' := k') hu hsz hby hz hxu h0 h2 h1 hn hg h63 hfit ho
          rw [hze] at this
          rw [e1]; exact this
    · cases h
  · rename_i hint
    rw [ob_eq] at h; obtain ⟨d, hd, h⟩ := h
    rw [ob_eq] at h; obtain ⟨n, hn, h⟩ := h
    have hnd : ∀ k, d ≠ .int k := by
      intro k hk; subst hk; unfold isIntT at hint; rw [hd] at hint; simp at hint
    cases n with
    | zero =>
      replace h : some (sv, σ) = some (r, σ') := h
      cases h
      subst hsv'
      refine ⟨e, w, .slice a' v.len c', ?_, hW, .refl _ _ _, hv⟩
      have hf : (Builtin.firstCells s.size 0 x').run P w = .ok #[] w := by
        have hsl := srcLen_sound (P := P) hx hn w
        unfold srcLen at hn
        cases hxs : vSlice x with
        | none =>
          rw [hxs] at hn
          replace hn : om (vStr x) (fun s => s.size) = some 0 := hn
          rw [om_eq] at hn; obtain ⟨q, hq, _⟩ := hn
          have := vStr_eq hq
          subst this
          cases hx
          simp [Builtin.firstCells]
        | some xv =>
          obtain ⟨xa, xc, rfl, _⟩ := hx.slice_nil hxs
          cases xa <;> simp [Builtin.firstCells, loadCells, loadCellsFrom]
      have := run_app_room (P := P) w (ty := ty) hu hsz hd hnd (srcLen_sound (P := P) hx hn w) (by simpa using hlc) hf (base := a') (w' := w) (none_stored (P := P) w (v.len * s.size) a')
      simpa using this
    | succ n =>
      replace h : ob (srcCells s.size (n + 1) x σ.heap) (fun new => appendTo s.size s.bytes v new (n + 1) σ) = some (r, σ') := h
      rw [ob_eq] at h; obtain ⟨new, hnew, h⟩ := h
      obtain ⟨new', hf, hrel⟩ := srcCells_sound (P := P) hW hx hn (Nat.le_refl _) hnew
      refine appendTo_sound hW hsv hv hrel (z := z) (el := s.elem) (by rw [← hzs]; exact hzl) h ?_ ?_
      · intro base sLen sCap w' e1 hroom hst
        rw [e1]
        exact run_app_room (P := P) w hu hsz hd hnd (srcLen_sound hx hn w) hroom (hf w rfl) (by simpa using hst)
      · intro base sLen sCap old e1 hg hfit h63 ho
        have := run_app_grow (P := P) w (ty := ty) hu hsz hby hz hd hnd (srcLen_sound hx hn w) hg (.inr h63) hfit ho (hf w.drew rfl)
        rw [e1]; exact this
theorem copy_sound {e : Env} {σ σ' : St} {w : World} (hW : WRel e σ w) {dt xt ty : TypeId} {d d' x x' r : Value} (hd : VRel e d d') (hx : VRel e x x') (h : copyA P dt d x σ = some (r, σ')) :
    MoveOk P e σ w r σ' (Builtin.copy_ #[dt, xt] ty #[d', x']) := by
  unfold copyA at h
  rw [ob_eq] at h; obtain ⟨s, hs, h⟩ := h
  rw [ob_eq] at h; obtain ⟨v, hv, h⟩ := h
  rw [ob_eq] at h; obtain ⟨m, hm, h⟩ := h
  rw [ob_eq] at h; obtain ⟨cs, hcs, h⟩ := h
  obtain ⟨hu, hsz, hby, z, hz, hzs, hzl⟩ := sliceT_und hs
  obtain ⟨cs', hf, hrel⟩ := srcCells_sound (P := P) hW hx hm (Nat.min_le_left _ _) hcs
  have hl := srcLen_sound (P := P) hx hm w
  have hxe := vSlice_eq hv
  obtain ⟨sb, sl, sc⟩ := v
  cases sb with
  | none =>
    replace h : some (goInt (Nat.min m sl), σ) = some (r, σ') := h
    cases h
    subst hxe
    cases hd
    have hf0 := hf w rfl
    simp at hf0
    exact ⟨e, w, _, by simp [Builtin.copy_, R_und hu, hl, R_sz hsz, hf0]; rfl, hW, .refl _ _ _, .int _ _⟩
  | some p =>
    replace h : om (writeAt σ p.1 p.2 cs) (fun σ => (goInt (Nat.min m sl), σ)) = some (r, σ') := h
    rw [om_eq] at h; obtain ⟨σ1, hw, h⟩ := h
    cases h
    simp only [Option.map_some] at hxe
    subst hxe
    have fin : ∀ (L : LocE) (c : Nat), e p.1 = some L → d' = .slice (some ⟨L.b, L.s + p.2, none⟩) sl c → MoveOk P e σ w (goInt (Nat.min m sl)) σ' (Builtin.copy_ #[dt, xt] ty #[d', x']) := fun L c hL hd' => by
      obtain ⟨w', hrun, h1, h2⟩ := write_sound (P := P) hW hL hw hrel
      subst hd'
      exact ⟨e, w', _, by simp [Builtin.copy_, R_und hu, hl, R_sz hsz, hf w rfl, hrun]; rfl, h1, h2, .int _ _⟩
    cases hd with
    | exact o len c hL hl => exact fin _ _ hL rfl
    | «open» o len c hL hpos hl hcc => exact fin _ _ hL rfl
    | open0 o c a hL hb hc =>
      have hn : cs = [] := by
        unfold srcCells at hcs
        cases hxs : vSlice x with
        | none =>
          rw [hxs] at hcs
          replace hcs : om (vStr x) (fun s => takeL (Nat.min m 0) (byteVals s)) = some cs := hcs
          rw [om_eq] at hcs; obtain ⟨q, _, rfl⟩ := hcs
          simp [takeL_eq]
        | some xv =>
          rw [hxs] at hcs
          obtain ⟨xb, xl, xc⟩ := xv
          cases xb with
          | none => replace hcs : some [] = some cs := hcs; cases hcs; rfl
          | some q =>
            replace hcs : readAt σ.heap q.1 q.2 (Nat.min m 0 * s.size) = some cs := hcs
            have e0 : Nat.min m 0 * s.size = 0 := by simp
            rw [e0] at hcs
            replace hcs : some [] = some cs := hcs
            cases hcs; rfl
      subst hn
      cases hrel
      replace hw : some σ = some σ' := hw
      cases hw
      have hf0 := hf w rfl
      simp at hf0
      exact ⟨e, w, _, by simp [Builtin.copy_, R_und hu, hl, R_sz hsz, hf0, storeCells]; rfl, hW, .refl _ _ _, .int _ _⟩
theorem clear_sound {e : Env} {σ σ' : St} {w : World} (hW : WRel e σ w) {t ty : TypeId} {x x' r : Value} (hx : VRel e x x') (h : clearA P t x σ = some (r, σ')) :
    MoveOk P e σ w r σ' (Builtin.clear_ #[t] ty #[x']) := by
  unfold clearA at h
  rw [ob_eq] at h; obtain ⟨s, hs, h⟩ := h
  rw [ob_eq] at h; obtain ⟨v, hv, h⟩ := h
  obtain ⟨hu, hsz, hby, z, hz, hzs, hzl⟩ := sliceT_und hs
  have hxe := vSlice_eq hv
  obtain ⟨sb, sl, sc⟩ := v
  cases sb with
  | none =>
    replace h : some (undef, σ) = some (r, σ') := h
    cases h
    subst hxe
    cases hx
    exact ⟨e, w, _, by simp [Builtin.clear_, R_und hu]; rfl, hW, .refl _ _ _, .undef _⟩
  | some p =>
    replace h : bc (Nat.beq sl 0) (some (undef, σ)) (bc (Nat.beq s.zero.length s.size) (done (writeAt σ p.1 p.2 (zerosA s.zero sl))) none) = some (r, σ') := h
    simp only [Option.map_some] at hxe
    subst hxe
    rw [bc_eq] at h
    split at h
    · rename_i h0
      replace h0 : sl = 0 := by simpa using h0
      subst h0
      cases h
      obtain ⟨a', c', rfl, _⟩ := hx.slice_nil (s := ⟨some p, 0, sc⟩) hv
      exact ⟨e, w, _, by cases a' <;> simp [Builtin.clear_, R_und hu] <;> rfl, hW, .refl _ _ _, .undef _⟩
    · rename_i h0
      replace h0 : ¬ sl = 0 := by simpa using h0
      rw [bc_none] at h; obtain ⟨_, h⟩ := h
      unfold done at h
      rw [om_eq] at h; obtain ⟨σ1, hw, h⟩ := h
      cases h
      have hzf := flat_cells (zro_flat hz)
      rw [← hzs] at hzf
      have hzz : z.cells = ⟨s.zero⟩ := by apply Array.ext'; rw [← vcells_eq, ← hzs]
      have fin : ∀ (L : LocE) (c : Nat), e p.1 = some L → x' = .slice (some ⟨L.b, L.s + p.2, none⟩) sl c → MoveOk P e σ w undef σ' (Builtin.clear_ #[t] ty #[x']) := fun L c hL hx' => by
        obtain ⟨w', hrun, h1, h2⟩ := write_sound (P := P) hW hL hw (zeros_rel sl hzf)
        subst hx'
        obtain ⟨n, rfl⟩ : ∃ n, sl = n + 1 := ⟨sl - 1, by omega⟩
        refine ⟨e, w', _, ?_, h1, h2, .undef _⟩
        simp [Builtin.clear_, R_und hu, R_zro hz, zeroCells_eq, hzz, hrun]; rfl
      cases hx with
      | exact o len c hL hl => exact fin _ _ hL rfl
      | «open» o len c hL hpos hl hcc => exact fin _ _ hL rfl
      | open0 o c a hL hb hc => exact absurd rfl h0
theorem cap_sound {e : Env} {w : World} {t ty : TypeId} {x x' v : Value} (hx : VRel e x x') (h : capA P t x = some v) : StillOk P e w v (Builtin.cap_ #[t] ty #[x']) := by
  unfold capA at h
  rw [ob_eq] at h; obtain ⟨s, hs, h⟩ := h
  rw [ob_eq] at h; obtain ⟨sv, hsv, h⟩ := h
  obtain ⟨hu, hsz, hby, z, hz, hzs, hzl⟩ := sliceT_und hs
  have hxe := vSlice_eq hsv
  obtain ⟨sb, sl, sc⟩ := sv
  cases sb with
  | none =>
    replace h : some (goInt 0) = some v := h
    cases h
    subst hxe
    cases hx
    exact ⟨_, by simp [Builtin.cap_, R_und hu]; rfl, .int _ _⟩
  | some p =>
    simp only [Option.map_some] at hxe
    subst hxe
    cases sc with
    | zero => cases h
    | succ c =>
      replace h : some (goInt c) = some v := h
      cases h
      cases hx
      exact ⟨_, by simp [Builtin.cap_, R_und hu]; rfl, .int _ _⟩
theorem map_of {e : Env} {σ : St} {w : World} (hW : WRel e σ w) {i : Nat} {L : LocE} (hL : e i = some L) {B : Blk} {es : List (Value × Value)} (hB : σ.heap.get i = some B) (hes : bMap B = some es) :
    B = .map es ∧ ∃ (es' : Array MapEntry) (clock : Nat), w.heap[L.b]? = some (.map es' clock) ∧ es.length = es'.size ∧ (∀ p ∈ es, isFlat p.1 = true) ∧
      ∀ (j : Nat) (p : Value × Value), es[j]? = some p → ∃ q, es'[j]? = some q ∧ q.key = p.1 ∧ VRel e p.2 q.val := by
  cases B <;> try (cases hes; done)
  rename_i es0
  replace hes : some es0 = some es := hes
  cases hes
  have hb := hW.blk i L _ hL hB
  generalize hob : w.heap[L.b]? = ob at hb
  cases hb with
  | map hl hf h => exact ⟨rfl, _, _, rfl, hl, hf, h⟩
theorem len_sound {e : Env} {σ : St} {w : World} (hW : WRel e σ w) {t ty : TypeId} {x x' v : Value} (hx : VRel e x x') (h : lenOf P t x σ.heap = some v) : StillOk P e w v (Builtin.len_ #[t] ty #[x']) := by
  unfold lenOf at h
  cases ha : arrayT P t with
  | some a =>
    rw [ha] at h
    replace h : some (goInt a.1) = some v := h
    cases h
    obtain ⟨hu, _⟩ := arrayT_und ha
    exact ⟨_, by simp [Builtin.len_, R_und hu]; rfl, .int _ _⟩
  | none =>
    rw [ha] at h
    replace h : oe (vSlice x) (oe (vStr x) (ob (mapT P t) fun _ => ob (vMap x) fun r => oe r (some (goInt 0)) fun i => ob (σ.heap.get i) fun b => om (bMap b) fun es => goInt es.length)
        fun s => bc (isStringT P t) (some (goInt s.size)) none) (fun v => om (sliceT P t) fun _ => goInt v.len) = some v := h
    cases hs : vSlice x with
    | some sv =>
      rw [hs] at h
      replace h : om (sliceT P t) (fun _ => goInt sv.len) = some v := h
      rw [om_eq] at h; obtain ⟨s, hst, rfl⟩ := h
      obtain ⟨hu, _⟩ := sliceT_und hst
      obtain ⟨a', c', rfl, _⟩ := hx.slice_nil hs
      exact ⟨_, by simp [Builtin.len_, R_und hu]; rfl, .int _ _⟩
    | none =>
      rw [hs] at h
      cases hstr : vStr x with
      | some s =>
        rw [hstr] at h
        replace h : bc (isStringT P t) (some (goInt s.size)) none = some v := h
        rw [bc_none] at h; obtain ⟨h1, h⟩ := h
        cases h
        have := vStr_eq hstr
        subst this
        cases hx
        exact ⟨_, by simp [Builtin.len_, R_und (isStringT_und h1)]; rfl, .int _ _⟩
      | none =>
        rw [hstr] at h
        replace h : ob (mapT P t) (fun _ => ob (vMap x) fun r => oe r (some (goInt 0)) fun i => ob (σ.heap.get i) fun b => om (bMap b) fun es => goInt es.length) = some v := h
        rw [ob_eq] at h; obtain ⟨q, hq, h⟩ := h
        rw [ob_eq] at h; obtain ⟨r, hr, h⟩ := h
        have hu := mapT_und hq
        have := vMap_eq hr
        subst this
        cases r with
        | none =>
          replace h : some (goInt 0) = some v := h
          cases h
          cases hx
          exact ⟨_, by simp [Builtin.len_, R_und hu]; rfl, .int _ _⟩
        | some i =>
          replace h : ob (σ.heap.get i) (fun b => om (bMap b) fun es => goInt es.length) = some v := h
          rw [ob_eq] at h; obtain ⟨B, hB, h⟩ := h
          rw [om_eq] at h; obtain ⟨es, hes, rfl⟩ := h
          cases hx with
          | map hL =>
            obtain ⟨_, es', clock, ho, hl, _⟩ := map_of hW hL hB hes
            refine ⟨goInt es'.size, ?_, ?_⟩
            · simp [Builtin.len_, R_und hu, getObj, Sem.run, ho]
            · rw [hl]; exact .int _ _
end Go.AM
