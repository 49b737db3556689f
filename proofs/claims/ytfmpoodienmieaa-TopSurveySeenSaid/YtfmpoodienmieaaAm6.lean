/- The abstract machine: slices, structs and arrays built, conversions, lengths. -/
import Derived.Test.YtfmpoodienmieaaAm5
namespace Go.AM
variable {P : Program}
/-- Optional operands. -/
def ORel (e : Env) (a b : Option Value) : Prop := (a = none ∧ b = none) ∨ ∃ x y, a = some x ∧ b = some y ∧ VRel e x y
theorem bound_eq {e : Env} {a b : Option Value} (h : ORel e a b) {d m k : Nat} (hb : boundA a d m = some k) :
    (a = none ∧ b = none ∧ k = d) ∨ ∃ q, b = some (.int q (k : Int)) ∧ a = b ∧ k ≤ m := by
  rcases h with ⟨rfl, rfl⟩ | ⟨x, y, rfl, rfl, h⟩
  · replace hb : some d = some k := hb; cases hb; exact .inl ⟨rfl, rfl, rfl⟩
  · replace hb : ob (vInt x) (fun k' => natUpto k'.2 m) = some k := hb
    rw [ob_eq] at hb
    obtain ⟨q, hq, hb⟩ := hb
    have := vInt_eq hq
    subst this
    cases h
    rw [natUpto_eq] at hb
    exact .inr ⟨q.1, by rw [hb.1], rfl, hb.2⟩
theorem run_bound {q : IntKind} {k m : Nat} (h : k ≤ m) (code : BoundsCode) (w : World) : (Instr.sliceBound (.int q (k : Int)) m code).run P w = .ok k w := by
  have h0 : (0 : Int) ≤ (k : Int) ∧ (k : Int) ≤ (m : Int) := by omega
  simp [Instr.sliceBound, asIntOf, h0]
/-- What 'sliceBounds' comes to: with no third index. -/
theorem run_bounds2 {e : Env} {lo lo' hi hi' : Option Value} (hlo : ORel e lo lo') (hhi : ORel e hi hi') {len cap m h l : Nat} (hm : m ≤ cap) (h1 : boundA hi len m = some h) (h2 : boundA lo 0 h = some l) (isS : Bool) (w : World) :
    (Instr.sliceBounds isS len cap lo' hi' none).run P w = .ok (l, h, cap) w ∧ l ≤ h ∧ (h = len ∨ h ≤ m) := by
  rcases bound_eq hhi h1 with ⟨_, rfl, rfl⟩ | ⟨q, rfl, _, hle⟩ <;> rcases bound_eq hlo h2 with ⟨_, rfl, rfl⟩ | ⟨q', rfl, _, hle'⟩
  · exact ⟨by simp [Instr.sliceBounds], by omega, .inl rfl⟩
  · exact ⟨by simp [Instr.sliceBounds, run_bound hle'], hle', .inl rfl⟩
  · exact ⟨by simp [Instr.sliceBounds, run_bound (Nat.le_trans hle hm)], by omega, .inr hle⟩
  · exact ⟨by simp [Instr.sliceBounds, run_bound (Nat.le_trans hle hm), run_bound hle'], hle', .inr hle⟩
/-- With a third index. -/
theorem run_bounds3 {e : Env} {lo lo' hi hi' mx mx' : Option Value} (hlo : ORel e lo lo') (hhi : ORel e hi hi') (hmx : ORel e mx mx') (hs : mx.isSome = true) (hh : hi.isNone = false)
    {len cap c m h l d : Nat} (hc : c ≤ cap) (h0 : boundA mx d c = some m) (h1 : boundA hi len m = some h) (h2 : boundA lo 0 h = some l) (isS : Bool) (w : World) :
    (Instr.sliceBounds isS len cap lo' hi' mx').run P w = .ok (l, h, m) w ∧ l ≤ h ∧ h ≤ m ∧ m ≤ c := by
  rcases bound_eq hmx h0 with ⟨rfl, _, _⟩ | ⟨q0, rfl, _, hle0⟩
  · simp at hs
  rcases bound_eq hhi h1 with ⟨rfl, _, _⟩ | ⟨q, rfl, _, hle⟩
  · simp at hh
  rcases bound_eq hlo h2 with ⟨_, rfl, rfl⟩ | ⟨q', rfl, _, hle'⟩
  · exact ⟨by simp [Instr.sliceBounds, run_bound (Nat.le_trans hle0 hc), run_bound hle], by omega, hle, hle0⟩
  · exact ⟨by simp [Instr.sliceBounds, run_bound (Nat.le_trans hle0 hc), run_bound hle, run_bound hle'], hle', hle, hle0⟩

/-- An exact slice of a row: what 'cutA' answers, and the address that the model reckons. -/
theorem cut_exact {e : Env} {w : World} {i : Nat} {L : LocE} (hL : e i = some L) {size o len cap : Nat} {lo lo' hi hi' mx mx' : Option Value} (hlo : ORel e lo lo') (hhi : ORel e hi hi') (hmx : ORel e mx mx')
    {v : Value} (h : cutA size i o len cap true lo hi mx = some v) (hlc : len ≤ cap) (isS : Bool) :
    ∃ l h m, (Instr.sliceBounds isS len cap lo' hi' mx').run P w = .ok (l, h, m) w ∧ VRel e v (.slice (some (if m = l then ⟨L.b, L.s + o, none⟩ else (⟨L.b, L.s + o, none⟩ : Addr).add (l * size))) (h - l) (m - l)) := by
  have fin : ∀ (l h m : Nat), h ≤ m → VRel e (.slice (some ⟨i, if m = l then o else o + l * size, none⟩) (h - l) (m - l + 1)) (.slice (some (if m = l then ⟨L.b, L.s + o, none⟩ else (⟨L.b, L.s + o, none⟩ : Addr).add (l * size))) (h - l) (m - l)) := fun l h m hm => by
    by_cases hml : m = l
    · rw [if_pos hml, if_pos hml]; exact .exact o _ _ hL (by omega)
    · rw [if_neg hml, if_neg hml, addr_add, Nat.add_assoc]; exact .exact _ _ _ hL (by omega)
  unfold cutA at h
  cases hmo : mx with
  | none =>
    rw [hmo] at h hmx
    replace h : ob (boundA hi len cap) (fun h => ob (boundA lo 0 h) fun l => some (Value.slice (some ⟨i, bc true (bc (Nat.beq cap l) o (o + l * size)) (o + l * size), none⟩) (h - l) (bc true (cap - l + 1) 0))) = some v := h
    rw [ob_eq] at h; obtain ⟨hh, h1, h⟩ := h
    rw [ob_eq] at h; obtain ⟨l, h2, h⟩ := h
    cases h
    have hmn : mx' = none := by rcases hmx with ⟨_, h⟩ | ⟨x, y, h, _⟩; exact h; cases h
    subst hmn
    obtain ⟨hr, hl, hle⟩ := run_bounds2 (P := P) hlo hhi (Nat.le_refl cap) h1 h2 isS w
    refine ⟨l, hh, cap, hr, ?_⟩
    have := fin l hh cap (by omega)
    simp only [bc_eq]
    simpa using this
  | some mv =>
    rw [hmo] at h hmx
    replace h : bc hi.isNone none (ob (boundA (some mv) 0 cap) fun m => ob (boundA hi len m) fun h => ob (boundA lo 0 h) fun l => some (Value.slice (some ⟨i, bc (Nat.beq m l) o (o + l * size), none⟩) (h - l) (m - l + 1))) = some v := h
    rw [bc_none'] at h; obtain ⟨hn, h⟩ := h
    rw [ob_eq] at h; obtain ⟨m, h0, h⟩ := h
    rw [ob_eq] at h; obtain ⟨hh, h1, h⟩ := h
    rw [ob_eq] at h; obtain ⟨l, h2, h⟩ := h
    cases h
    obtain ⟨hr, hl, hle, _⟩ := run_bounds3 (P := P) hlo hhi hmx rfl hn (Nat.le_refl cap) h0 h1 h2 isS w
    refine ⟨l, hh, m, hr, ?_⟩
    have := fin l hh m hle
    simp only [bc_eq]
    simpa using this

theorem sameZ_eq {e : Env} {σ : St} {w : World} (hW : WRel e σ w) {i size : Nat} {L : LocE} (hL : e i = some L) (h : sameZ σ.heap i size = true) : L.z = size := by
  unfold sameZ at h
  cases hb : σ.heap.get i with
  | none => rw [hb] at h; cases h
  | some B =>
    rw [hb] at h
    replace h : oe (bCells B) false (fun c => Nat.beq c.2.1 size) = true := h
    have hr := hW.blk i L B hL hb
    generalize w.heap[L.b]? = ob at hr
    cases hr with
    | ro hz _ => replace h : Nat.beq _ size = true := h; simp at h; omega
    | rw hz _ _ _ => replace h : Nat.beq _ size = true := h; simp at h; omega
    | map => cases h
    | loop => cases h
    | defer => cases h

theorem slice_sound {e : Env} {σ : St} {w : World} (hW : WRel e σ w) {t : TypeId} {x x' : Value} {lo lo' hi hi' mx mx' : Option Value} (hx : VRel e x x') (hlo : ORel e lo lo') (hhi : ORel e hi hi') (hmx : ORel e mx mx')
    {v : Value} (h : sliceA P σ.heap t x lo hi mx = some v) : StillOk P e w v (Instr.sliceAt t x' lo' hi' mx') := by
  unfold sliceA at h
  rw [bc_eq] at h
  split at h
  · -- a string
    rename_i hst
    have hu := isStringT_und hst
    rw [ob_eq] at h; obtain ⟨s, hs, h⟩ := h
    have := vStr_eq hs
    subst this
    cases hx
    unfold sliceStr at h
    rw [bc_none] at h; obtain ⟨hmn, h⟩ := h
    rw [ob_eq] at h; obtain ⟨hh, h1, h⟩ := h
    rw [ob_eq] at h; obtain ⟨l, h2, h⟩ := h
    cases h
    have hmn' : mx' = none := by rcases hmx with ⟨_, h⟩ | ⟨x, y, h, _⟩; exact h; rw [h] at hmn; cases hmn
    subst hmn'
    obtain ⟨hr, _⟩ := run_bounds2 (P := P) hlo hhi (Nat.le_refl _) h1 h2 false w
    exact ⟨_, by simp [Instr.sliceAt, Instr.slice, R_und hu, hr], .str _⟩
  · cases ha : arrayT P t with
    | some a =>
      rw [ha] at h
      replace h : ob (vPtr x) (fun p => cutA a.2.1 p.1 p.2 a.1 a.1 true lo hi mx) = some v := h
      rw [ob_eq] at h; obtain ⟨p, hp, h⟩ := h
      have := vPtr_eq hp
      subst this
      obtain ⟨hu, hsz⟩ := arrayT_und ha
      cases hx with
      | ptr o hL =>
        obtain ⟨l, hh, m, hr, hv⟩ := cut_exact (P := P) (w := w) hL hlo hhi hmx h (Nat.le_refl _) false
        exact ⟨_, by simp only [Instr.sliceAt, Sem.run_bind, R_und hu, Result.andThen_ok, Instr.sureAddr, Sem.run_pure, hr, R_sz hsz], hv⟩
    | none =>
      rw [ha] at h
      replace h : ob (sliceT P t) (fun s => ob (vSlice x) fun v => sliceSl σ.heap s.size v lo hi mx) = some v := h
      rw [ob_eq] at h; obtain ⟨st, hst, h⟩ := h
      rw [ob_eq] at h; obtain ⟨sv, hsv, h⟩ := h
      obtain ⟨hu, hsz, _⟩ := sliceT_und hst
      have hxe := vSlice_eq hsv
      obtain ⟨sb, sl, sc⟩ := sv
      unfold sliceSl at h
      simp only at h hxe
      cases sb with
      | none =>
        subst hxe
        cases hx
        replace h : bc (bc mx.isNone true (bc hi.isNone false true)) (ob (boundA mx 0 0) fun _ => ob (boundA hi 0 0) fun _ => ob (boundA lo 0 0) fun _ => some (Value.slice none 0 0)) none = some v := h
        rw [bc_none] at h; obtain ⟨hcond, h⟩ := h
        rw [ob_eq] at h; obtain ⟨m, h0, h⟩ := h
        rw [ob_eq] at h; obtain ⟨hh, h1, h⟩ := h
        rw [ob_eq] at h; obtain ⟨l, h2, h⟩ := h
        cases h
        refine ⟨.slice none 0 0, ?_, .snil⟩
        have hh0 : hh = 0 := by rcases bound_eq hhi h1 with ⟨_, _, h⟩ | ⟨_, _, _, h⟩ <;> omega
        have hl0 : l = 0 := by rcases bound_eq hlo h2 with ⟨_, _, h⟩ | ⟨_, _, _, h⟩ <;> omega
        have hm0 : m = 0 := by rcases bound_eq hmx h0 with ⟨_, _, h⟩ | ⟨_, _, _, h⟩ <;> omega
        subst hh0; subst hl0; subst hm0
        cases hmo : mx with
        | none =>
          rw [hmo] at hmx
          have hmn : mx' = none := by rcases hmx with ⟨_, h⟩ | ⟨x, y, h, _⟩; exact h; cases h
          subst hmn
          obtain ⟨hr, _⟩ := run_bounds2 (P := P) (len := 0) hlo hhi (Nat.le_refl 0) h1 h2 true w
          simp [Instr.sliceAt, Instr.slice, R_und hu, hr, R_sz hsz]
        | some mv =>
          rw [hmo] at hmx hcond h0
          have hn : hi.isNone = false := by cases hi <;> first | rfl | (exfalso; revert hcond; simp [bc_eq])
          obtain ⟨hr, _⟩ := run_bounds3 (P := P) (len := 0) hlo hhi hmx rfl hn (Nat.le_refl 0) h0 h1 h2 true w
          simp [Instr.sliceAt, Instr.slice, R_und hu, hr, R_sz hsz]
      | some p =>
        simp only [Option.map_some] at hxe
        subst hxe
        have wrap : ∀ {a : Addr} {ln cp l hh m : Nat}, (Instr.sliceBounds true ln cp lo' hi' mx').run P w = .ok (l, hh, m) w →
            (Instr.sliceAt t (.slice (some a) ln cp) lo' hi' mx').run P w = .ok (.slice (some (if m = l then a else a.add (l * st.size))) (hh - l) (m - l)) w := fun {a ln cp l hh m} hr => by
          simp only [Instr.sliceAt, Instr.slice, Sem.run_bind, R_und hu, Result.andThen_ok, hr, R_sz hsz, Sem.run_pure]
          by_cases hml : m = l <;> simp [hml]
        cases hx with
        | exact o len c hL hl =>
          replace h : cutA st.size p.1 p.2 sl c true lo hi mx = some v := h
          obtain ⟨l, hh, m, hr, hv⟩ := cut_exact (P := P) (w := w) hL hlo hhi hmx h hl true
          exact ⟨_, wrap hr, hv⟩
        | «open» o len c hL hpos hl hc =>
          rename_i L
          replace h : bc mx.isNone (bc (sameZ σ.heap p.1 st.size) (cutA st.size p.1 p.2 sl sl false lo hi mx) none) (bc (Nat.beq sl 0) none (cutA st.size p.1 p.2 sl sl true lo hi mx)) = some v := h
          rw [bc_eq] at h
          split at h
          · rename_i hmn
            rw [bc_none] at h
            obtain ⟨hz, h⟩ := h
            have hz := sameZ_eq hW hL hz
            have hm0 : mx = none := by cases mx <;> first | rfl | cases hmn
            subst hm0
            have hmn' : mx' = none := by rcases hmx with ⟨_, h⟩ | ⟨x, y, h, _⟩; exact h; cases h
            subst hmn'
            unfold cutA at h
            replace h : ob (boundA hi sl sl) (fun h => ob (boundA lo 0 h) fun l => some (Value.slice (some ⟨p.1, bc false (bc (Nat.beq sl l) p.2 (p.2 + l * st.size)) (p.2 + l * st.size), none⟩) (h - l) (bc false (sl - l + 1) 0))) = some v := h
            rw [ob_eq] at h; obtain ⟨hh, h1, h⟩ := h
            rw [ob_eq] at h; obtain ⟨l, h2, h⟩ := h
            cases h
            obtain ⟨hr, hlh, hle⟩ := run_bounds2 (P := P) hlo hhi (cap := c) hl h1 h2 true w
            refine ⟨_, wrap hr, ?_⟩
            simp only [bc_false]
            have hcz : (p.2 + l * st.size) + (c - l) * L.z = L.cap := by
              rw [← hc, hz]
              have : c = l + (c - l) := by omega
              rw [show p.2 + c * st.size = p.2 + (l + (c - l)) * st.size from by rw [← this], Nat.add_mul]; omega
            by_cases hd : hh - l = 0
            · rw [hd]
              by_cases hcl : c = l
              · rw [if_pos hcl]; exact .open0 _ _ _ hL rfl (.inl (by omega))
              · rw [if_neg hcl, addr_add]; exact .open0 _ _ _ hL rfl (.inr ⟨rfl, by simp; omega, by simp only; omega⟩)
            · rw [if_neg (by omega), addr_add, Nat.add_assoc]
              exact .open _ _ _ hL (by omega) (by omega) hcz
          · rename_i hmn
            rw [bc_none'] at h
            obtain ⟨_, h⟩ := h
            -- a third index: the bounds are the same at the greater capacity
            unfold cutA at h
            cases hmo : mx with
            | none => rw [hmo] at hmn; simp at hmn
            | some mv =>
              rw [hmo] at h hmx
              replace h : bc hi.isNone none (ob (boundA (some mv) 0 sl) fun m => ob (boundA hi sl m) fun h => ob (boundA lo 0 h) fun l => some (Value.slice (some ⟨p.1, bc (Nat.beq m l) p.2 (p.2 + l * st.size), none⟩) (h - l) (m - l + 1))) = some v := h
              rw [bc_none'] at h; obtain ⟨hn, h⟩ := h
              rw [ob_eq] at h; obtain ⟨m, h0, h⟩ := h
              rw [ob_eq] at h; obtain ⟨hh, h1, h⟩ := h
              rw [ob_eq] at h; obtain ⟨l, h2, h⟩ := h
              cases h
              obtain ⟨hr, hlh, hle, _⟩ := run_bounds3 (P := P) hlo hhi hmx rfl hn (cap := c) hl h0 h1 h2 true w
              refine ⟨_, wrap hr, ?_⟩
              rw [bc_eq]
              by_cases hml : m = l
              · rw [if_pos hml, if_pos (by simpa using hml)]; exact .exact _ _ _ hL (by omega)
              · rw [if_neg hml, if_neg (by simpa using hml), addr_add, Nat.add_assoc]; exact .exact _ _ _ hL (by omega)
        | open0 o c a hL hb hc =>
          rename_i L
          replace h : bc mx.isNone (bc (sameZ σ.heap p.1 st.size) (cutA st.size p.1 p.2 0 0 false lo hi mx) none) (bc (Nat.beq 0 0) none (cutA st.size p.1 p.2 0 0 true lo hi mx)) = some v := h
          rw [bc_eq] at h
          split at h
          · rename_i hmn
            rw [bc_none] at h
            obtain ⟨_, h⟩ := h
            have hm0 : mx = none := by cases mx <;> first | rfl | cases hmn
            subst hm0
            have hmn' : mx' = none := by rcases hmx with ⟨_, h⟩ | ⟨x, y, h, _⟩; exact h; cases h
            subst hmn'
            unfold cutA at h
            replace h : ob (boundA hi 0 0) (fun h => ob (boundA lo 0 h) fun l => some (Value.slice (some ⟨p.1, bc false (bc (Nat.beq 0 l) p.2 (p.2 + l * st.size)) (p.2 + l * st.size), none⟩) (h - l) (bc false (0 - l + 1) 0))) = some v := h
            rw [ob_eq] at h; obtain ⟨hh, h1, h⟩ := h
            rw [ob_eq] at h; obtain ⟨l, h2, h⟩ := h
            cases h
            obtain ⟨hr, hlh, hle⟩ := run_bounds2 (P := P) hlo hhi (cap := c) (Nat.zero_le _) h1 h2 true w
            have hh0 : hh = 0 := by omega
            subst hh0
            have hl0 : l = 0 := by omega
            subst hl0
            refine ⟨_, wrap hr, ?_⟩
            simp only [bc_false, Nat.zero_mul, Nat.sub_zero, Nat.add_zero]
            have ha : (if c = 0 then a else a.add 0) = a := by split <;> rfl
            rw [ha]
            exact .open0 _ _ _ hL hb hc
          · cases h
end Go.AM
