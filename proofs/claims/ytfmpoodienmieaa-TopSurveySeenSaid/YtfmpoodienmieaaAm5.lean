/- The abstract machine: operations that change no memory are the model's. -/
import Derived.Test.YtfmpoodienmieaaAm4
import Derived.Laws.StructEq
import Derived.ChangeKeysEq
namespace Go.AM
variable {P : Program}
def StillOk (P : Program) (e : Env) (w : World) (v : Value) (s : Sem Value) : Prop := ∃ v', s.run P w = .ok v' w ∧ VRel e v v'
def MoveOk (P : Program) (e : Env) (σ : St) (w : World) (v : Value) (σ' : St) (s : Sem Value) : Prop :=
  ∃ e' w' v', s.run P w = .ok v' w' ∧ WRel e' σ' w' ∧ Grow e σ w e' σ' w' ∧ VRel e' v v'
theorem StillOk.move {e : Env} {σ : St} {w : World} {v : Value} {s : Sem Value} (hW : WRel e σ w) (h : StillOk P e w v s) : MoveOk P e σ w v σ s :=
  let ⟨v', h1, h2⟩ := h; ⟨e, w, v', h1, hW, .refl _ _ _, h2⟩

theorem prun_sound {α : Type} {s : Sem α} {a : α} (h : prun P s = some a) (w : World) : s.run P w = .ok a w := by
  induction s with
  | pure x => simp [prun] at h; subst h; rfl
  | program k ih => simp only [prun] at h; simp only [Sem.run]; exact ih _ h
  | mark m k ih => simp only [prun] at h; simp only [Sem.run]; exact ih h
  | _ => simp [prun] at h
theorem flatOnly_eq {r : Option Value} {v : Value} : flatOnly r = some v ↔ r = some v ∧ isFlat v = true := by
  unfold flatOnly
  rw [ob_eq]
  constructor
  · rintro ⟨a, h1, h2⟩; rw [bc_none] at h2; obtain ⟨h3, h4⟩ := h2; cases h4; exact ⟨h1, h3⟩
  · rintro ⟨h1, h2⟩; exact ⟨v, h1, by rw [h2]; rfl⟩
theorem flat_still {e : Env} {w : World} {v : Value} {s : Sem Value} (h : flatOnly (prun P s) = some v) : StillOk P e w v s := by
  rw [flatOnly_eq] at h; exact ⟨v, prun_sound h.1 w, .flat e h.2⟩

/-! ### Integers -/
theorem ltI_eq (x y : Int) : ltI x y = decide (x < y) := by
  cases x with
  | ofNat a => cases y with
    | ofNat b => show Nat.ble (a + 1) b = _; rw [Bool.eq_iff_iff]; simp; try omega
    | negSucc b => show false = _; symm; simp <;> omega
  | negSucc a => cases y with
    | ofNat b => show true = _; symm; simp <;> omega
    | negSucc b => show Nat.ble (b + 1) a = _; rw [Bool.eq_iff_iff]; simp; try omega
theorem leI_eq (x y : Int) : leI x y = decide (x ≤ y) := by
  cases x with
  | ofNat a => cases y with
    | ofNat b => show Nat.ble a b = _; rw [Bool.eq_iff_iff]; simp
    | negSucc b => show false = _; symm; simp <;> omega
  | negSucc a => cases y with
    | ofNat b => show true = _; symm; simp <;> omega
    | negSucc b => show Nat.ble b a = _; rw [Bool.eq_iff_iff]; simp; try omega
theorem eqI_eq (x y : Int) : eqI x y = (x == y) := by
  cases x with
  | ofNat a => cases y with
    | ofNat b => show Nat.beq a b = _; rw [Bool.eq_iff_iff]; simp <;> omega
    | negSucc b => show false = _; symm; simp
  | negSucc a => cases y with
    | ofNat b => show false = _; symm; simp
    | negSucc b => show Nat.beq a b = _; rw [Bool.eq_iff_iff]; simp
theorem wrap64_small (n : Int) (h : -9223372036854775808 ≤ n) (h' : n ≤ 9223372036854775807) : IntKind.wrap .i64 n = n := by
  have e : IntKind.wrap .i64 n = (if n % 18446744073709551616 ≥ 9223372036854775808 then n % 18446744073709551616 - 18446744073709551616 else n % 18446744073709551616) := by
    simp [IntKind.wrap, IntKind.signed, IntKind.bits]
  rw [e]; split <;> omega
theorem wrapI_eq (k : IntKind) (n : Int) : wrapI k n = k.wrap n := by
  cases k <;> try rfl
  show wrap64I n = _
  cases n with
  | ofNat m =>
    show bc (Nat.ble m 9223372036854775807) _ _ = _
    rw [bc_eq]; split
    · rename_i h; simp at h; exact (wrap64_small _ (by simp <;> omega) (by simp <;> omega)).symm
    · rfl
  | negSucc m =>
    show bc (Nat.ble m 9223372036854775807) _ _ = _
    rw [bc_eq]; split
    · rename_i h; simp at h; exact (wrap64_small _ (by omega) (by omega)).symm
    · rfl
theorem sameKind_eq {a b : IntKind} (h : sameKind a b = true) : a = b := by cases a <;> cases b <;> first | rfl | (cases h; done)
theorem natBelow_eq {k : Int} {n m : Nat} : natBelow k n = some m ↔ k = m ∧ m < n := by
  cases k with
  | ofNat a =>
    show bc (Nat.ble (a + 1) n) (some a) none = _ ↔ _
    rw [bc_none]; simp; try omega
  | negSucc a => show none = some m ↔ _; simp <;> omega
theorem natUpto_eq {k : Int} {n m : Nat} : natUpto k n = some m ↔ k = m ∧ m ≤ n := by
  cases k with
  | ofNat a =>
    show bc (Nat.ble a n) (some a) none = _ ↔ _
    rw [bc_none]; simp; try omega
  | negSucc a => show none = some m ↔ _; simp <;> omega

theorem iadd (x y : Int) : Int.add x y = x + y := rfl
theorem isub (x y : Int) : Int.sub x y = x - y := rfl
theorem imul (x y : Int) : Int.mul x y = x * y := rfl
theorem intBin_sound {op : BinOp} {k : IntKind} {x y : Int} {v : Value} (h : intBin op k x y = some v) (xt : TypeId) (w : World) : (binOp op xt (.int k x) (.int k y)).run P w = .ok v w ∧ ∃ r, v = .int k r ∨ ∃ b, v = .bool b := by
  cases op <;> simp only [intBin] at h <;> first
    | (simp only [Option.some.injEq] at h; subst h; simp [binOp, Op.intArith, Op.intCmp, wrapI_eq, ltI_eq, leI_eq, eqI_eq, bc_eq, isub]; done)
    | (rw [bc_none', eqI_eq] at h; obtain ⟨h0, h⟩ := h; simp only [Option.some.injEq] at h; subst h; have hy : y ≠ 0 := by simpa using h0
       simp [binOp, Op.intDiv, wrapI_eq, hy]; done)
    | (cases h; done)
    | (simp only [Option.some.injEq] at h; subst h; simp [binOp, Op.intCmp, eqI_eq, bc_eq]; (first | done | (cases hxy : (x == y) <;> simp_all)); done)

theorem eqGuard_int {op : BinOp} {xt : TypeId} {x y : Operand} {k k' : IntKind} {m n : Int} (w : World) : (eqGuard op xt x y (.int k m) (.int k' n)).run P w = .ok () w := by
  unfold eqGuard; split <;> simp
theorem eqGuard_slice {op : BinOp} {xt : TypeId} {x y : Operand} {a b : Option Addr} {l c l' c' : Nat} (w : World) : (eqGuard op xt x y (.slice a l c) (.slice b l' c')).run P w = .ok () w := by
  unfold eqGuard; split <;> simp
theorem sliceT_und {t : TypeId} {s : SliceT} (h : sliceT P t = some s) : und P t = some (.slice s.elem) ∧ sz P s.elem = some s.size ∧ byt P s.elem = some s.bytes ∧ ∃ z, zro P s.elem = some z ∧ s.zero = vcells z ∧ s.zero.length = s.size := by
  unfold sliceT at h
  cases hu : und P t with
  | none => simp [hu] at h
  | some d =>
    rw [hu] at h
    cases d <;> simp only [] at h <;> try (cases h; done)
    rename_i e
    unfold elemT at h
    rw [ob_eq] at h; obtain ⟨n, hn, h⟩ := h
    rw [ob_eq] at h; obtain ⟨b, hb, h⟩ := h
    rw [ob_eq] at h; obtain ⟨z, hz, h⟩ := h
    rw [bc_none] at h; obtain ⟨hl, h⟩ := h
    cases h
    exact ⟨rfl, hn, hb, z, hz, rfl, by simpa using hl⟩
theorem arrayT_und {t : TypeId} {a : Nat × Nat × TypeId} (h : arrayT P t = some a) : und P t = some (.array a.1 a.2.2) ∧ sz P a.2.2 = some a.2.1 := by
  unfold arrayT at h
  cases hu : und P t with
  | none => simp [hu] at h
  | some d =>
    rw [hu] at h
    cases d <;> simp only [] at h <;> try (cases h; done)
    rename_i n e
    cases hs : sz P e with
    | none => simp [hs] at h
    | some s => simp [hs] at h; subst h; exact ⟨rfl, hs⟩
theorem isStringT_und {t : TypeId} (h : isStringT P t = true) : und P t = some .string := by
  unfold isStringT at h
  cases hu : und P t with
  | none => simp [hu] at h
  | some d => rw [hu] at h; cases d <;> simp at h; rfl
theorem mapT_und {t : TypeId} {a : TypeId × TypeId} (h : mapT P t = some a) : und P t = some (.map a.1 a.2) := by
  unfold mapT at h
  cases hu : und P t with
  | none => simp [hu] at h
  | some d => rw [hu] at h; cases d <;> simp at h; subst h; rfl

/-- A slice and what it is related to: nil or not, and its length. -/
theorem VRel.slice_nil {e : Env} {s : SliceV} {v v' : Value} (hs : vSlice v = some s) (h : VRel e v v') : ∃ a' c', v' = .slice a' s.len c' ∧ a'.isNone = s.base.isNone := by
  have := vSlice_eq hs
  subst this
  obtain ⟨b, l, c⟩ := s
  cases b with
  | none => cases h; exact ⟨none, 0, rfl, rfl⟩
  | some p => cases h <;> exact ⟨_, _, rfl, rfl⟩

theorem equal_nil {xt : TypeId} {el : TypeId} (hu : und P xt = some (.slice el)) {a b : Option Addr} {l c l' c' : Nat} (h : a.isNone = true ∨ b.isNone = true) (w : World) :
    (Op.equal xt (.slice a l c) (.slice b l' c')).run P w = .ok (a.isNone && b.isNone) w := by
  unfold Op.equal
  rw [show Op.maxDepth = 9999 + 1 from rfl, Op.equalIn]
  cases a with
  | none => simp [R_und hu]
  | some a => cases b with
    | none => simp [R_und hu]
    | some b => simp at h

theorem unA_sound {e : Env} {w : World} {op : UnOp} {a a' v : Value} (ha : VRel e a a') (h : unA op P a = some v) : StillOk P e w v (Op.unary op a') := by
  unfold unA at h
  cases hb : vBool a with
  | some b =>
    rw [hb] at h
    have := vBool_eq hb
    subst this
    cases ha
    cases op with
    | not => replace h : some (Value.bool !b) = some v := h; cases h; exact ⟨_, rfl, .bool _⟩
    | _ => cases h
  | none =>
    rw [hb] at h
    replace h : bc (isFlat a) (flatOnly (prun P (Op.unary op a))) none = some v := h
    rw [bc_none] at h
    rw [ha.flat_eq h.1]
    exact flat_still h.2

/-! ### Parts and addresses -/
theorem part_sound {e : Env} {w : World} {t : TypeId} {cs cs' : List Value} {off : Nat} {v : Value} (hc : LRel e cs cs') (h : partA P t cs off = some v) : StillOk P e w v (part t ⟨cs'⟩ off) := by
  unfold partA at h
  rw [ob_eq] at h
  obtain ⟨s, hs, h⟩ := h
  cases s with
  | none =>
    replace h : headOf (dropL off cs) = some v := h
    rw [dropL_eq] at h
    have hv : cs[off]? = some v := by
      cases hd : cs.drop off with
      | nil => rw [hd] at h; cases h
      | cons a r =>
        rw [hd] at h
        replace h : some a = some v := h
        cases h
        have hd0 : (cs.drop off)[0]? = some v := by rw [hd]; rfl
        rwa [List.getElem?_drop] at hd0
    obtain ⟨v', h1, h2⟩ := hc.get hv
    exact ⟨v', by simp [part, agg_false (shape_none hs), h1], h2⟩
  | some n =>
    replace h : some (Value.agg ⟨takeL n (dropL off cs)⟩) = some v := h
    cases h
    obtain ⟨h1, h2⟩ := shape_some hs
    refine ⟨.agg ⟨(cs'.drop off).take n⟩, ?_, ?_⟩
    · simp [part, agg_true h1, R_sz h2, List.extract]
    · rw [takeL_eq, dropL_eq]; exact .agg ((hc.drop off).take n)
theorem fieldT_und {t : TypeId} {f : Nat} {d : Nat × TypeId} (h : fieldT P t f = some d) : ∃ fs fd, und P t = some (.struct fs) ∧ fs[f]? = some fd ∧ fd.offset = d.1 ∧ fd.type = d.2 := by
  unfold fieldT at h
  cases hu : und P t with
  | none => simp [hu] at h
  | some d' =>
    rw [hu] at h
    cases d' <;> simp only [] at h <;> try (cases h; done)
    rename_i fs
    cases hf : fs[f]? with
    | none => simp [hf] at h
    | some fd => simp [hf] at h; subst h; exact ⟨fs, fd, rfl, hf, rfl, rfl⟩
theorem field_sound {e : Env} {w : World} {t : TypeId} {x x' : Value} {f : Nat} {v : Value} (hx : VRel e x x') (h : fieldA P t x f = some v) : StillOk P e w v (Instr.field t x' f) := by
  unfold fieldA at h
  rw [ob_eq] at h; obtain ⟨d, hd, h⟩ := h
  rw [ob_eq] at h; obtain ⟨cs, hcs, h⟩ := h
  have := vAgg_eq hcs
  subst this
  cases hx with
  | agg hl =>
    obtain ⟨fs, fd, hu, hf, h1, h2⟩ := fieldT_und hd
    obtain ⟨v', hr, hv⟩ := part_sound (P := P) (w := w) hl h
    refine ⟨v', ?_, hv⟩
    simp [Instr.field, R_und hu, hf, asAgg, h1, h2, hr]
theorem index_sound {e : Env} {w : World} {t : TypeId} {x x' ix ix' : Value} {v : Value} (hx : VRel e x x') (hix : VRel e ix ix') (h : indexA P t x ix = some v) : StillOk P e w v (Instr.index t x' ix') := by
  unfold indexA at h
  rw [ob_eq] at h; obtain ⟨k, hk, h⟩ := h
  have := vInt_eq hk
  subst this
  cases hix
  cases ha : arrayT P t with
  | none =>
    rw [ha] at h
    replace h : bc (isStringT P t) (ob (vStr x) fun s => if 0 ≤ k.2 then om (s[k.2.toNat]?) (fun b => Value.int .u8 b.toNat) else none) none = some v := h
    rw [bc_none] at h
    obtain ⟨hst, h⟩ := h
    rw [ob_eq] at h; obtain ⟨s, hs, h⟩ := h
    have := vStr_eq hs
    subst this
    cases hx
    split at h
    · rename_i h0
      rw [om_eq] at h
      obtain ⟨b, hb, rfl⟩ := h
      refine ⟨_, ?_, .int _ _⟩
      simp [Instr.index, asIntOf, R_und (isStringT_und hst), h0, hb]
    · cases h
  | some a =>
    rw [ha] at h
    replace h : ob (vAgg x) (fun cs => ob (natBelow k.2 a.1) fun m => partA P a.2.2 cs (m * a.2.1)) = some v := h
    rw [ob_eq] at h; obtain ⟨cs, hcs, h⟩ := h
    rw [ob_eq] at h; obtain ⟨m, hm, h⟩ := h
    have := vAgg_eq hcs
    subst this
    rw [natBelow_eq] at hm
    cases hx with
    | agg hl =>
      obtain ⟨hu, hsz⟩ := arrayT_und ha
      obtain ⟨v', hr, hv⟩ := part_sound (P := P) (w := w) hl h
      refine ⟨v', ?_, hv⟩
      have h0 : 0 ≤ k.2 ∧ k.2 < (a.1 : Int) := by rw [hm.1]; omega
      have ht : k.2.toNat = m := by rw [hm.1]; rfl
      simp [Instr.index, asIntOf, R_und hu, h0, R_sz hsz, ht, hr]
theorem fieldAddr_sound {e : Env} {w : World} {t : TypeId} {x x' : Value} {f : Nat} {v : Value} (hx : VRel e x x') (h : fieldAddrA P t x f = some v) : StillOk P e w v (Instr.fieldAt t x' f) := by
  unfold fieldAddrA at h
  rw [ob_eq] at h; obtain ⟨off, hoff, h⟩ := h
  rw [om_eq] at h; obtain ⟨p, hp, rfl⟩ := h
  have := vPtr_eq hp
  subst this
  cases hx with
  | ptr o hL =>
    rename_i L
    unfold fieldOff at hoff
    cases hd : fieldT P t f with
    | none => simp [hd] at hoff
    | some d =>
      rw [hd] at hoff
      obtain ⟨fs, fd, hu, hf, h1, h2⟩ := fieldT_und hd
      obtain ⟨d1, d2⟩ := d
      simp only at hoff h1 h2
      cases hz : sz P d2 with
      | none => simp [hz] at hoff
      | some n =>
        cases n with
        | zero => simp [hz] at hoff
        | succ n =>
          simp [hz] at hoff
          subst hoff
          refine ⟨.pointer (some ⟨L.b, L.s + (p.2 + d1), none⟩), ?_, .ptr _ hL⟩
          have hz' : (sizeOf fd.type).run P w = .ok (n + 1) w := R_sz (by rw [h2]; exact hz) w
          simp [Instr.fieldAt, R_und hu, hf, Instr.sureAddr, fieldPlace, hz', addr_add, h1, Nat.add_assoc]
theorem indexAddr_sound {e : Env} {w : World} {t : TypeId} {x x' ix ix' : Value} {v : Value} (hx : VRel e x x') (hix : VRel e ix ix') (h : indexAddrA P t x ix = some v) : StillOk P e w v (Instr.indexAt t x' ix') := by
  unfold indexAddrA at h
  rw [ob_eq] at h; obtain ⟨k, hk, h⟩ := h
  have := vInt_eq hk
  subst this
  cases hix
  cases ha : arrayT P t with
  | some a =>
    rw [ha] at h
    replace h : ob (vPtr x) (fun p => stepAddr p k.2 a.1 a.2.1) = some v := h
    rw [ob_eq] at h; obtain ⟨p, hp, h⟩ := h
    unfold stepAddr at h
    rw [om_eq] at h; obtain ⟨m, hm, rfl⟩ := h
    have := vPtr_eq hp
    subst this
    rw [natBelow_eq] at hm
    obtain ⟨hu, hsz⟩ := arrayT_und ha
    cases hx with
    | ptr o hL =>
      rename_i L
      refine ⟨.pointer (some ⟨L.b, L.s + (p.2 + m * a.2.1), none⟩), ?_, .ptr _ hL⟩
      have h0 : 0 ≤ k.2 ∧ k.2 < (a.1 : Int) := by rw [hm.1]; omega
      have ht : k.2.toNat = m := by rw [hm.1]; rfl
      simp [Instr.indexAt, asIntOf, R_und hu, Instr.sureAddr, h0, R_sz hsz, ht, addr_add, Nat.add_assoc]
  | none =>
    rw [ha] at h
    replace h : ob (sliceT P t) (fun s => ob (vSlice x) fun v => ob v.base fun p => stepAddr p k.2 v.len s.size) = some v := h
    rw [ob_eq] at h; obtain ⟨s, hs, h⟩ := h
    rw [ob_eq] at h; obtain ⟨sv, hsv, h⟩ := h
    rw [ob_eq] at h; obtain ⟨p, hp, h⟩ := h
    unfold stepAddr at h
    rw [om_eq] at h; obtain ⟨m, hm, rfl⟩ := h
    rw [natBelow_eq] at hm
    obtain ⟨hu, hsz, _⟩ := sliceT_und hs
    have hxe := vSlice_eq hsv
    rw [hp] at hxe
    simp only [Option.map_some] at hxe
    obtain ⟨sb, sl, sc⟩ := sv
    simp only at hp hm hxe
    have h0 : 0 ≤ k.2 ∧ k.2 < (sl : Int) := by rw [hm.1]; omega
    have ht : k.2.toNat = m := by rw [hm.1]; rfl
    subst hxe
    cases hx with
    | exact o len c hL hl =>
      rename_i L
      refine ⟨.pointer (some ⟨L.b, L.s + (p.2 + m * s.size), none⟩), ?_, .ptr _ hL⟩
      simp [Instr.indexAt, asIntOf, R_und hu, h0, R_sz hsz, ht, addr_add, Nat.add_assoc]
    | «open» o len c hL h1 hl hc =>
      rename_i L
      refine ⟨.pointer (some ⟨L.b, L.s + (p.2 + m * s.size), none⟩), ?_, .ptr _ hL⟩
      simp [Instr.indexAt, asIntOf, R_und hu, h0, R_sz hsz, ht, addr_add, Nat.add_assoc]
    | open0 o c a hL hb hc => omega

theorem partE_run {t : TypeId} {cs : List Value} {off : Nat} {v : Value} (h : partE P t cs off = some v) (w : World) : (part t ⟨cs⟩ off).run P w = .ok v w := by
  unfold partE at h
  rw [bc_none] at h; obtain ⟨hc, h⟩ := h
  rw [ob_eq] at h; obtain ⟨v', h, h2⟩ := h
  rw [bc_none] at h2; obtain ⟨hf, h2⟩ := h2; cases h2
  cases VRel.flat (fun _ => none) hc with
  | agg hl =>
    obtain ⟨v', h1, h2⟩ := part_sound (P := P) (w := w) hl h
    rw [h1, h2.flat_eq hf]
theorem eqT_sound : ∀ (d : Nat) (t : TypeId) (x y : Value) (r : Bool), eqT P d t x y = some r → ∀ (D : Nat) (w : World), (Op.equalIn (D + d) t x y).run P w = .ok r w := by
  intro d
  induction d with
  | zero => intro t x y r h; cases h
  | succ d ih =>
    intro t x y r h D w
    rw [show D + (d + 1) = (D + d) + 1 from rfl]
    replace h : (match und P t with
      | some .bool => ob (vBool x) fun a => ob (vBool y) fun b => some (bc a b (!b))
      | some (.int _) => ob (vInt x) fun a => ob (vInt y) fun b => bc (sameKind a.1 b.1) (some (eqI a.2 b.2)) none
      | some (.array n e) => ob (vAgg x) fun xs => ob (vAgg y) fun ys => ob (sz P e) fun s => eqItemsA (eqT P d e) (fun i => partE P e xs (i * s)) (fun i => partE P e ys (i * s)) (List.range n)
      | some (.struct fs) => ob (vAgg x) fun xs => ob (vAgg y) fun ys => bc (P.stoodInHeld t) none (eqFieldsA (eqT P d) (fun f => partE P f.type xs f.offset) (fun f => partE P f.type ys f.offset) fs.toList)
      | _ => none) = some r := h
    cases hu : und P t with
    | none => rw [hu] at h; cases h
    | some td =>
      rw [hu] at h
      cases td <;> simp only [] at h <;> try (cases h; done)
      case bool =>
        rw [ob_eq] at h; obtain ⟨a, ha, h⟩ := h
        rw [ob_eq] at h; obtain ⟨b, hb, h⟩ := h
        cases h
        rw [vBool_eq ha, vBool_eq hb, run_equalIn_bool' w _ t a b hu]
        cases a <;> cases b <;> rfl
      case int k =>
        rw [ob_eq] at h; obtain ⟨a, ha, h⟩ := h
        rw [ob_eq] at h; obtain ⟨b, hb, h⟩ := h
        rw [bc_none] at h; obtain ⟨hk, h⟩ := h
        cases h
        rw [vInt_eq ha, vInt_eq hb, ← sameKind_eq hk, run_equalIn_int w _ t _ k _ _ hu, eqI_eq]
      case array n e =>
        rw [ob_eq] at h; obtain ⟨xs, hx, h⟩ := h
        rw [ob_eq] at h; obtain ⟨ys, hy, h⟩ := h
        rw [ob_eq] at h; obtain ⟨s, hs, h⟩ := h
        rw [vAgg_eq hx, vAgg_eq hy]
        unfold sz at hs
        cases hi : P.info? e with
        | none => rw [hi] at hs; cases hs
        | some i =>
          rw [hi] at hs
          cases hs
          have hcs : P.cellsOf e = i.size := by unfold Program.cellsOf; rw [hi]; rfl
          rw [run_equalIn_array w _ _ _ hu hi, hcs]
          generalize List.range n = is at h ⊢
          induction is generalizing w with
          | nil => cases h; simp [Op.eqItems]
          | cons j is ih2 =>
            replace h : ob (partE P e xs (j * i.size)) (fun a => ob (partE P e ys (j * i.size)) fun b => ob (eqT P d e a b) fun r => bc r (eqItemsA (eqT P d e) (fun i_1 => partE P e xs (i_1 * i.size)) (fun i_1 => partE P e ys (i_1 * i.size)) is) (some false)) = some r := h
            rw [ob_eq] at h; obtain ⟨a, ha, h⟩ := h
            rw [ob_eq] at h; obtain ⟨b, hb, h⟩ := h
            rw [ob_eq] at h; obtain ⟨q, hq, h⟩ := h
            have hr := ih e a b q hq D w
            cases q with
            | true =>
              have := ih2 w h
              simp only [Op.eqItems, Sem.run_bind, partE_run ha w, partE_run hb w, hr, Result.andThen_ok]
              simpa using this
            | false =>
              cases h
              simp only [Op.eqItems, Sem.run_bind, partE_run ha w, partE_run hb w, hr, Result.andThen_ok]
              simp
      case struct fs =>
        rw [ob_eq] at h; obtain ⟨xs, hx, h⟩ := h
        rw [ob_eq] at h; obtain ⟨ys, hy, h⟩ := h
        rw [bc_none'] at h; obtain ⟨hp, h⟩ := h
        rw [vAgg_eq hx, vAgg_eq hy]
        have hfs : P.fieldsOf t = fs := by
          have : P.underlying t = some (.struct fs) := hu
          simp [Program.fieldsOf, this]
        rw [run_equalIn_struct w _ t _ _ (by rw [hfs]; exact hu) hp, hfs]
        generalize fs.toList = l at h ⊢
        induction l generalizing w with
        | nil => cases h; simp [Op.eqFields]
        | cons f l ih2 =>
          replace h : bc (f.name != "_") (ob (partE P f.type xs f.offset) fun a => ob (partE P f.type ys f.offset) fun b => ob (eqT P d f.type a b) fun r => bc r (eqFieldsA (eqT P d) (fun f => partE P f.type xs f.offset) (fun f => partE P f.type ys f.offset) l) (some false)) none = some r := h
          rw [bc_none] at h; obtain ⟨hn, h⟩ := h
          rw [ob_eq] at h; obtain ⟨a, ha, h⟩ := h
          rw [ob_eq] at h; obtain ⟨b, hb, h⟩ := h
          rw [ob_eq] at h; obtain ⟨q, hq, h⟩ := h
          have hr := ih f.type a b q hq D w
          have hn' : f.name ≠ "_" := by simpa using hn
          cases q with
          | true =>
            have := ih2 w h
            simp only [Op.eqFields, hn', ne_eq, not_false_eq_true, if_true, Sem.run_bind, partE_run ha w, partE_run hb w, hr, Result.andThen_ok]
            simpa using this
          | false =>
            cases h
            simp only [Op.eqFields, hn', ne_eq, not_false_eq_true, if_true, Sem.run_bind, partE_run ha w, partE_run hb w, hr, Result.andThen_ok]
            simp
theorem aggBin_sound {e : Env} {w : World} {op : BinOp} {xt : TypeId} {x y : Operand} {a b a' b' v : Value} (ha : VRel e a a') (hb : VRel e b b') (h : aggBin P op xt a b = some v) :
    StillOk P e w v (do eqGuard op xt x y a' b'; binOp op xt a' b') := by
  unfold aggBin at h
  rw [ob_eq] at h; obtain ⟨q, hq, h⟩ := h
  rw [ob_eq] at h; obtain ⟨xs, hx, h⟩ := h
  rw [ob_eq] at h; obtain ⟨ys, hy, h⟩ := h
  rw [bc_none, bc_and, Bool.and_eq_true] at h
  obtain ⟨⟨fa, fb⟩, h⟩ := h
  rw [bc_none'] at h
  obtain ⟨hg, h⟩ := h
  rw [om_eq] at h; obtain ⟨r, hr, rfl⟩ := h
  rw [ha.flat_eq fa, hb.flat_eq fb]
  have hrun := eqT_sound 40 xt a b r hr 9960 w
  have ea := vAgg_eq hx; have eb := vAgg_eq hy
  subst ea; subst eb
  refine ⟨_, ?_, .bool _⟩
  cases op <;> simp only [isCmpEq] at hq <;> first | (cases hq; done) | skip
  · simp only [Option.some.injEq] at hq; subst hq
    simp only [Sem.run_bind, run_eqGuard_agg w _ _ _ _ _ _ hg, Result.andThen_ok, run_eql_struct, hrun]; rfl
  · simp only [Option.some.injEq] at hq; subst hq
    simp only [Sem.run_bind, run_eqGuard_agg w _ _ _ _ _ _ hg, Result.andThen_ok, run_neq_struct, hrun]; rfl
theorem binA_sound {e : Env} {w : World} {op : BinOp} {xt : TypeId} {x y : Operand} {a b a' b' v : Value} (ha : VRel e a a') (hb : VRel e b b') (h : binA P op xt x y a b = some v) :
    StillOk P e w v (do eqGuard op xt x y a' b'; binOp op xt a' b') := by
  unfold binA at h
  cases hm : vInt a with
  | some m =>
    rw [hm] at h
    replace h : ob (vInt b) (fun n => bc (isBits op) (flatOnly (prun P (binOp op xt a b))) (bc (sameKind m.1 n.1) (intBin op m.1 m.2 n.2) none)) = some v := h
    rw [ob_eq] at h
    obtain ⟨n, hn, h⟩ := h
    have ea := vInt_eq hm; have eb := vInt_eq hn
    subst ea; subst eb
    cases ha; cases hb
    rw [bc_eq] at h
    split at h
    · rw [flatOnly_eq] at h
      exact ⟨v, by simp only [Sem.run_bind, eqGuard_int, Result.andThen_ok, prun_sound h.1], .flat e h.2⟩
    · rw [bc_none] at h
      obtain ⟨hk, h⟩ := h
      have hk := sameKind_eq hk
      obtain ⟨m1, m2⟩ := m; obtain ⟨n1, n2⟩ := n
      simp only at hk h ⊢
      subst hk
      obtain ⟨h1, r, h2⟩ := intBin_sound (P := P) h xt w
      refine ⟨v, by simp only [Sem.run_bind, eqGuard_int, Result.andThen_ok, h1], ?_⟩
      rcases h2 with rfl | ⟨q, rfl⟩
      · exact .int _ _
      · exact .bool _
  | none =>
    rw [hm] at h
    replace h : oe (vSlice a) (oe (vAgg a) (otherBin P op xt x y a b) fun _ => aggBin P op xt a b) (fun p => ob (vSlice b) fun q => nilCmp P op xt p q) = some v := h
    cases hs : vSlice a with
    | none =>
      rw [hs] at h
      replace h : oe (vAgg a) (otherBin P op xt x y a b) (fun _ => aggBin P op xt a b) = some v := h
      cases hg : vAgg a with
      | some cs =>
        rw [hg] at h
        exact aggBin_sound ha hb h
      | none =>
      rw [hg] at h
      replace h : otherBin P op xt x y a b = some v := h
      unfold otherBin at h
      rw [bc_none, bc_and, Bool.and_eq_true] at h
      obtain ⟨⟨fa, fb⟩, h⟩ := h
      rw [ha.flat_eq fa, hb.flat_eq fb]
      exact flat_still h
    | some p =>
      rw [hs] at h
      replace h : ob (vSlice b) (fun q => nilCmp P op xt p q) = some v := h
      rw [ob_eq] at h
      obtain ⟨q, hq, h⟩ := h
      obtain ⟨pa, pc, rfl, hpa⟩ := ha.slice_nil hs
      obtain ⟨qa, qc, rfl, hqa⟩ := hb.slice_nil hq
      unfold nilCmp at h
      rw [ob_eq] at h
      obtain ⟨t, ht, h⟩ := h
      cases hst : sliceT P xt with
      | none => rw [hst] at h; cases h
      | some st =>
        rw [hst] at h
        replace h : oe p.base (some (.bool (bc t (q.base.isNone) (q.base.isSome)))) (fun _ => oe q.base (some (.bool (bc t false true))) fun _ => none) = some v := h
        obtain ⟨hu, _⟩ := sliceT_und hst
        have key : ∃ r : Bool, v = .bool (if t = true then r else !r) ∧ (Op.equal xt (.slice pa p.len pc) (.slice qa q.len qc)).run P w = .ok r w := by
          cases hp : p.base with
          | none =>
            rw [hp] at h hpa
            replace h : some (Value.bool (bc t (q.base.isNone) (q.base.isSome))) = some v := h
            cases h
            refine ⟨q.base.isNone, ?_, ?_⟩
            · cases t <;> simp [bc_eq]
            · rw [equal_nil hu (.inl (by simpa using hpa)), hpa, hqa]; simp
          | some b =>
            rw [hp] at h hpa
            cases hq' : q.base with
            | none =>
              rw [hq'] at h hqa
              replace h : some (Value.bool (bc t false true)) = some v := h
              cases h
              refine ⟨false, ?_, ?_⟩
              · cases t <;> simp [bc_eq]
              · rw [equal_nil hu (.inr (by simpa using hqa)), hpa]; simp
            | some c => rw [hq'] at h; cases h
        obtain ⟨r, rfl, hr⟩ := key
        refine ⟨_, ?_, .bool _⟩
        cases op <;> simp only [isCmpEq] at ht <;> first | (cases ht; done) | skip
        · simp only [Option.some.injEq] at ht; subst ht
          simp only [Sem.run_bind, eqGuard_slice, Result.andThen_ok, binOp, hr, Sem.run_pure]; simp
        · simp only [Option.some.injEq] at ht; subst ht
          simp only [Sem.run_bind, eqGuard_slice, Result.andThen_ok, binOp, hr, Sem.run_pure]; simp

end Go.AM
