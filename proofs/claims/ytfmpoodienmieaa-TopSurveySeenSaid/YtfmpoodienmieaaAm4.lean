/- The abstract machine: reading, writing, making memory: each step is the model's. -/
import Derived.Test.YtfmpoodienmieaaAm3
namespace Go.AM
section
variable {P : Program}
theorem R_und {t : TypeId} {d : TypeDesc} (h : und P t = some d) (w : World) : (underlying t).run P w = .ok d w := by
  have h : P.underlying t = some d := h
  show (match P.underlying t with | some d => (pure d : Sem TypeDesc) | none => stuck "no such type").run P w = _
  rw [h]; rfl
theorem R_info {t : TypeId} {i : TypeInfo} (h : P.info? t = some i) (w : World) : (typeInfo t).run P w = .ok i w := by
  show (match P.info? t with | some d => (pure d : Sem TypeInfo) | none => stuck "no such type").run P w = _
  rw [h]; rfl
theorem sz_info {t : TypeId} {n : Nat} (h : sz P t = some n) : ∃ i, P.info? t = some i ∧ i.size = n := by
  unfold sz at h; cases hi : P.info? t with
  | none => simp [hi] at h
  | some i => simp [hi] at h; exact ⟨i, rfl, h⟩
theorem byt_info {t : TypeId} {n : Nat} (h : byt P t = some n) : ∃ i, P.info? t = some i ∧ i.bytes = n := by
  unfold byt at h; cases hi : P.info? t with
  | none => simp [hi] at h
  | some i => simp [hi] at h; exact ⟨i, rfl, h⟩
theorem zro_info {t : TypeId} {z : Value} (h : zro P t = some z) : ∃ i, P.info? t = some i ∧ i.zero = some z := by
  unfold zro at h
  rw [ob_eq] at h; obtain ⟨q, hq, h⟩ := h
  rw [bc_none] at h; obtain ⟨_, h⟩ := h
  cases h
  cases hi : P.info? t with
  | none => simp [hi] at hq
  | some i => simp [hi] at hq; exact ⟨i, rfl, hq⟩
theorem zro_flat {t : TypeId} {z : Value} (h : zro P t = some z) : isFlat z = true := by
  unfold zro at h
  rw [ob_eq] at h; obtain ⟨q, hq, h⟩ := h
  rw [bc_none] at h; obtain ⟨h1, h⟩ := h
  cases h; exact h1
theorem R_sz {t : TypeId} {n : Nat} (h : sz P t = some n) (w : World) : (sizeOf t).run P w = .ok n w := by
  obtain ⟨i, hi, rfl⟩ := sz_info h
  simp [sizeOf, R_info hi]
theorem R_zro {t : TypeId} {z : Value} (h : zro P t = some z) (w : World) : (zeroValue t).run P w = .ok z w := by
  obtain ⟨i, hi, hz⟩ := zro_info h
  simp [zeroValue, R_info hi, hz]
theorem agg_true {t : TypeId} (h : agg? P t = some true) (w : World) : (isAgg t).run P w = .ok true w := by
  unfold agg? at h
  cases hu : und P t with
  | none => simp [hu] at h
  | some d => rw [hu] at h; cases d <;> simp at h <;> simp [isAgg, R_und hu]
theorem agg_false {t : TypeId} (h : agg? P t = some false) (w : World) : (isAgg t).run P w = .ok false w := by
  unfold agg? at h
  cases hu : und P t with
  | none => simp [hu] at h
  | some d => rw [hu] at h; cases d <;> simp at h <;> simp [isAgg, R_und hu]
theorem shape_some {t : TypeId} {n : Nat} (h : shapeOf P t = some (some n)) : agg? P t = some true ∧ sz P t = some n := by
  unfold shapeOf at h
  cases ha : agg? P t with
  | none => simp [ha] at h
  | some b => cases b <;> simp [ha] at h; exact ⟨rfl, h⟩
theorem shape_none {t : TypeId} (h : shapeOf P t = some none) : agg? P t = some false := by
  unfold shapeOf at h
  cases ha : agg? P t with
  | none => simp [ha] at h
  | some b => cases b <;> simp [ha] at h; rfl
end

/-! ### Values taken apart -/
theorem plainAddr_eq {a : Addr} {p : Nat × Nat} (h : plainAddr a = some p) : a = ⟨p.1, p.2, none⟩ := by
  obtain ⟨b, o, s⟩ := a
  cases s with
  | none => have : some (b, o) = some p := h; cases this; rfl
  | some s => cases h
theorem vPtr_eq {v : Value} {p : Nat × Nat} (h : vPtr v = some p) : v = .pointer (some ⟨p.1, p.2, none⟩) := by
  cases v <;> try (cases h; done)
  rename_i a
  cases a with
  | none => cases h
  | some a => have h : plainAddr a = some p := h; rw [plainAddr_eq h]
theorem vInt_eq {v : Value} {p : IntKind × Int} (h : vInt v = some p) : v = .int p.1 p.2 := by
  cases v <;> first | (cases h; done) | (have h : some _ = some p := h; cases h; rfl)
theorem vBool_eq {v : Value} {b : Bool} (h : vBool v = some b) : v = .bool b := by
  cases v <;> first | (cases h; done) | (have h : some _ = some b := h; cases h; rfl)
theorem vStr_eq {v : Value} {b : ByteArray} (h : vStr v = some b) : v = .string b := by
  cases v <;> first | (cases h; done) | (have h : some _ = some b := h; cases h; rfl)
theorem vMap_eq {v : Value} {b : Option Nat} (h : vMap v = some b) : v = .map b := by
  cases v <;> first | (cases h; done) | (have h : some _ = some b := h; cases h; rfl)
theorem vFunc_eq {v : Value} {b : Fn × Array Value × Array Value} (h : vFunc v = some b) : v = .func b.1 b.2.1 b.2.2 := by
  cases v <;> first | (cases h; done) | (have h : some _ = some b := h; cases h; rfl)
theorem vAgg_eq {v : Value} {b : List Value} (h : vAgg v = some b) : v = .agg ⟨b⟩ := by
  cases v <;> first | (cases h; done) | (have h : some _ = some b := h; cases h; rfl)
theorem vTup_eq {v : Value} {b : List Value} (h : vTup v = some b) : v = .tuple ⟨b⟩ := by
  cases v <;> first | (cases h; done) | (have h : some _ = some b := h; cases h; rfl)
theorem vSlice_eq {v : Value} {s : SliceV} (h : vSlice v = some s) : v = .slice (s.base.map fun p => ⟨p.1, p.2, none⟩) s.len s.cap := by
  cases v <;> try (cases h; done)
  rename_i a l c
  cases a with
  | none => have h : some (⟨none, l, c⟩ : SliceV) = some s := h; cases h; rfl
  | some a =>
    have h : om (plainAddr a) (fun p => (⟨some p, l, c⟩ : SliceV)) = some s := h
    rw [om_eq] at h
    obtain ⟨p, hp, rfl⟩ := h
    rw [plainAddr_eq hp]; rfl
theorem vcells_agg (l : List Value) : vcells (.agg ⟨l⟩) = l := rfl
theorem vcells_eq (v : Value) : vcells v = v.cells.toList := by cases v <;> rfl
theorem VRel.cells {e : Env} {v v' : Value} (h : VRel e v v') (ho : (vcells v).all oneCell = true) : LRel e (vcells v) (vcells v') := by
  cases h with
  | poison v => cases ho
  | agg h => exact h
  | bool b => exact .cons (.bool b) .nil
  | int k n => exact .cons (.int k n) .nil
  | float k n => exact .cons (.float k n) .nil
  | complex k a b => exact .cons (.complex k a b) .nil
  | str s => exact .cons (.str s) .nil
  | pnil => exact .cons .pnil .nil
  | ptr o h => exact .cons (.ptr o h) .nil
  | snil => exact .cons .snil .nil
  | exact o l c h hl => exact .cons (.exact o l c h hl) .nil
  | «open» o l c h h0 hl hc => exact .cons (.open o l c h h0 hl hc) .nil
  | open0 o c a h hb hc => exact .cons (.open0 o c a h hb hc) .nil
  | mnil => exact .cons .mnil .nil
  | map h => exact .cons (.map h) .nil
  | func k ha hb => exact .cons (.func k ha hb) .nil
  | yield h ha hb => exact .cons (.yield h ha hb) .nil
  | fnil => exact .cons .fnil .nil
  | inil => exact .cons .inil .nil
  | tup h => cases ho
theorem VRel.one {e : Env} {v v' : Value} (h : VRel e v v') (ho : oneCell v = true) : v'.oneCell' = true := by
  cases h <;> first | rfl | (cases ho; done)
theorem allOne_all (l : List Value) : allOne l = l.all oneCell := by
  induction l with
  | nil => rfl
  | cons a l ih => rw [allOne_cons, ih]; rfl
theorem LRel.one {e : Env} {l l' : List Value} (h : LRel e l l') (ho : allOne l = true) : ∀ v ∈ l', v.oneCell' = true := by
  induction l generalizing l' with
  | nil => cases h; simp
  | cons a l ih => cases h with
    | cons h hl =>
      rw [allOne_cons, Bool.and_eq_true] at ho
      intro v hv
      cases hv with
      | head => exact h.one ho.1
      | tail _ hv => exact ih hl ho.2 v hv

/-! ### Reading -/
theorem cells_of {e : Env} {L : LocE} {B : Blk} {w : World} (h : BRel e L B w.heap[L.b]?) {c : Bool × Nat × List Value} (hc : bCells B = some c) {j : Nat} {v : Value} (hj : c.2.2[j]? = some v) :
    ∃ v', w.cell? ⟨L.b, L.s + j, none⟩ = some v' ∧ VRel e v v' := by
  generalize hob : w.heap[L.b]? = ob at h
  cases h with
  | ro hz h =>
    have hc : some _ = some c := hc
    cases hc
    obtain ⟨c, el, fz, v', h1, h2, h3⟩ := h j v hj
    exact ⟨v', by simp [World.cell?, hob, h1, h2], h3⟩
  | rw hz hs hcap h =>
    have hc : some _ = some c := hc
    cases hc
    obtain ⟨v', h2, h3⟩ := h j v hj
    exact ⟨v', by simp [World.cell?, hob, h2], h3⟩
  | map => cases hc
  | loop => cases hc
  | defer => cases hc
theorem addr_add (b o n : Nat) : (⟨b, o, none⟩ : Addr).add n = ⟨b, o + n, none⟩ := by
  unfold Addr.add; split
  · simp_all
  · rfl
variable {P : Program}
theorem read_sound_at {e : Env} {σ : St} {w : World} (hW : WRel e σ w) {i o n : Nat} {L : LocE} (hi : e i = some L) {cs : List Value} (h : readAt σ.heap i o n = some cs) :
    ∃ cs', (∀ w1 : World, w1.heap = w.heap → (loadCells ⟨L.b, L.s + o, none⟩ n).run P w1 = .ok ⟨cs'⟩ w1) ∧ LRel e cs cs' ∧ cs.length = n := by
  unfold readAt at h
  rw [bc_eq] at h
  by_cases h0 : Nat.beq n 0 = true
  · rw [if_pos h0] at h
    cases h
    simp at h0
    subst h0
    exact ⟨[], fun _ _ => rfl, .nil, rfl⟩
  · rw [if_neg h0, ob_eq] at h
    obtain ⟨B, hB, h⟩ := h
    rw [ob_eq] at h
    obtain ⟨c, hc, h⟩ := h
    rw [bc_none, takeL_eq, dropL_eq] at h
    obtain ⟨hle, h⟩ := h
    cases h
    have hle : o + n ≤ c.2.2.length := by simpa using hle
    have hcell : ∀ j, j < n → ∃ v', w.cell? ⟨L.b, L.s + (o + j), none⟩ = some v' ∧ ∀ v, c.2.2[o + j]? = some v → VRel e v v' := fun j hj => by
      have hlt : o + j < c.2.2.length := by omega
      obtain ⟨v', h1, h2⟩ := cells_of (hW.blk i L B hi hB) hc (List.getElem?_eq_getElem hlt)
      exact ⟨v', h1, fun v hv => by rw [List.getElem?_eq_getElem hlt] at hv; cases hv; exact h2⟩
    refine ⟨(List.range n).map fun j => (w.cell? ⟨L.b, L.s + (o + j), none⟩).getD undef, ?_, .of_get (by simp; omega) ?_, by simp; omega⟩
    · intro w1 hw1
      rw [run_loadCells w1 _ n (fun j => (w.cell? ⟨L.b, L.s + (o + j), none⟩).getD undef) (fun j hj => ?_)]
      obtain ⟨v', h1, _⟩ := hcell j hj
      have hc : ∀ a, w1.cell? a = w.cell? a := fun a => by simp only [World.cell?, hw1]
      rw [addr_add, Nat.add_assoc, hc, h1]; rfl
    · intro j v v' hv hv'
      have hj : j < n := by
        rcases Nat.lt_or_ge j n with h | h
        · exact h
        · rw [List.getElem?_eq_none (by simp; omega)] at hv; cases hv
      obtain ⟨u, h1, h2⟩ := hcell j hj
      simp [hj, h1] at hv'
      subst hv'
      refine h2 v ?_
      rw [List.getElem?_take_of_lt hj, List.getElem?_drop] at hv
      exact hv
theorem read_sound {e : Env} {σ : St} {w : World} (hW : WRel e σ w) {i o n : Nat} {L : LocE} (hi : e i = some L) {cs : List Value} (h : readAt σ.heap i o n = some cs) :
    ∃ cs', (loadCells ⟨L.b, L.s + o, none⟩ n).run P w = .ok ⟨cs'⟩ w ∧ LRel e cs cs' ∧ cs.length = n :=
  let ⟨cs', h1, h2⟩ := read_sound_at (P := P) hW hi h; ⟨cs', h1 w rfl, h2⟩
theorem load_sound {e : Env} {σ : St} {w : World} (hW : WRel e σ w) {t : TypeId} {a a' v : Value} (ha : VRel e a a') (h : loadA P t σ.heap a = some v) :
    ∃ v', (Instr.loadAt t a').run P w = .ok v' w ∧ VRel e v v' := by
  unfold loadA at h
  rw [ob_eq] at h
  obtain ⟨p, hp, h⟩ := h
  have ha0 := vPtr_eq hp
  subst ha0
  cases ha with
  | ptr o hL =>
    rename_i L
    rw [ob_eq] at h
    obtain ⟨s, hs, h⟩ := h
    cases s with
    | none =>
      have h : ob (readAt σ.heap p.1 p.2 1) headOf = some v := h
      rw [ob_eq] at h
      obtain ⟨cs, hr, hh⟩ := h
      obtain ⟨cs', hrun, hrel, hlen⟩ := read_sound (P := P) hW hL hr
      cases hrel with
      | nil => simp at hlen
      | cons hv hl =>
        rename_i x x' l l'
        have hx : x = v := by have : some x = some v := hh; cases this; rfl
        subst hx
        have hl0 : l = [] := by simpa using hlen
        subst hl0
        cases hl
        refine ⟨x', ?_, hv⟩
        have hrun' : (load (⟨L.b, L.s + p.2, none⟩ : Addr) .plain).run P w = .ok x' w := by
          have e1 : (load ((⟨L.b, L.s + p.2, none⟩ : Addr).add 0) .plain).run P w = .ok x' w := by
            simp only [loadCells, loadCellsFrom, Sem.run_bind] at hrun
            cases hq : (load ((⟨L.b, L.s + p.2, none⟩ : Addr).add 0) .plain).run P w with
            | ok y w1 => rw [hq] at hrun; simp at hrun; obtain ⟨h1, h2⟩ := hrun; rw [h1, h2]
            | halt y w1 => rw [hq] at hrun; simp at hrun
          rwa [addr_add] at e1
        simp only [Instr.loadAt, Instr.sureAddr, loadVar, Sem.run_bind, Sem.run_pure, Result.andThen_ok, agg_false (shape_none hs), Bool.false_eq_true, if_false, hrun']
    | some n =>
      have h : om (readAt σ.heap p.1 p.2 n) (fun cs => (Value.agg ⟨cs⟩)) = some v := h
      rw [om_eq] at h
      obtain ⟨cs, hr, rfl⟩ := h
      obtain ⟨cs', hrun, hrel, hlen⟩ := read_sound (P := P) hW hL hr
      obtain ⟨h1, h2⟩ := shape_some hs
      refine ⟨.agg ⟨cs'⟩, ?_, .agg hrel⟩
      simp [Instr.loadAt, Instr.sureAddr, loadVar, agg_true h1, R_sz h2, hrun]

/-! ### Writing -/
theorem write_sound {e : Env} {σ σ' : St} {w : World} (hW : WRel e σ w) {i o : Nat} {L : LocE} (hi : e i = some L) {vs vs' : List Value} (h : writeAt σ i o vs = some σ') (hv : LRel e vs vs') :
    ∃ w', (storeCells ⟨L.b, L.s + o, none⟩ vs').run P w = .ok () w' ∧ WRel e σ' w' ∧ Grow e σ w e σ' w' := by
  unfold writeAt at h
  rw [bc_eq] at h
  by_cases h0 : Nat.beq vs.length 0 = true
  · rw [if_pos h0] at h
    cases h
    have : vs = [] := by simpa using h0
    subst this
    cases hv
    exact ⟨w, rfl, hW, .refl _ _ _⟩
  · rw [if_neg h0, ob_eq] at h
    obtain ⟨B, hB, h⟩ := h
    rw [ob_eq] at h
    obtain ⟨c, hc, h⟩ := h
    rw [bc_none', bc_none, bc_none, bc_none] at h
    obtain ⟨hro, hwall, hle, hone, h⟩ := h
    cases h
    have hwall : σ.wall ≤ i := by simpa using hwall
    have hle : o + vs.length ≤ c.2.2.length := by simpa using hle
    have hb := hW.blk i L B hi hB
    generalize hob : w.heap[L.b]? = ob at hb
    cases hb with
    | ro hz h => have hc : some _ = some c := hc; cases hc; cases hro
    | map => cases hc
    | loop => cases hc
    | defer => cases hc
    | rw hz hs hcap hget =>
      rename_i z cs c' el
      have hc : some (false, z, cs) = some c := hc
      cases hc
      have hlen := hv.length
      have hrun := run_storeCells_at (P := P) L.b (L.s + o) el vs' 0 c' w hob (by simp only [] at hle; omega) (hv.one hone)
      simp only [Nat.add_zero] at hrun
      refine ⟨_, hrun, ?_⟩
      have hnew := setRow_heap w L.b c' (c'.toList.take (L.s + o) ++ vs' ++ c'.toList.drop (L.s + o + vs'.length)).toArray el (0, 0) hob
      refine upd_sound hW hi hB rfl hwall ?_ (fun k hk => setRow_other _ _ _ _ hk) (setRow_size _ _ _) rfl rfl rfl
      rw [hnew]
      simp only [] at hle
      refine .rw hz ?_ ?_ ?_
      · rw [splice_length]; simp; omega
      · intro hz0; have := hcap hz0; simp; omega
      · intro j v hj
        rw [splice_get _ _ _ _ hle] at hj
        have hsz : L.s + o + vs'.length ≤ c'.size := by omega
        have hidx : ∀ m, (c'.toList.take (L.s + o) ++ vs' ++ c'.toList.drop (L.s + o + vs'.length)).toArray[m]? =
            if m < L.s + o then c'[m]? else if m < L.s + o + vs'.length then vs'[m - (L.s + o)]? else c'[m]? := fun m => by
          have hl : (c'.toList.take (L.s + o)).length = L.s + o := by simp; omega
          simp only [List.getElem?_toArray]
          by_cases h1 : m < L.s + o
          · rw [if_pos h1, List.append_assoc, List.getElem?_append_left (by omega), List.getElem?_take_of_lt h1]; simp
          · rw [if_neg h1, List.append_assoc, List.getElem?_append_right (by omega), hl]
            by_cases h2 : m < L.s + o + vs'.length
            · rw [if_pos h2, List.getElem?_append_left (by omega)]
            · rw [if_neg h2, List.getElem?_append_right (by omega), List.getElem?_drop]
              have : L.s + o + vs'.length + (m - (L.s + o) - vs'.length) = m := by omega
              rw [this]; simp
        by_cases h1 : o ≤ j ∧ j < o + vs.length
        · rw [if_pos h1] at hj
          obtain ⟨v', h2, h3⟩ := hv.get hj
          refine ⟨v', ?_, h3⟩
          rw [hidx, if_neg (by omega), if_pos (by omega)]
          have : L.s + j - (L.s + o) = j - o := by omega
          rw [this]; exact h2
        · rw [if_neg h1] at hj
          obtain ⟨v', h2, h3⟩ := hget j v hj
          refine ⟨v', ?_, h3⟩
          have hjl : j < cs.length := (List.getElem?_eq_some_iff.1 hj).1
          rw [hidx]
          by_cases h4 : L.s + j < L.s + o
          · rw [if_pos h4]; exact h2
          · rw [if_neg h4, if_neg (by omega)]; exact h2
theorem store_sound {e : Env} {σ σ' : St} {w : World} (hW : WRel e σ w) {t : TypeId} {a a' v v' : Value} (ha : VRel e a a') (hv : VRel e v v') (h : storeA P t a v σ = some σ') :
    ∃ w', (Instr.storeAt t a' v').run P w = .ok () w' ∧ WRel e σ' w' ∧ Grow e σ w e σ' w' := by
  unfold storeA at h
  rw [ob_eq] at h
  obtain ⟨p, hp, h⟩ := h
  have ha0 := vPtr_eq hp
  subst ha0
  cases ha with
  | ptr o hL =>
    rename_i L
    rw [ob_eq] at h
    obtain ⟨n, hn, h⟩ := h
    rw [bc_none] at h
    obtain ⟨hlen, h⟩ := h
    have hlen : (vcells v).length = n := by simpa using hlen
    have hone : (vcells v).all oneCell = true := by
      cases hl : vcells v with
      | nil => rfl
      | cons x r =>
        unfold writeAt at h
        rw [bc_eq, if_neg (by simp [hl]), ob_eq] at h
        obtain ⟨B, hB, h⟩ := h
        rw [ob_eq] at h
        obtain ⟨c, hc, h⟩ := h
        rw [bc_none', bc_none, bc_none, bc_none] at h
        rw [← hl, ← allOne_all]; exact h.2.2.2.1
    have hcells := hv.cells hone
    obtain ⟨w', hrun, h1, h2⟩ := write_sound (P := P) hW hL h hcells
    refine ⟨w', ?_, h1, h2⟩
    have hsz : v'.cells.size = n := by
      have := hcells.length
      rw [vcells_eq v'] at this
      simp at this
      omega
    rw [vcells_eq v'] at hrun
    simp [Instr.storeAt, Instr.sureAddr, storeVar, R_sz hn, hsz, hrun]

/-! ### Making -/
theorem row_sound {e : Env} {σ : St} {w : World} (hW : WRel e σ w) (z cap : Nat) (el : TypeId) {cs cs' more : List Value} (hcs : LRel e cs cs') (hcap : z ≠ 0 → cap ≤ cs'.length + more.length) :
    WRel (e.add σ.next ⟨w.heap.size, 0, cap, z⟩) (newBlk σ (.cells false z cs)) (w.alloc (.cells ⟨cs' ++ more⟩ el)) ∧
    Grow e σ w (e.add σ.next ⟨w.heap.size, 0, cap, z⟩) (newBlk σ (.cells false z cs)) (w.alloc (.cells ⟨cs' ++ more⟩ el)) := by
  refine new_sound hW rfl (.rw rfl ?_ ?_ fun j v hj => ?_)
  · simp; have := hcs.length; omega
  · intro hz; have := hcap hz; simp; omega
  · obtain ⟨v', h1, h2⟩ := hcs.get hj
    refine ⟨v', ?_, h2⟩
    have hjl : j < cs'.length := (List.getElem?_eq_some_iff.1 h1).1
    simp [List.getElem?_append_left hjl, h1]
theorem alloc_sound {e : Env} {σ σ' : St} {w : World} (hW : WRel e σ w) {z : Nat} {cs cs' : List Value} (el : TypeId) {v : Value} (hcs : allOne cs = true → LRel e cs cs') (hz : z = 0) (h : allocA z cs σ = some (v, σ')) :
    ∃ e' w', (newRow el ⟨cs'⟩).run P w = .ok ⟨w.heap.size, 0, none⟩ w' ∧ WRel e' σ' w' ∧ Grow e σ w e' σ' w' ∧ VRel e' v (.pointer (some ⟨w.heap.size, 0, none⟩)) := by
  unfold allocA at h
  rw [bc_none] at h
  obtain ⟨h1, h⟩ := h
  cases h
  subst hz
  obtain ⟨a, b⟩ := row_sound hW 0 0 el (hcs h1) (more := []) (fun h => absurd rfl h)
  rw [List.append_nil] at a b
  exact ⟨_, _, rfl, a, b, by simpa using VRel.ptr 0 (Env.add_self e σ.next ⟨w.heap.size, 0, 0, 0⟩)⟩
end Go.AM
