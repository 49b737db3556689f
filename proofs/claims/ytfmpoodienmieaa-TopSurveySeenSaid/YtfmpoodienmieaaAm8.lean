/- The abstract machine: append. -/
import Derived.Test.YtfmpoodienmieaaAm7
namespace Go.AM
variable {P : Program}
theorem notInt {d : TypeDesc} (hd : ∀ k, d ≠ .int k) : (match d with | .int _ => true | _ => false) = false := by cases d <;> first | rfl | exact absurd rfl (hd _)
section
variable (w : World)
theorem run_app_room {t xt ty e : TypeId} {size n : Nat} {d : TypeDesc} {base : Option Addr} {sLen sCap : Nat} {x : Value} {new : Array Value} {w' : World} (hu : und P t = some (.slice e)) (hsz : sz P e = some size)
    (hx : und P xt = some d) (hd : ∀ k, d ≠ .int k) (hn : (Builtin.lenOf x).run P w = .ok n w) (hroom : sLen + n ≤ sCap) (hf : (Builtin.firstCells size n x).run P w = .ok new w)
    (hst : (match base with | some a => storeCells (a.add (sLen * size)) new.toList | none => pure ()).run P w = .ok () w') :
    (Builtin.append_ #[t, xt] ty #[.slice base sLen sCap, x]).run P w = .ok (.slice base (sLen + n) sCap) w' := by
  cases base with
  | none => simp at hst; subst hst; simp [Builtin.append_, R_und hu, R_sz hsz, R_und hx, hn, hroom, hf]
  | some a => simp only [] at hst; simp [Builtin.append_, R_und hu, R_sz hsz, R_und hx, hn, hroom, hf, hst]
theorem run_app_grow {t xt ty e : TypeId} {size bytes n : Nat} {z : Value} {d : TypeDesc} {base : Option Addr} {sLen sCap : Nat} {x : Value} {old new : Array Value} (hu : und P t = some (.slice e)) (hsz : sz P e = some size)
    (hby : byt P e = some bytes) (hz : zro P e = some z) (hx : und P xt = some d) (hd : ∀ k, d ≠ .int k) (hn : (Builtin.lenOf x).run P w = .ok n w) (hg : ¬ sLen + n ≤ sCap) (hb : 1 ≤ bytes ∨ ((sLen + n : Nat) : Int) ≤ 9223372036854775807)
    (hfit : Builtin.nextslicecap (sLen + n) sCap * bytes ≤ 281474976710656) (ho : (Builtin.firstCells size sLen (.slice base sLen sCap)).run P w.drew = .ok old w.drew) (hf : (Builtin.firstCells size n x).run P w.drew = .ok new w.drew) :
    (Builtin.append_ #[t, xt] ty #[.slice base sLen sCap, x]).run P w =
      .ok (.slice (some ⟨w.heap.size, 0, none⟩) (sLen + n) (grownCap w (sLen + n) sCap e)) (w.drew.alloc (.cells (old ++ new ++ Builtin.zeroCells z.cells (grownCap w (sLen + n) sCap e - (sLen + n))) e)) := by
  obtain ⟨i, hi, hiz⟩ := zro_info hz
  have hib : i.bytes = bytes := by obtain ⟨j, hj, hb⟩ := byt_info hby; rw [hi] at hj; cases hj; exact hb
  have his : i.size = size := by obtain ⟨j, hj, hb⟩ := sz_info hsz; rw [hi] at hj; cases hj; exact hb
  have h48' : ¬ (281474976710656 < Builtin.nextslicecap (sLen + n) sCap * i.bytes) := by rw [hib]; omega
  have hzb : ¬ (9223372036854775807 < ((sLen : Int) + (n : Int)) ∧ i.bytes = 0) := by rw [hib]; omega
  subst his
  simp [Builtin.append_, R_und hu, R_und hx, hn, hg, typeInfo, sizeOf, zeroValue, hi, hiz, Question.forced, newRow, grownCap, h48', hzb, ho, hf]
theorem run_apz_room {t xt ty e : TypeId} {size bytes n : Nat} {z : Value} {k k' : IntKind} {base : Option Addr} {sLen sCap : Nat} {l : Int} {w' : World} (hu : und P t = some (.slice e)) (hsz : sz P e = some size)
    (hby : byt P e = some bytes) (hz : zro P e = some z) (hx : und P xt = some (.int k)) (h0 : 0 ≤ l) (hl : l < 2 ^ 46) (hlb : l * bytes ≤ 2 ^ 46) (hn : l.toNat = n) (hroom : sLen + n ≤ sCap)
    (hst : (match base with | some a => storeCells (a.add (sLen * size)) (if n * size = 0 then (#[] : Array Value) else Builtin.zeroCells z.cells n).toList | none => pure ()).run P w = .ok () w') :
    (Builtin.append_ #[t, xt] ty #[.slice base sLen sCap, .int k' l]).run P w = .ok (.slice base (sLen + n) sCap) w' := by
  obtain ⟨i, hi, hiz⟩ := zro_info hz
  have hib : i.bytes = bytes := by obtain ⟨j, hj, hb⟩ := byt_info hby; rw [hi] at hj; cases hj; exact hb
  have his : i.size = size := by obtain ⟨j, hj, hb⟩ := sz_info hsz; rw [hi] at hj; cases hj; exact hb
  have wl : IntKind.i64.wrap l = l := by rw [IntKind.wrap_i64]; omega
  subst his; subst hib; subst hn
  have h1 : ¬ l < 0 := by omega
  have h2 : ¬ (281474976710656 < l * (i.bytes : Int)) := by omega
  by_cases h3 : l.toNat * i.size = 0
  · rw [if_pos h3] at hst
    cases base with
    | none => simp at hst; subst hst; simp [Builtin.append_, R_und hu, R_und hx, typeInfo, sizeOf, hi, asInt, asIntOf, wl, h1, h2, h3, hroom]
    | some a => simp at hst; simp [Builtin.append_, R_und hu, R_und hx, typeInfo, sizeOf, hi, asInt, asIntOf, wl, h1, h2, h3, hroom, hst]
  · rw [if_neg h3] at hst
    cases base with
    | none => simp at hst; subst hst; simp [Builtin.append_, R_und hu, R_und hx, typeInfo, sizeOf, zeroValue, hi, hiz, asInt, asIntOf, wl, h1, h2, h3, hroom]
    | some a => simp only [] at hst; simp [Builtin.append_, R_und hu, R_und hx, typeInfo, sizeOf, zeroValue, hi, hiz, asInt, asIntOf, wl, h1, h2, h3, hroom, hst]
theorem run_apz_grow {t xt ty e : TypeId} {size bytes n : Nat} {z : Value} {k k' : IntKind} {base : Option Addr} {sLen sCap : Nat} {l : Int} {old : Array Value} (hu : und P t = some (.slice e)) (hsz : sz P e = some size)
    (hby : byt P e = some bytes) (hz : zro P e = some z) (hx : und P xt = some (.int k)) (h0 : 0 ≤ l) (hl : l < 2 ^ 46) (hlb : l * bytes ≤ 2 ^ 46) (hn : l.toNat = n) (hg : ¬ sLen + n ≤ sCap)
    (hb : ((sLen + n : Nat) : Int) ≤ 9223372036854775807) (hfit : Builtin.nextslicecap (sLen + n) sCap * bytes ≤ 281474976710656) (ho : (Builtin.firstCells size sLen (.slice base sLen sCap)).run P w.drew = .ok old w.drew) :
    (Builtin.append_ #[t, xt] ty #[.slice base sLen sCap, .int k' l]).run P w =
      .ok (.slice (some ⟨w.heap.size, 0, none⟩) (sLen + n) (grownCap w (sLen + n) sCap e))
        (w.drew.alloc (.cells (old ++ (if n * size = 0 then (#[] : Array Value) else Builtin.zeroCells z.cells n) ++ Builtin.zeroCells z.cells (grownCap w (sLen + n) sCap e - (sLen + n))) e)) := by
  obtain ⟨i, hi, hiz⟩ := zro_info hz
  have hib : i.bytes = bytes := by obtain ⟨j, hj, hb⟩ := byt_info hby; rw [hi] at hj; cases hj; exact hb
  have his : i.size = size := by obtain ⟨j, hj, hb⟩ := sz_info hsz; rw [hi] at hj; cases hj; exact hb
  have wl : IntKind.i64.wrap l = l := by rw [IntKind.wrap_i64]; omega
  subst his; subst hib; subst hn
  have h1 : ¬ l < 0 := by omega
  have h2 : ¬ (281474976710656 < l * (i.bytes : Int)) := by omega
  have h48' : ¬ (281474976710656 < Builtin.nextslicecap (sLen + l.toNat) sCap * i.bytes) := by omega
  have hzb : ¬ (9223372036854775807 < ((sLen : Int) + max l 0)) := by omega
  by_cases h3 : l.toNat * i.size = 0
  · rw [if_pos h3]; simp [Builtin.append_, R_und hu, R_und hx, typeInfo, sizeOf, zeroValue, hi, hiz, asInt, asIntOf, wl, h1, h2, h3, hg, hzb, h48', Question.forced, newRow, grownCap, ho]
  · rw [if_neg h3]; simp [Builtin.append_, R_und hu, R_und hx, typeInfo, sizeOf, zeroValue, hi, hiz, asInt, asIntOf, wl, h1, h2, h3, hg, hzb, h48', Question.forced, newRow, grownCap, ho]
end
/-- A row whose name is dropped, and that gets a new name where it stands, longer. -/
theorem inplace_sound {e : Env} {σ : St} {w : World} (hW : WRel e σ w) {i : Nat} {L : LocE} {z : Nat} {cs : List Value} (hi : e i = some L) (hB : σ.heap.get i = some (.cells false z cs)) (hwall : σ.wall ≤ i)
    {c' : Array Value} {el : TypeId} (hc : w.heap[L.b]? = some (.cells c' el (0, 0))) {q cap len n size : Nat} {old new new' : List Value} (hold : ∀ (j : Nat) (v : Value), old[j]? = some v → ∃ v', c'[q + j]? = some v' ∧ VRel e v v')
    (hnew : LRel e new new') (hone : allOne new = true) (hlo : old.length = len * size) (hln : new.length = n * size) (hfit : len + n ≤ cap) (hcap : q + cap * size ≤ c'.size) :
    ∃ w', (storeCells ⟨L.b, q + len * size, none⟩ new').run P w = .ok () w' ∧
      WRel (e.add σ.next ⟨L.b, q, cap * size, size⟩) (newBlk { σ with heap := σ.heap.del i, low := bc (Nat.ble i σ.low) i σ.low } (.cells false size (old ++ new))) w' ∧
      Grow e σ w (e.add σ.next ⟨L.b, q, cap * size, size⟩) (newBlk { σ with heap := σ.heap.del i, low := bc (Nat.ble i σ.low) i σ.low } (.cells false size (old ++ new))) w' := by
  have hlen := hnew.length
  have hle : (len + n) * size ≤ cap * size := Nat.mul_le_mul_right _ hfit
  rw [Nat.add_mul] at hle
  have hrun := run_storeCells_at (P := P) L.b (q + len * size) el new' 0 c' w hc (by omega) (hnew.one hone)
  simp only [Nat.add_zero] at hrun
  refine ⟨_, hrun, ?_⟩
  have hnewo := setRow_heap w L.b c' (c'.toList.take (q + len * size) ++ new' ++ c'.toList.drop (q + len * size + new'.length)).toArray el (0, 0) hc
  have hother : ∀ k, k ≠ L.b → (w.setRow L.b (c'.toList.take (q + len * size) ++ new' ++ c'.toList.drop (q + len * size + new'.length)).toArray).heap[k]? = w.heap[k]? := fun k hk => setRow_other _ _ _ _ hk
  have hsize := setRow_size w L.b (c'.toList.take (q + len * size) ++ new' ++ c'.toList.drop (q + len * size + new'.length)).toArray
  obtain ⟨hW1, hG1⟩ := del_sound hW hwall
  have hn := hW.fresh
  have hbs : L.b < w.heap.size := (hW.dom i L hi).2 (by simp [hB])
  have hg : ∀ j, (σ.heap.del i).get j = if i = j then none else σ.heap.get j := fun j => get_del _ _ _
  have hfree : ∀ j M C, e j = some M → (σ.heap.del i).get j = some C → M.b ≠ L.b := fun j M C hj hC => by
    rw [hg] at hC
    split at hC
    · cases hC
    · rename_i hij
      exact fun h => hW.sep i j L M _ C hij hi hj hB hC rfl h.symm
  refine ⟨name_sound hW1 (by simp only; omega) ?_ (fun k _ hk => hother k hk) (by omega) hfree, ⟨Env.le_add hn _, fun j hj => ?_, Nat.le_succ _, rfl, by omega, rfl, rfl, rfl, ?_, ?_, fun j M hj => ?_, ?_, ?_, hG1.lower⟩⟩
  · simp only
    rw [hnewo]
    refine .rw rfl ?_ ?_ ?_
    · simp; omega
    · intro _; simp; omega
    · intro j v hj
      have hidx : ∀ m, (c'.toList.take (q + len * size) ++ new' ++ c'.toList.drop (q + len * size + new'.length)).toArray[m]? =
            if m < q + len * size then c'[m]? else if m < q + len * size + new'.length then new'[m - (q + len * size)]? else c'[m]? := fun m => by
          have hl : (c'.toList.take (q + len * size)).length = q + len * size := by simp; omega
          simp only [List.getElem?_toArray]
          by_cases h1 : m < q + len * size
          · rw [if_pos h1, List.append_assoc, List.getElem?_append_left (by omega), List.getElem?_take_of_lt h1]; simp
          · rw [if_neg h1, List.append_assoc, List.getElem?_append_right (by omega), hl]
            by_cases h2 : m < q + len * size + new'.length
            · rw [if_pos h2, List.getElem?_append_left (by omega)]
            · rw [if_neg h2, List.getElem?_append_right (by omega), List.getElem?_drop]
              have : q + len * size + new'.length + (m - (q + len * size) - new'.length) = m := by omega
              rw [this]; simp
      by_cases h1 : j < old.length
      · rw [List.getElem?_append_left h1] at hj
        obtain ⟨v', h2, h3⟩ := hold j v hj
        refine ⟨v', ?_, h3.mono (Env.le_add hn _)⟩
        show (_ : Array Value)[q + j]? = _
        rw [hidx, if_pos (by omega)]; exact h2
      · rw [List.getElem?_append_right (by omega)] at hj
        obtain ⟨v', h2, h3⟩ := hnew.get hj
        refine ⟨v', ?_, h3.mono (Env.le_add hn _)⟩
        have hjn : j - old.length < new'.length := (List.getElem?_eq_some_iff.1 h2).1
        show (_ : Array Value)[q + j]? = _
        rw [hidx, if_neg (by omega), if_pos (by omega)]
        have : q + j - (q + len * size) = j - old.length := by omega
        rw [this]; exact h2
  · show (if j = σ.next then _ else e j) = _; rw [if_neg (by omega)]
  · intro b hb ho
    exact hother b fun h => ho ⟨i, L, _, hwall, hi, hB, rfl, h.symm⟩
  · rintro b hb ⟨j, M, C, hj, hM, hC, hr, rfl⟩
    have hg2 : ∀ j, (newBlk { σ with heap := σ.heap.del i, low := bc (Nat.ble i σ.low) i σ.low } (.cells false size (old ++ new))).heap.get j = if σ.next = j then some (.cells false size (old ++ new)) else (σ.heap.del i).get j := fun j => get_put _ _ _ _
    rw [hg2] at hC
    by_cases h : j = σ.next
    · subst h; rw [Env.add_self] at hM; cases hM; exact ⟨i, L, _, hwall, hi, hB, rfl, rfl⟩
    · have hM' : e j = some M := by have : (if j = σ.next then _ else e j) = some M := hM; rwa [if_neg h] at this
      rw [if_neg (Ne.symm h), hg] at hC
      split at hC
      · cases hC
      · exact ⟨j, M, C, hj, hM', hC, hr, rfl⟩
  · by_cases h : j = σ.next
    · subst h; rw [Env.add_self] at hj; cases hj; exact .inr (.inr ⟨i, L, _, hwall, hi, hB, rfl, rfl⟩)
    · have hj' : e j = some M := by have : (if j = σ.next then _ else e j) = some M := hj; rwa [if_neg h] at this
      exact .inl hj'
  · intro j hj hjn
    show ((σ.heap.del i).put σ.next _).get j = _
    rw [get_put, if_neg (by omega), hg, if_neg (by omega)]
  · intro j hj hl
    replace hl : j < bc (Nat.ble i σ.low) i σ.low := hl
    rw [low_eq] at hl
    show ((σ.heap.del i).put σ.next _).get j = _
    rw [get_put, if_neg (by omega), hg, if_neg (by omega)]

/-- What is read of a block's cells. -/
theorem readAt_eq {h : Tr Blk} {i o n : Nat} {cs : List Value} (hr : readAt h i o n = some cs) : (n = 0 ∧ cs = []) ∨ ∃ B c, h.get i = some B ∧ bCells B = some c ∧ o + n ≤ c.2.2.length ∧ cs = (c.2.2.drop o).take n := by
  unfold readAt at hr
  rw [bc_eq] at hr
  split at hr
  · rename_i h0; cases hr; exact .inl ⟨by simpa using h0, rfl⟩
  · rw [ob_eq] at hr; obtain ⟨B, hB, hr⟩ := hr
    rw [ob_eq] at hr; obtain ⟨c, hc, hr⟩ := hr
    rw [bc_none, takeL_eq, dropL_eq] at hr
    obtain ⟨hle, hr⟩ := hr
    cases hr
    exact .inr ⟨B, c, hB, hc, by simpa using hle, rfl⟩
theorem kill_eq {σ σ' : St} {i : Nat} (h : kill σ i = some σ') : ∃ z cs, σ.heap.get i = some (.cells false z cs) ∧ σ.wall ≤ i ∧ σ' = { σ with heap := σ.heap.del i, low := bc (Nat.ble i σ.low) i σ.low } := by
  unfold kill at h
  rw [ob_eq] at h; obtain ⟨B, hB, h⟩ := h
  rw [ob_eq] at h; obtain ⟨c, hc, h⟩ := h
  rw [bc_none', bc_none] at h; obtain ⟨hro, hw, h⟩ := h
  cases h
  cases B with
  | cells r z cs => replace hc : some (r, z, cs) = some c := hc; cases hc; simp only at hro; subst hro; exact ⟨z, cs, hB, by simpa using hw, rfl⟩
  | _ => cases hc

/-- A row made anew. -/
theorem grown_sound {e : Env} {σ : St} {w : World} (hW : WRel e σ w) {size need cap : Nat} {el : TypeId} {cs cs' z : List Value} (hcs : LRel e cs cs') (hlen : cs.length = need * size) (hz : z.length = size) (hcap : need ≤ cap) (hpos : 0 < need) :
    WRel (e.add σ.next ⟨w.heap.size, 0, cap * size, size⟩) (newBlk σ (.cells false size cs)) (w.drew.alloc (.cells (⟨cs'⟩ ++ Builtin.zeroCells ⟨z⟩ (cap - need)) el)) ∧
    Grow e σ w (e.add σ.next ⟨w.heap.size, 0, cap * size, size⟩) (newBlk σ (.cells false size cs)) (w.drew.alloc (.cells (⟨cs'⟩ ++ Builtin.zeroCells ⟨z⟩ (cap - need)) el)) ∧
    VRel (e.add σ.next ⟨w.heap.size, 0, cap * size, size⟩) (.slice (some ⟨σ.next, 0, none⟩) need 0) (.slice (some ⟨w.heap.size, 0, none⟩) need cap) := by
  obtain ⟨hW0, hG0⟩ := drew_sound hW
  obtain ⟨a, b⟩ := row_sound hW0 size (cap * size) el hcs (more := zerosA z (cap - need)) (fun _ => by rw [zeros_length, hz, ← hcs.length, hlen, ← Nat.add_mul]; exact Nat.mul_le_mul_right _ (by omega))
  have e1 : (⟨cs'⟩ ++ Builtin.zeroCells ⟨z⟩ (cap - need) : Array Value) = ⟨cs' ++ zerosA z (cap - need)⟩ := by rw [zeroCells_eq]; simp
  rw [e1]
  refine ⟨a, hG0.trans b, ?_⟩
  have hd : w.drew.heap.size = w.heap.size := rfl
  rw [← hd]
  simpa using VRel.open 0 need cap (Env.add_self e σ.next ⟨w.drew.heap.size, 0, cap * size, size⟩) hpos hcap (by simp)

theorem appendTo_sound {e : Env} {σ σ' : St} {w : World} (hW : WRel e σ w) {size b n : Nat} {v : SliceV} {sv sv' r : Value} {new new' : List Value} {el : TypeId} {z : Value} {s : Sem Value}
    (hsv : vSlice sv = some v) (hv : VRel e sv sv') (hnew : LRel e new new') (hz : (vcells z).length = size) (h : appendTo size b v new (n + 1) σ = some (r, σ'))
    (hroom : ∀ base sLen sCap w', sv' = .slice base sLen sCap → sLen + (n + 1) ≤ sCap → (match base with | some a => storeCells (a.add (sLen * size)) new' | none => pure ()).run P w = .ok () w' → s.run P w = .ok (.slice base (sLen + (n + 1)) sCap) w')
    (hgrow : ∀ base sLen sCap old, sv' = .slice base sLen sCap → ¬ sLen + (n + 1) ≤ sCap → Builtin.nextslicecap (sLen + (n + 1)) sCap * b ≤ 281474976710656 → ((sLen + (n + 1) : Nat) : Int) ≤ 9223372036854775807 → (Builtin.firstCells size sLen (.slice base sLen sCap)).run P w.drew = .ok ⟨old⟩ w.drew →
      s.run P w = .ok (.slice (some ⟨w.heap.size, 0, none⟩) (sLen + (n + 1)) (grownCap w (sLen + (n + 1)) sCap el)) (w.drew.alloc (.cells (⟨old⟩ ++ ⟨new'⟩ ++ Builtin.zeroCells z.cells (grownCap w (sLen + (n + 1)) sCap el - (sLen + (n + 1)))) el))) :
    MoveOk P e σ w r σ' s := by
  unfold appendTo at h
  rw [bc_none, bc_none, bc_none, bc_none] at h
  obtain ⟨hle, hs1, hone, hln, h⟩ := h
  replace hle : (v.len + (n + 1)) * (b + 1) ≤ 2 ^ 46 := by simpa using hle
  replace hs1 : 1 ≤ size := by simpa using hs1
  replace hln : new.length = (n + 1) * size := by simpa using hln
  have hle1 : (v.len + (n + 1)) * b ≤ 2 ^ 46 ∧ v.len + (n + 1) ≤ 2 ^ 46 := by
    rw [Nat.mul_add] at hle; omega
  have hzc : z.cells = ⟨vcells z⟩ := by apply Array.ext'; rw [← vcells_eq]
  obtain ⟨hW0, hG0⟩ := drew_sound hW
  -- growing
  have grow : ∀ (σ1 : St) (base : Option Addr) (sCap : Nat) (old old' : List Value), WRel e σ1 w → Grow e σ w e σ1 w → sv' = .slice base v.len sCap → ¬ v.len + (n + 1) ≤ sCap → LRel e old old' → old.length = v.len * size →
      (Builtin.firstCells size v.len (.slice base v.len sCap)).run P w.drew = .ok ⟨old'⟩ w.drew →
      MoveOk P e σ w (.slice (some ⟨σ1.next, 0, none⟩) (v.len + (n + 1)) 0) (newBlk σ1 (.cells false size (old ++ new))) s := fun σ1 base sCap old old' hW1 hG1 hb hg ho hlo hf => by
    have hr := hgrow base v.len sCap old' hb hg (by have := growslice_fits (bytes := b) (Nat.lt_of_not_le hg) (by omega); exact this) (by omega) hf
    obtain ⟨x1, x2, x3⟩ := grown_sound hW1 (el := el) (cap := grownCap w (v.len + (n + 1)) sCap el) (ho.append hnew) (by rw [List.length_append, hlo, hln, ← Nat.add_mul]) hz (grownCap_ge w _ _ el) (by omega)
    refine ⟨_, _, _, ?_, x1, hG1.trans x2, x3⟩
    rw [hr, hzc]; simp
  have hxe := vSlice_eq hsv
  obtain ⟨sb, sl, sc⟩ := v
  cases sb with
  | none =>
    replace h : some (freshRow size (n + 1) new σ) = some (r, σ') := h
    cases h
    subst hxe
    cases hv
    have := grow σ none 0 [] [] hW (.refl _ _ _) rfl (by simp) .nil (by simp) (run_firstCells_none _ _ _ _ _)
    simpa [freshRow] using this
  | some p =>
    simp only [Option.map_some] at hxe
    subst hxe
    cases sc with
    | zero =>
      replace h : ob (σ.heap.get p.1) (fun bl => ob (bCells bl) fun c => bc (Nat.beq c.2.1 size)
          (ob (readAt σ.heap p.1 p.2 (sl * size)) fun old => ob (kill σ p.1) fun σ => some (freshRow size (sl + (n + 1)) (old ++ new) σ)) none) = some (r, σ') := h
      rw [ob_eq] at h; obtain ⟨B, hB, h⟩ := h
      rw [ob_eq] at h; obtain ⟨c, hc, h⟩ := h
      rw [bc_none] at h; obtain ⟨hcz, h⟩ := h
      rw [ob_eq] at h; obtain ⟨old, hold, h⟩ := h
      rw [ob_eq] at h; obtain ⟨σ1, hk, h⟩ := h
      cases h
      obtain ⟨z', cs', hB', hwall, rfl⟩ := kill_eq hk
      rw [hB] at hB'; cases hB'
      replace hc : some (false, z', cs') = some c := hc
      cases hc
      replace hcz : z' = size := by simpa using hcz
      subst hcz
      obtain ⟨hW1, hG1⟩ := del_sound hW hwall
      -- the block behind
      have go : ∀ (L : LocE) (a : Addr) (cap : Nat) (old' : List Value), e p.1 = some L → sv' = .slice (some a) sl cap → a.block = L.b → LRel e old old' → old.length = sl * z' → (loadCells a (sl * z')).run P w.drew = .ok ⟨old'⟩ w.drew →
          (sl + (n + 1) ≤ cap → a.spot = none ∧ (∀ (c' : Array Value) (el' : TypeId), w.heap[L.b]? = some (.cells c' el' (0, 0)) → L.s + L.cap ≤ c'.size → (L.z = z') →
            (∀ (j : Nat) (v : Value), cs'[j]? = some v → ∃ v', c'[L.s + j]? = some v' ∧ VRel e v v') → a.off + cap * z' ≤ c'.size ∧ ∀ (j : Nat) (v : Value), old[j]? = some v → ∃ v', c'[a.off + j]? = some v' ∧ VRel e v v')) →
          MoveOk P e σ w (freshRow z' (sl + (n + 1)) (old ++ new) { σ with heap := σ.heap.del p.1, low := bc (Nat.ble p.1 σ.low) p.1 σ.low }).1 (freshRow z' (sl + (n + 1)) (old ++ new) { σ with heap := σ.heap.del p.1, low := bc (Nat.ble p.1 σ.low) p.1 σ.low }).2 s := fun L a cap old' hL hsv' hab ho hlo hload hin => by
        by_cases hfit : sl + (n + 1) ≤ cap
        · obtain ⟨hspot, hin⟩ := hin hfit
          have hb := hW.blk p.1 L _ hL hB
          generalize hob : w.heap[L.b]? = ob at hb
          cases hb with
          | rw hz2 hs2 hc2 hg2 =>
            rename_i c' el'
            obtain ⟨hcap, hold'⟩ := hin c' el' hob (hc2 (by omega)) hz2 hg2
            obtain ⟨w', hrun, hw1, hw2⟩ := inplace_sound (P := P) hW hL hB hwall hob (cap := cap) hold' hnew hone hlo hln hfit hcap
            obtain ⟨ab, ao, as⟩ := a
            simp only at hab hspot hrun hw1 hw2
            subst hab; subst hspot
            refine ⟨_, w', _, hroom _ _ _ w' hsv' hfit (by simp only [addr_add]; exact hrun), hw1, hw2, ?_⟩
            simpa [freshRow] using VRel.open 0 (sl + (n + 1)) cap (Env.add_self e σ.next ⟨L.b, ao, cap * z', z'⟩) (by omega) hfit (by simp)
        · exact grow _ (some a) cap old old' hW1 hG1 hsv' hfit ho hlo (by simpa [Builtin.firstCells] using hload)
      cases hv with
      | «open» o len c hL hpos hl hcc =>
        rename_i L
        obtain ⟨old', hload, hrel, hlo⟩ := read_sound (P := P) hW0 hL hold
        refine go L _ c old' hL rfl rfl hrel hlo hload fun hfit => ⟨rfl, fun c' el' hob hcs hz2 hg2 => ⟨?_, fun j v hj => ?_⟩⟩
        · show L.s + p.2 + c * z' ≤ _
          rw [← hz2]; omega
        · rcases readAt_eq hold with ⟨_, rfl⟩ | ⟨B2, c2, hB2, hc2, hle2, rfl⟩
          · simp at hj
          · rw [hB] at hB2; cases hB2
            replace hc2 : some (false, z', cs') = some c2 := hc2
            cases hc2
            have hjl : j < sl * z' := by
              rcases Nat.lt_or_ge j (sl * z') with h | h
              · exact h
              · rw [List.getElem?_eq_none (by simp; omega)] at hj; cases hj
            rw [List.getElem?_take_of_lt hjl, List.getElem?_drop] at hj
            obtain ⟨v', h1, h2⟩ := hg2 _ _ hj
            exact ⟨v', by rw [← h1]; show c'[L.s + p.2 + j]? = _; rw [Nat.add_assoc], h2⟩
      | open0 o c a hL hb hc =>
        rename_i L
        have h0 : old = [] := by
          rcases readAt_eq hold with ⟨_, rfl⟩ | ⟨B2, c2, hB2, hc2, hle2, rfl⟩
          · rfl
          · simp
        subst h0
        refine go L a c [] hL rfl hb .nil (by simp) (by simp [loadCells, loadCellsFrom]) fun hfit => ?_
        rcases hc with h | ⟨h1, h2, h3⟩
        · omega
        · refine ⟨h1, fun c' el' hob hcs hz2 hg2 => ⟨?_, fun j v hj => by simp at hj⟩⟩
          rw [← hz2]; omega
    | succ c =>
      replace h : bc (Nat.ble (sl + (n + 1)) c)
          (om (writeAt σ p.1 (p.2 + sl * size) new) fun σ => (.slice (some ⟨p.1, p.2, none⟩) (sl + (n + 1)) (c + 1), σ))
          (ob (readAt σ.heap p.1 p.2 (sl * size)) fun old => some (freshRow size (sl + (n + 1)) (old ++ new) σ)) = some (r, σ') := h
      rw [bc_eq] at h
      cases hv with
      | exact o len c hL hl =>
        rename_i L
        split at h
        · rename_i hfit
          replace hfit : sl + (n + 1) ≤ c := by simpa using hfit
          rw [om_eq] at h; obtain ⟨σ1, hw, h⟩ := h
          cases h
          obtain ⟨w', hrun, h1, h2⟩ := write_sound (P := P) hW hL hw hnew
          exact ⟨e, w', _, hroom _ _ _ w' rfl hfit (by simp only [addr_add, Nat.add_assoc]; exact hrun), h1, h2, .exact _ _ _ hL hfit⟩
        · rename_i hfit
          replace hfit : ¬ sl + (n + 1) ≤ c := by simpa using hfit
          rw [ob_eq] at h; obtain ⟨old, hold, h⟩ := h
          cases h
          obtain ⟨old', hload, hrel, hlo⟩ := read_sound (P := P) hW0 hL hold
          exact grow σ _ c old old' hW (.refl _ _ _) rfl hfit hrel hlo (by simpa [Builtin.firstCells] using hload)
end Go.AM
