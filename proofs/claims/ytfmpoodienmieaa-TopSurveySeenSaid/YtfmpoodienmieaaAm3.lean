/- The abstract machine: memory related to the model's memory; the laws of reading, writing, making and dropping blocks. -/
import Derived.Test.YtfmpoodienmieaaAm2
import Derived.Laws.CopyRow
import Derived.Laws.Cells
import Derived.RangeFuncRecord
import Derived.Below
namespace Go.AM
def Blk.ro : Blk → Bool
  | .cells r _ _ => r
  | _ => false

/-- The temporaries. -/
def ERel (e : Env) (l : Loc) (t : Tr Value) (a : Array Value) : Prop := ∀ i, VRel e (slot i l t) (a.getD i undef)
def KRel (kept : Kept) (l : Loc) (t : Tr Value) : Prop := (∀ i v, t.get i = some v → kept i = true) ∧ ∀ i v, lget i l = some v → kept i = false

inductive BRel (e : Env) (L : LocE) : Blk → Option Obj → Prop where
  | ro {z : Nat} {cs : List Value} {o : Option Obj} (hz : L.z = z) (h : ∀ (j : Nat) (v : Value), cs[j]? = some v → ∃ c el fz v', o = some (.cells c el fz) ∧ c[L.s + j]? = some v' ∧ VRel e v v') : BRel e L (.cells true z cs) o
  | rw {z : Nat} {cs : List Value} {c : Array Value} {el : TypeId} (hz : L.z = z) (hs : L.s + cs.length ≤ c.size) (hc : z ≠ 0 → L.s + L.cap ≤ c.size)
      (h : ∀ (j : Nat) (v : Value), cs[j]? = some v → ∃ v', c[L.s + j]? = some v' ∧ VRel e v v') : BRel e L (.cells false z cs) (some (.cells c el (0, 0)))
  | map {es : List (Value × Value)} {es' : Array MapEntry} {clock : Nat} (hl : es.length = es'.size) (hf : ∀ p ∈ es, isFlat p.1 = true)
      (h : ∀ (j : Nat) (p : Value × Value), es[j]? = some p → ∃ q, es'[j]? = some q ∧ q.key = p.1 ∧ VRel e p.2 q.val) : BRel e L (.map es) (some (.map es' clock))
  | loop {st : LoopState} {pend : Option Code} {kept : Nat → Bool} {fn : FuncId} {t : Tr Value} {params : List Tmp} {assign body : Code} {d : Nat} {tmps : Array Value} {D : LocE} {fn' : FuncId}
      (hd : e d = some D) (ht : ERel e [] t tmps) (hk : ∀ i v, t.get i = some v → kept i = true) (hp : params.all (Nat.blt · tmps.size) = true) (ha : codeFits tmps.size assign = true) (hb : codeFits tmps.size body = true) :
      BRel e L (.loop st pend kept fn t params assign body d) (some (.loop { state := st, pending := pend, fn := fn', tmps := tmps, params := ⟨params⟩, assign := assign, body := body, defers := D.b }))
  | defer : BRel e L .defer (some (.deferred (some [])))

theorem ERel.mono {e e' : Env} (he : e.le e') {l : Loc} {t : Tr Value} {a : Array Value} (h : ERel e l t a) : ERel e' l t a := fun i => (h i).mono he
theorem BRel.mono {e e' : Env} (he : e.le e') {L : LocE} {B : Blk} {o : Option Obj} (h : BRel e L B o) : BRel e' L B o := by
  cases h with
  | ro hz h => exact .ro hz fun j v hj => let ⟨c, el, fz, v', h1, h2, h3⟩ := h j v hj; ⟨c, el, fz, v', h1, h2, h3.mono he⟩
  | rw hz hs hc h => exact .rw hz hs hc fun j v hj => let ⟨v', h2, h3⟩ := h j v hj; ⟨v', h2, h3.mono he⟩
  | map hl hf h => exact .map hl hf fun j p hj => let ⟨q, h1, h2, h3⟩ := h j p hj; ⟨q, h1, h2, h3.mono he⟩
  | loop hd ht hk hp ha hb => exact .loop (he _ _ hd) (ht.mono he) hk hp ha hb
  | defer => exact .defer

structure WRel (e : Env) (σ : St) (w : World) : Prop where
  dom : ∀ i L, e i = some L → i < σ.next ∧ (σ.heap.get i ≠ none → L.b < w.heap.size)
  blk : ∀ i L B, e i = some L → σ.heap.get i = some B → BRel e L B w.heap[L.b]?
  sep : ∀ i j L M B C, i ≠ j → e i = some L → e j = some M → σ.heap.get i = some B → σ.heap.get j = some C → B.ro = false → L.b ≠ M.b
  bnd : ∀ i B, σ.heap.get i = some B → i < σ.next

def Owned (e : Env) (σ : St) (b : Nat) : Prop := ∃ i L B, σ.wall ≤ i ∧ e i = some L ∧ σ.heap.get i = some B ∧ B.ro = false ∧ L.b = b

structure Grow (e : Env) (σ : St) (w : World) (e' : Env) (σ' : St) (w' : World) : Prop where
  env : e.le e'
  old : ∀ i, i < σ.next → e' i = e i
  next : σ.next ≤ σ'.next
  wall : σ'.wall = σ.wall
  size : w.heap.size ≤ w'.heap.size
  os : w'.os = w.os
  tape : w'.tape = w.tape
  output : w'.output = w.output
  frame : ∀ b, b < w.heap.size → ¬ Owned e σ b → w'.heap[b]? = w.heap[b]?
  owned : ∀ b, b < w.heap.size → Owned e' σ' b → Owned e σ b
  fresh : ∀ i L, e' i = some L → e i = some L ∨ w.heap.size ≤ L.b ∨ Owned e σ L.b
  keep : ∀ i, i < σ.wall → i < σ.next → σ'.heap.get i = σ.heap.get i
  low : ∀ i, i < σ.next → i < σ'.low → σ'.heap.get i = σ.heap.get i
  lower : σ'.low ≤ σ.low

theorem Grow.refl (e : Env) (σ : St) (w : World) : Grow e σ w e σ w :=
  ⟨.refl e, fun _ _ => rfl, Nat.le_refl _, rfl, Nat.le_refl _, rfl, rfl, rfl, fun _ _ _ => rfl, fun _ _ h => h, fun _ _ h => .inl h, fun _ _ _ => rfl, fun _ _ _ => rfl, Nat.le_refl _⟩
theorem Grow.trans {e e1 e2 : Env} {σ σ1 σ2 : St} {w w1 w2 : World} (h : Grow e σ w e1 σ1 w1) (k : Grow e1 σ1 w1 e2 σ2 w2) : Grow e σ w e2 σ2 w2 where
  env := h.env.trans k.env
  old i hi := (k.old i (Nat.lt_of_lt_of_le hi h.next)).trans (h.old i hi)
  next := Nat.le_trans h.next k.next
  wall := k.wall.trans h.wall
  size := Nat.le_trans h.size k.size
  os := k.os.trans h.os
  tape := k.tape.trans h.tape
  output := k.output.trans h.output
  frame b hb ho := (k.frame b (Nat.lt_of_lt_of_le hb h.size) (fun h1 => ho (h.owned b hb h1))).trans (h.frame b hb ho)
  owned b hb ho := h.owned b hb (k.owned b (Nat.lt_of_lt_of_le hb h.size) ho)
  fresh i L hi := by
    rcases k.fresh i L hi with h1 | h1 | h1
    · exact h.fresh i L h1
    · exact .inr (.inl (Nat.le_trans h.size h1))
    · rcases Nat.lt_or_ge L.b w.heap.size with h2 | h2
      · exact .inr (.inr (h.owned _ h2 h1))
      · exact .inr (.inl h2)
  keep i hi hn := (k.keep i (by rw [h.wall]; exact hi) (Nat.lt_of_lt_of_le hn h.next)).trans (h.keep i hi hn)
  low i hi hl := (k.low i (Nat.lt_of_lt_of_le hi h.next) hl).trans (h.low i hi (Nat.lt_of_lt_of_le hl k.lower))
  lower := Nat.le_trans k.lower h.lower

/-! ### One block is changed -/
theorem low_eq (i l : Nat) : bc (Nat.ble i l) i l = min i l := by
  rw [bc_eq]; simp only [Nat.ble_eq]; split <;> omega
theorem upd_sound {e : Env} {σ : St} {w w' : World} {i : Nat} {L : LocE} {B B' : Blk} (hW : WRel e σ w) (hi : e i = some L) (hB : σ.heap.get i = some B) (hro : B.ro = false)
    (hwall : σ.wall ≤ i) (hw : BRel e L B' w'.heap[L.b]?) (hother : ∀ k, k ≠ L.b → w'.heap[k]? = w.heap[k]?) (hsize : w'.heap.size = w.heap.size)
    (hos : w'.os = w.os) (htape : w'.tape = w.tape) (hout : w'.output = w.output) :
    WRel e { σ with heap := σ.heap.put i B', low := bc (Nat.ble i σ.low) i σ.low } w' ∧ Grow e σ w e { σ with heap := σ.heap.put i B', low := bc (Nat.ble i σ.low) i σ.low } w' := by
  have hg : ∀ j, (σ.heap.put i B').get j = if i = j then some B' else σ.heap.get j := fun j => get_put _ _ _ _
  refine ⟨⟨?_, ?_, ?_, fun j C hC => ?_⟩, ⟨.refl e, fun _ _ => rfl, Nat.le_refl _, rfl, Nat.le_of_eq hsize.symm, hos, htape, hout, ?_, ?_, fun _ _ h => .inl h, ?_, ?_, ?_⟩⟩
  · intro j M hj
    refine ⟨(hW.dom j M hj).1, fun hn => ?_⟩
    rw [hsize]
    by_cases h : i = j
    · subst h; rw [hi] at hj; cases hj; exact (hW.dom i L hi).2 (by simp [hB])
    · simp only [hg, if_neg h] at hn; exact (hW.dom j M hj).2 hn
  · intro j M C hj hC
    simp only [hg] at hC
    by_cases h : i = j
    · subst h; rw [hi] at hj; cases hj; rw [if_pos rfl] at hC; cases hC; exact hw
    · rw [if_neg h] at hC
      rw [hother _ (fun hb => hW.sep i j L M B C h hi hj hB hC hro hb.symm)]
      exact hW.blk j M C hj hC
  · intro j k M N C D hjk hj hk hC hD hr
    simp only [hg] at hC hD
    by_cases h : i = j
    · subst h; rw [hi] at hj; cases hj
      rw [if_neg hjk] at hD
      exact hW.sep i k L N B D hjk hi hk hB hD hro
    · rw [if_neg h] at hC
      by_cases h2 : i = k
      · subst h2; rw [hi] at hk; cases hk
        exact fun hb => hW.sep i j L M B C (Ne.symm hjk) hi hj hB hC hro hb.symm
      · rw [if_neg h2] at hD
        exact hW.sep j k M N C D hjk hj hk hC hD hr
  · simp only [hg] at hC
    split at hC
    · rename_i h; subst h; exact hW.bnd i B hB
    · exact hW.bnd j C hC
  · intro b hb ho
    exact hother b fun h => ho ⟨i, L, B, hwall, hi, hB, hro, h.symm⟩
  · rintro b hb ⟨j, M, C, hj, hM, hC, hr, rfl⟩
    simp only [hg] at hC
    by_cases h : i = j
    · subst h; rw [hi] at hM; cases hM; exact ⟨i, L, B, hwall, hi, hB, hro, rfl⟩
    · rw [if_neg h] at hC; exact ⟨j, M, C, hj, hM, hC, hr, rfl⟩
  · intro j hj _
    show (σ.heap.put i B').get j = _
    rw [hg, if_neg (by omega)]
  · intro j _ hl
    have hl : j < bc (Nat.ble i σ.low) i σ.low := hl
    rw [low_eq] at hl
    show (σ.heap.put i B').get j = _
    rw [hg, if_neg (by omega)]
  · show bc (Nat.ble i σ.low) i σ.low ≤ _
    rw [low_eq]; omega

/-! ### A new block -/
def Env.add (e : Env) (i : Nat) (L : LocE) : Env := fun j => if j = i then some L else e j
theorem Env.le_add {e : Env} {i : Nat} (h : e i = none) (L : LocE) : e.le (e.add i L) := by
  intro j M hj
  show (if j = i then some L else e j) = _
  rw [if_neg (fun hji => by subst hji; rw [h] at hj; cases hj)]; exact hj
theorem Env.add_self (e : Env) (i : Nat) (L : LocE) : e.add i L i = some L := if_pos rfl
theorem WRel.fresh {e : Env} {σ : St} {w : World} (hW : WRel e σ w) : e σ.next = none := by
  cases h : e σ.next with
  | none => rfl
  | some L => exact absurd (hW.dom _ _ h).1 (Nat.lt_irrefl _)
/-- A new name for a block that no other name owns: a block of the model's that is new, or one whose name has been dropped. -/
theorem name_sound {e : Env} {σ : St} {w w' : World} {L : LocE} {B : Blk} (hW : WRel e σ w) (hb : L.b < w'.heap.size)
    (hw : BRel (e.add σ.next L) L B w'.heap[L.b]?) (hother : ∀ k, k < w.heap.size → k ≠ L.b → w'.heap[k]? = w.heap[k]?) (hsize : w.heap.size ≤ w'.heap.size)
    (hfree : ∀ j M C, e j = some M → σ.heap.get j = some C → M.b ≠ L.b) : WRel (e.add σ.next L) (newBlk σ B) w' := by
  have hg : ∀ j, (newBlk σ B).heap.get j = if σ.next = j then some B else σ.heap.get j := fun j => get_put _ _ _ _
  have hn := hW.fresh
  refine ⟨?_, ?_, ?_, fun j C hC => ?_⟩
  · intro j M hj
    by_cases h : j = σ.next
    · subst h; rw [Env.add_self] at hj; cases hj; exact ⟨Nat.lt_succ_self _, fun _ => hb⟩
    · have hj' : e j = some M := by have : (if j = σ.next then some L else e j) = some M := hj; rwa [if_neg h] at this
      refine ⟨Nat.lt_succ_of_lt (hW.dom j M hj').1, fun hx => Nat.lt_of_lt_of_le ((hW.dom j M hj').2 ?_) hsize⟩
      rw [hg, if_neg (Ne.symm h)] at hx; exact hx
  · intro j M C hj hC
    rw [hg] at hC
    by_cases h : j = σ.next
    · subst h; rw [Env.add_self] at hj; cases hj; rw [if_pos rfl] at hC; cases hC; exact hw
    · have hj' : e j = some M := by have : (if j = σ.next then some L else e j) = some M := hj; rwa [if_neg h] at this
      rw [if_neg (Ne.symm h)] at hC
      rw [hother _ ((hW.dom j M hj').2 (by simp [hC])) (hfree j M C hj' hC)]
      exact (hW.blk j M C hj' hC).mono (Env.le_add hn L)
  · intro j k M N C D hjk hj hk hC hD hr
    rw [hg] at hC hD
    by_cases h : j = σ.next
    · subst h; rw [Env.add_self] at hj; cases hj
      have hk' : e k = some N := by have : (if k = σ.next then some L else e k) = some N := hk; rwa [if_neg (Ne.symm hjk)] at this
      rw [if_neg hjk] at hD
      exact fun hb => hfree k N D hk' hD hb.symm
    · have hj' : e j = some M := by have : (if j = σ.next then some L else e j) = some M := hj; rwa [if_neg h] at this
      rw [if_neg (Ne.symm h)] at hC
      by_cases h2 : k = σ.next
      · subst h2; rw [Env.add_self] at hk; cases hk; exact hfree j M C hj' hC
      · have hk' : e k = some N := by have : (if k = σ.next then some L else e k) = some N := hk; rwa [if_neg h2] at this
        rw [if_neg (Ne.symm h2)] at hD
        exact hW.sep j k M N C D hjk hj' hk' hC hD hr
  · rw [hg] at hC
    split at hC
    · rename_i h; subst h; exact Nat.lt_succ_self _
    · exact Nat.lt_succ_of_lt (hW.bnd j C hC)
theorem new_sound {e : Env} {σ : St} {w : World} {L : LocE} {B : Blk} {o : Obj} (hW : WRel e σ w) (hb : L.b = w.heap.size) (hw : BRel e L B (some o)) :
    WRel (e.add σ.next L) (newBlk σ B) (w.alloc o) ∧ Grow e σ w (e.add σ.next L) (newBlk σ B) (w.alloc o) := by
  have hn := hW.fresh
  have hg : ∀ j, (newBlk σ B).heap.get j = if σ.next = j then some B else σ.heap.get j := fun j => get_put _ _ _ _
  have hnew : (w.alloc o).heap[L.b]? = some o := by rw [hb]; exact World.alloc_heap_new w o
  have hold : ∀ k, k < w.heap.size → (w.alloc o).heap[k]? = w.heap[k]? := fun k hk => Go.RowKit.Below.heap_alloc w o k hk
  have hsz : (w.alloc o).heap.size = w.heap.size + 1 := by show (w.heap.push o).size = _; simp
  refine ⟨name_sound hW (by omega) ?_ (fun k hk _ => hold k hk) (by omega) (fun j M C hj hC => ?_), ?_⟩
  · rw [hnew]; exact hw.mono (Env.le_add hn L)
  · have := (hW.dom j M hj).2 (by simp [hC]); omega
  · refine ⟨Env.le_add hn L, fun i hi => ?_, Nat.le_succ _, rfl, by omega, rfl, rfl, rfl, fun b hb' _ => hold b hb', ?_, fun i M hi => ?_, fun i _ hi => ?_, fun i hi _ => ?_, Nat.le_refl _⟩
    · show (if i = σ.next then some L else e i) = _; rw [if_neg (by omega)]
    · rintro b hb' ⟨j, M, C, hj, hM, hC, hr, rfl⟩
      rw [hg] at hC
      by_cases h : j = σ.next
      · subst h; rw [Env.add_self] at hM; cases hM; omega
      · have hM' : e j = some M := by have : (if j = σ.next then some L else e j) = some M := hM; rwa [if_neg h] at this
        rw [if_neg (Ne.symm h)] at hC
        exact ⟨j, M, C, hj, hM', hC, hr, rfl⟩
    · by_cases h : i = σ.next
      · subst h; rw [Env.add_self] at hi; cases hi; exact .inr (.inl (by omega))
      · have hi' : e i = some M := by have : (if i = σ.next then some L else e i) = some M := hi; rwa [if_neg h] at this
        exact .inl hi'
    · rw [hg, if_neg (by omega)]
    · rw [hg, if_neg (by omega)]

/-! ### A block is dropped -/
theorem del_sound {e : Env} {σ : St} {w : World} {i : Nat} (hW : WRel e σ w) (hwall : σ.wall ≤ i) :
    WRel e { σ with heap := σ.heap.del i, low := bc (Nat.ble i σ.low) i σ.low } w ∧ Grow e σ w e { σ with heap := σ.heap.del i, low := bc (Nat.ble i σ.low) i σ.low } w := by
  have hg : ∀ j, (σ.heap.del i).get j = if i = j then none else σ.heap.get j := fun j => get_del _ _ _
  have hs : ∀ {j C}, (σ.heap.del i).get j = some C → σ.heap.get j = some C := fun {j C} h => by
    rw [hg] at h; split at h
    · cases h
    · exact h
  refine ⟨⟨fun j M hj => ⟨(hW.dom j M hj).1, fun hn => (hW.dom j M hj).2 (fun h => hn (by show (σ.heap.del i).get j = none; rw [hg]; split; rfl; exact h))⟩,
    fun j M C hj hC => hW.blk j M C hj (hs hC), fun j k M N C D hjk hj hk hC hD hr => hW.sep j k M N C D hjk hj hk (hs hC) (hs hD) hr, fun j C hC => hW.bnd j C (hs hC)⟩,
    ⟨.refl e, fun _ _ => rfl, Nat.le_refl _, rfl, Nat.le_refl _, rfl, rfl, rfl, fun _ _ _ => rfl, ?_, fun _ _ h => .inl h, ?_, ?_, ?_⟩⟩
  · rintro b hb ⟨j, M, C, hj, hM, hC, hr, rfl⟩
    exact ⟨j, M, C, hj, hM, hs hC, hr, rfl⟩
  · intro j hj _
    show (σ.heap.del i).get j = _
    rw [hg, if_neg (by omega)]
  · intro j _ hl
    have hl : j < bc (Nat.ble i σ.low) i σ.low := hl
    rw [low_eq] at hl
    show (σ.heap.del i).get j = _
    rw [hg, if_neg (by omega)]
  · show bc (Nat.ble i σ.low) i σ.low ≤ _
    rw [low_eq]; omega
end Go.AM
