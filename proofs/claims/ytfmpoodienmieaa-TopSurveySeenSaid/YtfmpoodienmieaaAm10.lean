/- The abstract machine: maps. -/
import Derived.Test.YtfmpoodienmieaaAm9
namespace Go.AM
variable {P : Program}
theorem prun_bind {α β : Type} {a : Sem α} {f : α → Sem β} {r : β} (h : prun P (a >>= f) = some r) : ∃ x, prun P a = some x ∧ prun P (f x) = some r := by
  induction a with
  | pure x => exact ⟨x, rfl, h⟩
  | program k ih => obtain ⟨x, h1, h2⟩ := ih _ h; exact ⟨x, h1, h2⟩
  | mark m k ih => obtain ⟨x, h1, h2⟩ := ih h; exact ⟨x, h1, h2⟩
  | _ => cases h
def SameKeys (l l' : List MapEntry) : Prop := l.map (·.key) = l'.map (·.key)
theorem sameKeys_cons {a : MapEntry} {l : List MapEntry} {l' : List MapEntry} (h : SameKeys (a :: l) l') : ∃ b r, l' = b :: r ∧ a.key = b.key ∧ SameKeys l r := by
  cases l' with
  | nil => simp [SameKeys] at h
  | cons b r => simp [SameKeys] at h; exact ⟨b, r, rfl, h.1, h.2⟩
theorem findNow_same (d : TypeDesc) (k : Value) : ∀ (l l' : List MapEntry) (i : Nat), SameKeys l l' →
    (Instr.findNow d k l i = none → Instr.findNow d k l' i = none) ∧ (Instr.findNow d k l i = some none → Instr.findNow d k l' i = some none) ∧
    (∀ j v, Instr.findNow d k l i = some (some (j, v)) → ∃ m p q, j = i + m ∧ l[m]? = some p ∧ p.val = v ∧ l'[m]? = some q ∧ Instr.findNow d k l' i = some (some (j, q.val))) := by
  intro l
  induction l with
  | nil =>
    intro l' i h
    have : l' = [] := by simp [SameKeys] at h; exact h
    subst this
    exact ⟨fun h => h, fun h => h, fun j v h => by simp [Instr.findNow] at h⟩
  | cons a l ih =>
    intro l' i h
    obtain ⟨b, r, rfl, hk, hs⟩ := sameKeys_cons h
    obtain ⟨h1, h2, h3⟩ := ih r (i + 1) hs
    simp only [Instr.findNow, ← hk]
    cases hc : Instr.sameNow d k a.key with
    | none => simp
    | some c =>
      cases c with
      | true =>
        refine ⟨by simp, by simp, fun j v h => ?_⟩
        simp at h
        exact ⟨0, a, b, by omega, by simp, h.2, by simp, by simp [h.1]⟩
      | false =>
        refine ⟨h1, h2, fun j v h => ?_⟩
        obtain ⟨m, p, q, e1, e2, e3, e4, e5⟩ := h3 j v h
        exact ⟨m + 1, p, q, by omega, by simpa using e2, e3, by simpa using e4, e5⟩
theorem findAsking_same (w : World) (kt : TypeId) (k : Value) : ∀ (l l' : List MapEntry) (i : Nat), SameKeys l l' →
    (prun P (Instr.findAsking kt k l i) = some none → (Instr.findAsking kt k l' i).run P w = .ok none w) ∧
    (∀ j v, prun P (Instr.findAsking kt k l i) = some (some (j, v)) → ∃ m p q, j = i + m ∧ l[m]? = some p ∧ p.val = v ∧ l'[m]? = some q ∧ (Instr.findAsking kt k l' i).run P w = .ok (some (j, q.val)) w) := by
  intro l
  induction l with
  | nil =>
    intro l' i h
    have : l' = [] := by simp [SameKeys] at h; exact h
    subst this
    exact ⟨fun _ => rfl, fun j v h => by replace h : some none = some (some (j, v)) := h; cases h⟩
  | cons a l ih =>
    intro l' i h
    obtain ⟨b, r, rfl, hk, hs⟩ := sameKeys_cons h
    obtain ⟨h1, h2⟩ := ih r (i + 1) hs
    simp only [Instr.findAsking, ← hk]
    constructor
    · intro h
      obtain ⟨c, hc, h⟩ := prun_bind h
      have hr := prun_sound hc w
      cases c with
      | true => cases h
      | false => simp [Sem.run_bind, hr]; exact h1 h
    · intro j v h
      obtain ⟨c, hc, h⟩ := prun_bind h
      have hr := prun_sound hc w
      cases c with
      | true =>
        replace h : some (some (i, a.val)) = some (some (j, v)) := h
        cases h
        exact ⟨0, a, b, by omega, by simp, rfl, by simp, by simp [Sem.run_bind, hr]⟩
      | false =>
        obtain ⟨m, p, q, e1, e2, e3, e4, e5⟩ := h2 j v h
        exact ⟨m + 1, p, q, by omega, by simpa using e2, e3, by simpa using e4, by simp [Sem.run_bind, hr]; exact e5⟩
/-- What a map holds, and what the model's holds. -/
def MRel (e : Env) (es : List (Value × Value)) (es' : List MapEntry) : Prop :=
  es.length = es'.length ∧ ∀ (j : Nat) (p : Value × Value), es[j]? = some p → ∃ q, es'[j]? = some q ∧ q.key = p.1 ∧ VRel e p.2 q.val
theorem MRel.keys {e : Env} {es : List (Value × Value)} {es' : List MapEntry} (h : MRel e es es') : SameKeys (es.map entry0) es' := by
  unfold SameKeys
  apply List.ext_getElem?
  intro j
  simp only [List.getElem?_map]
  cases hj : es[j]? with
  | none =>
    have : es.length ≤ j := List.getElem?_eq_none_iff.1 hj
    rw [List.getElem?_eq_none (by rw [← h.1]; exact this)]; rfl
  | some p =>
    obtain ⟨q, h1, h2, _⟩ := h.2 j p hj
    simp [h1, h2, entry0]
theorem find_sound {e : Env} {kt : TypeId} {k : Value} {es : List (Value × Value)} {es' : List MapEntry} (hm : MRel e es es') {em : Bool} {r : Option (Nat × Value)} (h : findA P kt k es em = some r) (w : World) :
    isFlat k = true ∧ (Instr.checkKey em 10000 kt k).run P w = .ok () w ∧
    ((r = none ∧ (Instr.findKey kt k es').run P w = .ok none w) ∨ ∃ j p q, r = some (j, p.2) ∧ es[j]? = some p ∧ es'[j]? = some q ∧ q.key = p.1 ∧ VRel e p.2 q.val ∧ (Instr.findKey kt k es').run P w = .ok (some (j, q.val)) w) := by
  unfold findA at h
  rw [bc_none] at h; obtain ⟨hk, h⟩ := h
  obtain ⟨⟨⟩, h1, h⟩ := prun_bind h
  refine ⟨hk, prun_sound h1 w, ?_⟩
  unfold Instr.findKey at h ⊢
  obtain ⟨d, h2, h⟩ := prun_bind h
  have hd := prun_sound h2 w
  obtain ⟨n1, n2, n3⟩ := findNow_same d k (es.map entry0) es' 0 hm.keys
  obtain ⟨a1, a2⟩ := findAsking_same (P := P) w kt k (es.map entry0) es' 0 hm.keys
  have rel : ∀ (m : Nat) (p : MapEntry) (q : MapEntry), (es.map entry0)[m]? = some p → es'[m]? = some q → ∃ p0, es[m]? = some p0 ∧ p0.2 = p.val ∧ q.key = p0.1 ∧ VRel e p0.2 q.val := fun m p q hp hq => by
    simp only [List.getElem?_map, Option.map_eq_some_iff] at hp
    obtain ⟨p0, hp0, rfl⟩ := hp
    obtain ⟨q', h1, h2, h3⟩ := hm.2 m p0 hp0
    rw [hq] at h1; cases h1
    exact ⟨p0, hp0, rfl, h2, h3⟩
  cases hn : Instr.findNow d k (es.map entry0) 0 with
  | none =>
    rw [hn] at h
    cases r with
    | none => exact .inl ⟨rfl, by simp [Sem.run_bind, hd, n1 hn]; exact a1 h⟩
    | some r =>
      obtain ⟨j, v⟩ := r
      obtain ⟨m, p, q, e1, e2, e3, e4, e5⟩ := a2 j v h
      obtain ⟨p0, e6, e7, e8, e9⟩ := rel m p q e2 e4
      have : j = m := by omega
      subst this
      exact .inr ⟨j, p0, q, by rw [e7, e3], e6, e4, e8, e9, by simp [Sem.run_bind, hd, n1 hn]; exact e5⟩
  | some r0 =>
    rw [hn] at h
    replace h : some r0 = some r := h
    cases h
    cases r with
    | none => exact .inl ⟨rfl, by simp [Sem.run_bind, hd, n2 hn]⟩
    | some r =>
      obtain ⟨j, v⟩ := r
      obtain ⟨m, p, q, e1, e2, e3, e4, e5⟩ := n3 j v hn
      obtain ⟨p0, e6, e7, e8, e9⟩ := rel m p q e2 e4
      have : j = m := by omega
      subst this
      exact .inr ⟨j, p0, q, by rw [e7, e3], e6, e4, e8, e9, by simp [Sem.run_bind, hd, e5]⟩
theorem lookup_sound {e : Env} {σ : St} {w : World} (hW : WRel e σ w) {t : TypeId} {m m' k k' v : Value} {ok : Bool} (hm : VRel e m m') (hk : VRel e k k') (h : lookupA P t m k ok σ.heap = some v) :
    StillOk P e w v (Instr.lookup t m' k' ok) := by
  unfold lookupA at h
  rw [ob_eq] at h; obtain ⟨q, hq, h⟩ := h
  rw [ob_eq] at h; obtain ⟨es, hes, h⟩ := h
  rw [ob_eq] at h; obtain ⟨r, hr, h⟩ := h
  rw [om_eq] at h; obtain ⟨p, hp, rfl⟩ := h
  have hu := mapT_und hq
  unfold mapOf at hes
  rw [ob_eq] at hes; obtain ⟨o, ho, hes⟩ := hes
  have := vMap_eq ho
  subst this
  have key : ∃ es' : Array MapEntry, MRel e es es'.toList ∧ ((m' = .map none ∧ es' = #[]) ∨ ∃ b clock, m' = .map (some b) ∧ w.heap[b]? = some (.map es' clock)) := by
    cases o with
    | none =>
      replace hes : some [] = some es := hes
      cases hes
      cases hm
      exact ⟨#[], ⟨rfl, by simp⟩, .inl ⟨rfl, rfl⟩⟩
    | some i =>
      replace hes : ob (σ.heap.get i) bMap = some es := hes
      rw [ob_eq] at hes; obtain ⟨B, hB, hes⟩ := hes
      cases hm with
      | map hL =>
        obtain ⟨_, es', clock, hob, hl, hf, hrel⟩ := map_of hW hL hB hes
        exact ⟨es', ⟨by simpa using hl, fun j p hj => by simpa using hrel j p hj⟩, .inr ⟨_, clock, rfl, hob⟩⟩
  obtain ⟨es', hmr, hm'⟩ := key
  obtain ⟨hkf, hc, hfind⟩ := find_sound hmr hr w
  have hkk := (hk.flat_eq hkf).symm
  subst hkk
  have hemp : es.isEmpty = es'.isEmpty := by
    have h1 := hmr.1
    rw [Bool.eq_iff_iff, List.isEmpty_iff_length_eq_zero, Array.isEmpty_iff_size_eq_zero]
    simp at h1; omega
  rw [hemp] at hc
  have fin : ∀ x v1 ok1, (Instr.findKey q.1 k es'.toList).run P w = .ok x w → ((x = none ∧ (zeroValue q.2).run P w = .ok v1 w ∧ ok1 = false) ∨ ∃ j, x = some (j, v1) ∧ ok1 = true) →
      (Instr.lookup t m' k ok).run P w = .ok (if ok then .tuple #[v1, .bool ok1] else v1) w := fun x v1 ok1 h1 h2 => by
    rcases hm' with ⟨rfl, rfl⟩ | ⟨b, clock, rfl, hob⟩
    · unfold Instr.lookup
      rcases h2 with ⟨rfl, h2, rfl⟩ | ⟨j, rfl, rfl⟩ <;> simp only [Sem.run_bind, R_und hu, Result.andThen_ok, Sem.run_pure, hc, h1, pure_bind] <;> (try simp only [Sem.run_bind, h2, Result.andThen_ok, Sem.run_pure])
    · have hg : (getObj b).run P w = .ok (.map es' clock) w := by simp [getObj, Sem.run, hob]
      unfold Instr.lookup
      rcases h2 with ⟨rfl, h2, rfl⟩ | ⟨j, rfl, rfl⟩ <;> simp only [Sem.run_bind, R_und hu, Result.andThen_ok, Sem.run_pure, hg, hc, h1, pure_bind] <;> (try simp only [Sem.run_bind, h2, Result.andThen_ok, Sem.run_pure])
  rcases hfind with ⟨rfl, hf⟩ | ⟨j, p0, q0, rfl, h1, h2, h3, h4, hf⟩
  · replace hp : om (zro P q.2) (fun z => (z, false)) = some p := hp
    rw [om_eq] at hp; obtain ⟨z, hz, rfl⟩ := hp
    have hzv := VRel.flat e (zro_flat hz)
    have := fin none z false hf (.inl ⟨rfl, R_zro hz w, rfl⟩)
    cases ok with
    | true => exact ⟨_, this, .tup (.cons hzv (.cons (.bool _) .nil))⟩
    | false => exact ⟨_, this, hzv⟩
  · replace hp : some (p0.2, true) = some p := hp
    cases hp
    have := fin (some (j, q0.val)) q0.val true hf (.inr ⟨j, rfl, rfl⟩)
    cases ok with
    | true => exact ⟨_, this, .tup (.cons h4 (.cons (.bool _) .nil))⟩
    | false => exact ⟨_, this, h4⟩
theorem setBlk_eq {σ σ' : St} {i : Nat} {B : Blk} (h : setBlk σ i B = some σ') : σ.wall ≤ i ∧ σ' = { σ with heap := σ.heap.put i B, low := bc (Nat.ble i σ.low) i σ.low } := by
  unfold setBlk at h
  rw [bc_none] at h; obtain ⟨h1, h⟩ := h
  cases h
  exact ⟨by simpa using h1, rfl⟩
theorem mapUpdate_sound {e : Env} {σ σ' : St} {w : World} (hW : WRel e σ w) {t : TypeId} {m m' k k' v v' : Value} (hm : VRel e m m') (hk : VRel e k k') (hv : VRel e v v') (h : mapUpdateA P t m k v σ = some σ') :
    ∃ w', (Instr.mapUpdate t m' k' v').run P w = .ok () w' ∧ WRel e σ' w' ∧ Grow e σ w e σ' w' := by
  unfold mapUpdateA at h
  rw [ob_eq] at h; obtain ⟨q, hq, h⟩ := h
  rw [ob_eq] at h; obtain ⟨o, ho, h⟩ := h
  rw [ob_eq] at h; obtain ⟨i, hi, h⟩ := h
  rw [ob_eq] at h; obtain ⟨B, hB, h⟩ := h
  rw [ob_eq] at h; obtain ⟨es, hes, h⟩ := h
  rw [ob_eq] at h; obtain ⟨r, hr, h⟩ := h
  have hu := mapT_und hq
  have := vMap_eq ho
  subst this
  subst hi
  cases hm with
  | map hL =>
    rename_i L
    obtain ⟨rfl, es', clock, hob, hl, hf, hrel⟩ := map_of hW hL hB hes
    obtain ⟨hkf, hc, hfind⟩ := find_sound (es' := es'.toList) ⟨by simpa using hl, fun j p hj => by simpa using hrel j p hj⟩ hr w
    have hkk := (hk.flat_eq hkf).symm
    subst hkk
    have hg : (getObj L.b).run P w = .ok (.map es' clock) w := by simp [getObj, Sem.run, hob]
    have hset : ∀ o, (setObj L.b o).run P w = .ok () { w with heap := w.heap.setIfInBounds L.b o } := fun o => by simp [setObj, Sem.run, hob]
    have hlt : L.b < w.heap.size := (Array.getElem?_eq_some_iff.1 hob).1
    have fin : ∀ (es1 : List (Value × Value)) (es1' : Array MapEntry) (c1 : Nat), setBlk σ i (.map es1) = some σ' → es1.length = es1'.size → (∀ p ∈ es1, isFlat p.1 = true) →
        (∀ (j : Nat) (p : Value × Value), es1[j]? = some p → ∃ q, es1'[j]? = some q ∧ q.key = p.1 ∧ VRel e p.2 q.val) →
        WRel e σ' { w with heap := w.heap.setIfInBounds L.b (.map es1' c1) } ∧ Grow e σ w e σ' { w with heap := w.heap.setIfInBounds L.b (.map es1' c1) } := fun es1 es1' c1 hsb x1 x2 x3 => by
      obtain ⟨hwall, rfl⟩ := setBlk_eq hsb
      refine upd_sound hW hL hB rfl hwall ?_ (fun k hk => ?_) (by simp) rfl rfl rfl
      · simp only [Array.getElem?_setIfInBounds, hlt, and_true, if_true]; exact .map x1 x2 x3
      · simp only [Array.getElem?_setIfInBounds, if_neg (Ne.symm hk)]
    rcases hfind with ⟨rfl, hfk⟩ | ⟨j, p0, q0, rfl, h1, h2, h3, h4, hfk⟩
    · replace h : setBlk σ i (.map (es ++ [(k, v)])) = some σ' := h
      obtain ⟨a, b⟩ := fin _ (es'.push { key := k, val := v', born := clock }) (clock + 1) h (by simp; exact hl) (fun p hp => by
        simp at hp
        rcases hp with hp | rfl
        · exact hf p hp
        · exact hkf) (fun j p hj => by
          by_cases hjl : j < es.length
          · rw [List.getElem?_append_left hjl] at hj
            obtain ⟨q, x1, x2⟩ := hrel j p hj
            exact ⟨q, by rw [Array.getElem?_push, if_neg (by omega)]; exact x1, x2⟩
          · rw [List.getElem?_append_right (by omega)] at hj
            have hj0 : j - es.length = 0 := by
              rcases Nat.eq_zero_or_pos (j - es.length) with h | h
              · exact h
              · rw [List.getElem?_eq_none (by simp; omega)] at hj; cases hj
            rw [hj0] at hj
            simp at hj
            subst hj
            have : j = es'.size := by omega
            subst this
            exact ⟨{ key := k, val := v', born := clock }, by simp, rfl, hv⟩)
      refine ⟨_, ?_, a, b⟩
      unfold Instr.mapUpdate
      simp only [Sem.run_bind, R_und hu, Result.andThen_ok, hg, hc, hfk, hset]
    · replace h : bc (Instr.sameBits 10000 (oe (es[j]?) k fun e => e.1) k) (setBlk σ i (.map (es.set j (k, v)))) none = some σ' := h
      rw [bc_none] at h; obtain ⟨hsb, h⟩ := h
      rw [h1] at hsb
      replace hsb : Instr.sameBits 10000 p0.1 k = true := hsb
      obtain ⟨a, b⟩ := fin _ (es'.modify j fun e => { e with key := k, val := v' }) clock h (by simp; exact hl) (fun p hp => by
        rcases List.mem_or_eq_of_mem_set hp with hp | rfl
        · exact hf p hp
        · exact hkf) (fun j' p hj => by
          rw [List.getElem?_set] at hj
          rw [Array.getElem?_modify]
          by_cases hjj : j = j'
          · subst hjj
            have hjl : j < es.length := (List.getElem?_eq_some_iff.1 h1).1
            rw [if_pos rfl, if_pos hjl] at hj
            cases hj
            have h2' : es'[j]? = some q0 := by simpa using h2
            rw [if_pos rfl, h2']
            exact ⟨_, rfl, rfl, hv⟩
          · rw [if_neg hjj] at hj
            rw [if_neg hjj]
            exact hrel j' p hj)
      refine ⟨_, ?_, a, b⟩
      have h2' : es'[j]? = some q0 := by simpa using h2
      unfold Instr.mapUpdate Instr.keyThatStays
      simp only [Sem.run_bind, R_und hu, Result.andThen_ok, hg, hc, hfk, hset, h2', Option.map_some, Option.getD_some, h3, hsb, if_true, Sem.run_pure]
end Go.AM
