/- The abstract machine: what comes in: the cells of plain data; slices of plain data as blocks that are only read. -/
import Derived.Test.YtfmpoodienmieaaAm38
import Derived.Test.YtfmpoodienmieaaAm30
import Derived.Deep.Slices
import Derived.OpenShut
namespace Go.AM
open Go Go.RowKit Go.ChangeShapes Go.WideShapes
inductive CK where
  | int (k : IntKind)
  | bool
  | str
def CK.ok : CK → Value → Prop
  | .int k, v => ∃ n, v = .int k n ∧ (Lit.int k n).wf = true
  | .bool, v => ∃ b, v = .bool b
  | .str, v => ∃ s : ByteArray, v = .string s ∧ s.size ≤ maxLen
inductive CKs : List CK → List Value → Prop where
  | nil : CKs [] []
  | cons {k : CK} {ks : List CK} {v : Value} {vs : List Value} (h : k.ok v) (hs : CKs ks vs) : CKs (k :: ks) (v :: vs)
theorem CKs.length {ks : List CK} {vs : List Value} (h : CKs ks vs) : vs.length = ks.length := by
  induction h with
  | nil => rfl
  | cons _ _ ih => simp [ih]
theorem CKs.append {ks ks' : List CK} {vs vs' : List Value} (h : CKs ks vs) (h' : CKs ks' vs') : CKs (ks ++ ks') (vs ++ vs') := by
  induction h with
  | nil => exact h'
  | cons h _ ih => exact .cons h ih
def fieldsK (P : Program) (f : TypeId → Option (List CK)) : Nat → List Field → Option (List CK)
  | _, [] => some []
  | o, a :: r => match f a.type with
    | some ks => if a.offset = o ∧ P.cellsOf a.type = ks.length then (fieldsK P f (o + ks.length) r).map fun ms => ks ++ ms else none
    | none => none
def kindsOf (P : Program) : Nat → TypeId → Option (List CK)
  | 0, _ => none
  | n + 1, t => match P.underlying t with
    | some .bool => some [.bool]
    | some (.int k) => some [.int k]
    | some .string => some [.str]
    | some (.struct fs) => match fieldsK P (kindsOf P n) 0 fs.toList with
      | some ks => if P.cellsOf t = ks.length then some ks else none
      | none => none
    | some (.array m e) => match kindsOf P n e with
      | some ks => if P.cellsOf e = ks.length ∧ P.cellsOf t = m * ks.length then some (List.replicate m ks).flatten else none
      | none => none
    | _ => none
variable {H : Type} {enc : TypeId × Value → H} {P : Program} {w : World} {base : Nat} {spare : Nat → Bool} {held : Bool}
theorem fields_ok {n : Nat} {f : TypeId → Option (List CK)} (hf : ∀ t ks, f t = some ks → ∀ m cs x, DataW.trod enc P w base spare held m t cs = some x → CKs ks cs) (cs : List Value) :
    ∀ (l : List Field) (o : Nat) (ks : List CK), fieldsK P f o l = some ks → (∀ a ∈ l, ∃ x, DataW.trod enc P w base spare held n a.type ((cs.drop a.offset).take (P.cellsOf a.type)) = some x) → CKs ks ((cs.drop o).take ks.length) := by
  intro l
  induction l with
  | nil => intro o ks h _; cases h; exact .nil
  | cons a r ih =>
    intro o ks h hx
    unfold fieldsK at h
    cases ha : f a.type with
    | none => rw [ha] at h; cases h
    | some k1 =>
      rw [ha] at h
      simp only at h
      split at h
      · rename_i hc
        obtain ⟨x, h1⟩ := hx a (List.mem_cons_self ..)
        rw [hc.1, hc.2] at h1
        cases hr : fieldsK P f (o + k1.length) r with
        | none => rw [hr] at h; cases h
        | some ms =>
          rw [hr] at h; cases h
          have := ih _ _ hr fun b hb => hx b (List.mem_cons_of_mem _ hb)
          have h2 := hf _ _ ha _ _ _ h1
          rw [List.length_append, List.take_add, List.drop_drop]
          exact h2.append this
      · cases h
theorem kinds_ok : ∀ (N : Nat) (t : TypeId) (ks : List CK), kindsOf P N t = some ks → ∀ m cs x, DataW.trod enc P w base spare held m t cs = some x → CKs ks cs := by
  intro N
  induction N with
  | zero => intro t ks h; cases h
  | succ N ih =>
    intro t ks h m cs x hx
    unfold kindsOf at h
    split at h
    · rename_i ht; cases h; obtain ⟨b, rfl, _⟩ := DataW.trod_bool ht hx; exact .cons ⟨b, rfl⟩ .nil
    · rename_i k ht; cases h; obtain ⟨n, rfl, _, hw⟩ := DataW.trod_int ht hx; exact .cons ⟨n, rfl, hw⟩ .nil
    · rename_i ht; cases h; obtain ⟨s, rfl, _, hs⟩ := DataW.trod_string ht hx; exact .cons ⟨s, rfl, hs⟩ .nil
    · rename_i fs ht
      obtain ⟨xs, n, _, _, hl, hxl, hfs⟩ := DataW.trod_struct ht hx
      split at h
      · rename_i k1 hk
        split at h
        · rename_i hc
          cases h
          have := fields_ok (f := kindsOf P N) (n := n) (fun t ks h => ih t ks h) cs fs.toList 0 ks hk fun a ha => by
            obtain ⟨i, hi, rfl⟩ := List.mem_iff_getElem.1 ha
            have hi' : i < fs.size := by simpa using hi
            exact ⟨xs[i]'(by omega), by rw [hfs i _ (by simp [hi'])]; simp⟩
          rwa [List.drop_zero, List.take_of_length_le (by omega)] at this
        · cases h
      · cases h
    · rename_i m e ht
      obtain ⟨xs, n, _, _, hl, hxl, hfs⟩ := DataW.trod_array ht hx
      split at h
      · rename_i k1 hk
        split at h
        · rename_i hc
          cases h
          have key : ∀ j, j ≤ m → CKs (List.replicate j k1).flatten (cs.take (j * k1.length)) := by
            intro j
            induction j with
            | zero => intro _; rw [Nat.zero_mul]; exact .nil
            | succ j ihj =>
              intro hj
              rw [List.replicate_succ', List.flatten_append, Nat.succ_mul, List.take_add]
              refine (ihj (by omega)).append ?_
              have h1 := hfs j (by omega)
              rw [List.getElem?_eq_getElem (by omega), hc.1] at h1
              simpa using ih _ _ hk _ _ _ h1
          have := key m (Nat.le_refl _)
          rwa [List.take_of_length_le (by omega)] at this
        · cases h
      · cases h
    · cases h

/-! ### The state that the arguments make -/
structure Arg (e : Env) (σ : St) (w : World) : Prop where
  w : WRel e σ w
  ro : ∀ i B, σ.heap.get i = some B → B.ro = true
  wall : σ.wall ≤ σ.next
theorem Arg.start (w : World) : Arg (fun _ => none) st0 w := ⟨wrel_start w, fun i B h => (by
  have h' : (Tr.mk 8 : Tr Blk).get i = some B := h
  rw [get_mk] at h'; cases h'), Nat.le_refl _⟩
theorem Arg.own {e : Env} {σ : St} {w : World} (h : Arg e σ w) (b : Nat) : ¬ Owned e σ b := fun ⟨i, L, B, _, _, hB, hr, _⟩ => by rw [h.ro i B hB] at hr; cases hr
/-- What an argument adds. -/
structure Adds (e : Env) (σ : St) (e' : Env) (σ' : St) : Prop where
  env : e.le e'
  next : σ.next ≤ σ'.next
  old : ∀ i, i < σ.next → σ'.heap.get i = σ.heap.get i
theorem Adds.refl (e : Env) (σ : St) : Adds e σ e σ := ⟨.refl e, Nat.le_refl _, fun _ _ => rfl⟩
theorem Adds.trans {e e1 e2 : Env} {σ σ1 σ2 : St} (h : Adds e σ e1 σ1) (k : Adds e1 σ1 e2 σ2) : Adds e σ e2 σ2 :=
  ⟨h.env.trans k.env, Nat.le_trans h.next k.next, fun i hi => by rw [k.old i (Nat.lt_of_lt_of_le hi h.next), h.old i hi]⟩
/-- A block that is only read. -/
theorem Arg.add {e : Env} {σ : St} {w : World} (h : Arg e σ w) {L : LocE} {cs : List Value} (hb : L.b < w.heap.size)
    (hc : ∀ (j : Nat) (v : Value), cs[j]? = some v → ∃ c el fz, w.heap[L.b]? = some (.cells c el fz) ∧ c[L.s + j]? = some v ∧ isFlat v = true) :
    Arg (e.add σ.next L) (newBlk σ (.cells true L.z cs)) w ∧ Adds e σ (e.add σ.next L) (newBlk σ (.cells true L.z cs)) ∧ (newBlk σ (.cells true L.z cs)).heap.get σ.next = some (.cells true L.z cs) := by
  have hg : ∀ j, (newBlk σ (.cells true L.z cs)).heap.get j = if σ.next = j then some (.cells true L.z cs) else σ.heap.get j := fun j => get_put _ _ _ _
  have hn := h.w.fresh
  have he : ∀ j M, j ≠ σ.next → e.add σ.next L j = some M → e j = some M := fun j M hj hM => by
    have : (if j = σ.next then some L else e j) = some M := hM
    rwa [if_neg hj] at this
  refine ⟨⟨⟨?_, ?_, ?_, ?_⟩, ?_, ?_⟩, ⟨Env.le_add hn L, Nat.le_succ _, fun i hi => by rw [hg, if_neg (by omega)]⟩, by rw [hg, if_pos rfl]⟩
  · intro j M hj
    by_cases hjn : j = σ.next
    · subst hjn; rw [Env.add_self] at hj; cases hj; exact ⟨Nat.lt_succ_self _, fun _ => hb⟩
    · have hj' := he j M hjn hj
      exact ⟨Nat.lt_succ_of_lt (h.w.dom j M hj').1, fun hx => (h.w.dom j M hj').2 (by rw [hg, if_neg (Ne.symm hjn)] at hx; exact hx)⟩
  · intro j M C hj hC
    rw [hg] at hC
    by_cases hjn : j = σ.next
    · subst hjn; rw [Env.add_self] at hj; cases hj; rw [if_pos rfl] at hC; cases hC
      refine .ro rfl fun j v hv => ?_
      obtain ⟨c, el, fz, h1, h2, h3⟩ := hc j v hv
      exact ⟨c, el, fz, v, h1, h2, .flat _ h3⟩
    · rw [if_neg (Ne.symm hjn)] at hC
      exact (h.w.blk j M C (he j M hjn hj) hC).mono (Env.le_add hn L)
  · intro j k M N C D hjk hj hk hC hD hr
    rw [hg] at hC
    split at hC
    · cases hC; cases hr
    · rw [h.ro _ _ hC] at hr; cases hr
  · intro j B hB
    rw [hg] at hB
    split at hB
    · rename_i hj; subst hj; exact Nat.lt_succ_self _
    · exact Nat.lt_succ_of_lt (h.w.bnd j B hB)
  · intro j B hB
    rw [hg] at hB
    split at hB
    · cases hB; rfl
    · exact h.ro _ _ hB
  · exact Nat.le_succ_of_le h.wall
/-- A name without a block. -/
theorem Arg.name {e : Env} {σ : St} {w : World} (h : Arg e σ w) (L : LocE) :
    Arg (e.add σ.next L) { σ with next := Nat.succ σ.next } w ∧ Adds e σ (e.add σ.next L) { σ with next := Nat.succ σ.next } := by
  have hn := h.w.fresh
  have he : ∀ j M, j ≠ σ.next → e.add σ.next L j = some M → e j = some M := fun j M hj hM => by
    have : (if j = σ.next then some L else e j) = some M := hM
    rwa [if_neg hj] at this
  have hnone : σ.heap.get σ.next = none := by
    cases hx : σ.heap.get σ.next with
    | none => rfl
    | some B => exact absurd (h.w.bnd _ _ hx) (Nat.lt_irrefl _)
  refine ⟨⟨⟨?_, ?_, ?_, ?_⟩, h.ro, ?_⟩, ⟨Env.le_add hn L, Nat.le_succ _, fun i hi => rfl⟩⟩
  · intro j M hj
    by_cases hjn : j = σ.next
    · subst hjn; exact ⟨Nat.lt_succ_self _, fun hx => absurd hnone hx⟩
    · exact ⟨Nat.lt_succ_of_lt (h.w.dom j M (he j M hjn hj)).1, (h.w.dom j M (he j M hjn hj)).2⟩
  · intro j M C hj hC
    by_cases hjn : j = σ.next
    · subst hjn; rw [show σ.heap.get σ.next = none from hnone] at hC; cases hC
    · exact (h.w.blk j M C (he j M hjn hj) hC).mono (Env.le_add hn L)
  · intro j k M N C D hjk hj hk hC hD hr
    rw [h.ro _ _ hC] at hr; cases hr
  · intro j B hB; exact Nat.lt_succ_of_lt (h.w.bnd j B hB)
  · exact Nat.le_succ_of_le h.wall
variable {α : Type} {sz : Nat} {E : Enc α sz}
theorem cells_spot {x : Addr} {n : Nat} {cs : List Value} (h : w.cells? base x n = some cs) (hn : 0 < n) (hl : cs.length = n) :
    x.spot = none ∧ ∃ c el fz, w.heap[x.block]? = some (.cells c el fz) ∧ ∀ i, i < n → c[x.off + i]? = cs[i]? := by
  obtain ⟨_, _, hc⟩ := World.cells?_some h
  have h0 := hc 0 hn
  rw [List.getElem?_eq_getElem (by omega)] at h0
  unfold World.cell? at h0
  have hb : ∀ i, (x.add i).block = x.block := fun i => by unfold Addr.add; split <;> rfl
  cases ho : w.heap[x.block]? with
  | none => rw [hb, ho] at h0; cases h0
  | some o =>
    cases o with
    | cells c el fz =>
      rw [hb, ho] at h0
      have hs : x.spot = none := by
        cases hs : x.spot with
        | none => rfl
        | some s => exfalso; revert h0; simp [Addr.add, hs]
      refine ⟨hs, c, el, fz, rfl, fun i hi => ?_⟩
      have h1 := hc i hi
      unfold World.cell? at h1
      rw [hb, ho] at h1
      rw [← h1]
      cases x; cases hs; rw [addr_add]; rfl
    | _ => rw [hb, ho] at h0; cases h0
theorem flatEnc (E : Enc α sz) (hE : ∀ x, allFlat (E.enc x) = true) (l : List α) : ∀ v ∈ flat E l, isFlat v = true := by
  intro v hv
  obtain ⟨x, _, hx⟩ := List.mem_flatMap.1 hv
  exact flat_mem (hE x) hx
theorem flat_get (l : List α) {k j : Nat} (hk : k < l.length) (hj : j < sz) : (flat E l)[k * sz + j]? = (E.enc l[k])[j]? := by
  induction l generalizing k with
  | nil => simp at hk
  | cons a l ih =>
    rw [flat_cons]
    cases k with
    | zero => rw [Nat.zero_mul, Nat.zero_add, List.getElem?_append_left (by rw [E.len]; exact hj)]; rfl
    | succ k =>
      rw [List.getElem?_append_right (by rw [E.len, Nat.succ_mul]; omega), E.len, show (k + 1) * sz + j - sz = k * sz + j by rw [Nat.succ_mul]; omega]
      exact ih (by simpa using hk)
/-- A slice of plain data that came in. -/
theorem Arg.slice {e : Env} {σ : St} {w : World} (h : Arg e σ w) (E : Enc α sz) (hE : ∀ x, allFlat (E.enc x) = true) {t el : TypeId} (hty : P.underlying t = some (.slice el)) (hsz : P.cellsOf el = sz)
    (Good : α → Prop) (hdec : ∀ cs n y, DataW.trod enc P w 0 (fun _ => true) held n el cs = some y → ∃ x, cs = E.enc x ∧ Good x) {fuel : Nat} {a : Option Addr} {len cap : Nat} {y : DataW H × List MemPlace}
    (hx : DataW.trod enc P w 0 (fun _ => true) held fuel t [.slice a len cap] = some y) :
    ∃ (e' : Env) (σ' : St) (a' : Option Addr) (c' : Nat) (l : List α), Arg e' σ' w ∧ Adds e σ e' σ' ∧ VRel e' (SL a' len c') (.slice a len cap) ∧ SD E σ'.next σ' a' len l ∧ len ≤ maxLen ∧ ∀ x ∈ l, Good x := by
  rcases Deep.open_slice hty hx with ⟨h1, _⟩ | ⟨x, len1, cap1, m, n, D, Pl, h1, _, hle, hmax, hm, rfl, hel⟩
  · cases h1
    exact ⟨e, σ, none, 0, [], h, .refl _ _, .snil, Sl.nil _ _ _, Nat.zero_le _, fun x hx => by cases hx⟩
  · obtain ⟨rfl, rfl, rfl⟩ : a = some x ∧ len = len1 ∧ cap = cap1 := by simpa using h1
    rw [if_pos rfl] at hm
    obtain rfl := hm.symm
    rw [hsz] at hel
    by_cases hc0 : cap = 0
    · subst hc0
      obtain rfl : len = 0 := by omega
      obtain ⟨g1, g2⟩ := h.name ⟨x.block, x.off, 0, sz⟩
      exact ⟨_, _, some ⟨σ.next, 0, none⟩, 0, [], g1, g2, .open0 0 0 x (Env.add_self ..) rfl (.inl rfl), ⟨by simp [flat], .inr ⟨_, _, rfl⟩, .inl rfl⟩, Nat.zero_le _, fun x hx => by cases hx⟩
    · have hdec' : ∀ i, i < cap → ∃ r : α, w.cells? 0 (x.add (i * sz)) sz = some (E.enc r) ∧ Good r := fun i hi => by
        obtain ⟨cs', h2, h3⟩ := hel i hi
        obtain ⟨r, hr, hg⟩ := hdec _ _ _ h3
        exact ⟨r, by rw [← hr]; exact h2, hg⟩
      have hdec2 : ∀ i : Fin len, ∃ r : α, w.cells? 0 (x.add (i * sz)) sz = some (E.enc r) ∧ Good r := fun i => hdec' i (Nat.lt_of_lt_of_le i.2 hle)
      obtain ⟨r0, hr0, _⟩ := hdec' 0 (by omega)
      obtain ⟨hs0, c, el', fz, hheap, _⟩ := cells_spot hr0 E.pos (E.len r0)
      have hxs : x.spot = none := by
        revert hs0; cases hs : x.spot with
        | none => intro _; rfl
        | some s => simp [Addr.add, hs]
      obtain ⟨b, s, sp⟩ := x
      cases hxs
      have hadd : ∀ k, (⟨b, s, none⟩ : Addr).add k = ⟨b, s + k, none⟩ := fun k => addr_add b s k
      rw [hadd] at hheap
      have hsize : b < w.heap.size := by
        rcases Nat.lt_or_ge b w.heap.size with hlt | hge
        · exact hlt
        · rw [show w.heap[(⟨b, s + 0 * sz, none⟩ : Addr).block]? = none from Array.getElem?_eq_none hge] at hheap; cases hheap
      let f : Fin len → α := fun i => Classical.choose (hdec2 i)
      have hf : ∀ i : Fin len, w.cells? 0 ((⟨b, s, none⟩ : Addr).add (i * sz)) sz = some (E.enc (f i)) ∧ Good (f i) := fun i => Classical.choose_spec (hdec2 i)
      let l := List.ofFn f
      have hll : l.length = len := List.length_ofFn
      obtain ⟨g1, g2, g3⟩ := h.add (L := ⟨b, s, 0, sz⟩) (cs := flat E l) hsize (fun j v hv => by
        have hjl : j < len * sz := by
          have := (List.getElem?_eq_some_iff.1 hv).1
          rw [flat_len, hll] at this; exact this
        have hk : j / sz < len := (Nat.div_lt_iff_lt_mul E.pos).2 hjl
        have hj : j % sz < sz := Nat.mod_lt _ E.pos
        have hsplit : j / sz * sz + j % sz = j := Nat.div_add_mod' j sz
        have hv' := hv
        rw [← hsplit, flat_get l (by rw [hll]; exact hk) hj] at hv'
        obtain ⟨_, c2, el2, fz2, hh2, hc2⟩ := cells_spot (hf ⟨j / sz, hk⟩).1 E.pos (E.len _)
        refine ⟨c2, el2, fz2, ?_, ?_, flatEnc E hE l v (List.mem_of_getElem? hv)⟩
        · rw [hadd] at hh2; exact hh2
        · have := hc2 (j % sz) hj
          rw [hadd] at this
          show c2[s + j]? = some v
          rw [show s + j = s + j / sz * sz + j % sz by omega]
          rw [show (⟨b, s + (⟨j / sz, hk⟩ : Fin len).val * sz, none⟩ : Addr).off = s + j / sz * sz from rfl] at this
          rw [this, ← hv']
          simp [l])
      refine ⟨_, _, some ⟨σ.next, 0, none⟩, cap + 1, l, g1, g2, ?_, ⟨?_, .inr ⟨_, _, rfl⟩, .inr ⟨σ.next, 0, true, sz, flat E l, rfl, Nat.lt_succ_self _, g3, ?_, ?_⟩⟩, by omega, ?_⟩
      · exact .exact (L := ⟨b, s, 0, sz⟩) 0 len cap (Env.add_self ..) hle
      · rw [flat_len, hll]
      · rw [flat_len, hll]; omega
      · rw [List.drop_zero, List.take_of_length_le (by rw [flat_len, hll]; omega)]
      · intro x hx
        obtain ⟨i, rfl⟩ := List.mem_ofFn.1 hx
        exact (hf i).2
theorem SD.adds {e e' : Env} {σ σ' : St} (k : Adds e σ e' σ') {a : Option Addr} {n : Nat} {l : List α} (h : SD E σ.next σ a n l) : SD E σ'.next σ' a n l :=
  (Sl.keep h k.old).weak k.next
/-- The call, in the model. -/
theorem Arg.call {Γ : Tab} (hΓ : TabOk P Γ) (hm : P.follows .mixedOrders = true) {k : FuncId} {args : List Value} {e : Env} {σ : St} {w : World} (h : Arg e σ w) {args' : List Value} (ha : LRel e args args')
    {v : Value} (hv : isFlat v = true) {σ' : St} (hr : run P Γ (.call k args σ) = some (.val v σ')) :
    Calls P k ⟨args'⟩ w fun en w' => en = .returned v ∧ Below w.heap.size w w' := by
  obtain ⟨v1, σ1, he, _, hc⟩ := (run_rec hΓ hm).call _ _ _ _ hr
  cases he
  refine callsIn_wide.1 (CallsIn.mono (hc e w args' h.w ha) fun en w' hR => ?_)
  obtain ⟨v', e', rfl, h1, h2, h3⟩ := hR
  exact ⟨by rw [h3.flat_eq hv], below_of h2 h.own⟩
end Go.AM
