/- The abstract machine: regions that draw their order: the first part. -/
import Derived.Test.YtfmpoodienmieaaAm24
namespace Go.AM
variable {P : Program}
def cut (e : Env) (c : Nat) : Env := fun i => if i < c then e i else none
theorem cut_some {e : Env} {c i : Nat} {L : LocE} : cut e c i = some L ↔ i < c ∧ e i = some L := by
  unfold cut; split <;> simp [*]
theorem cut_le (e : Env) {c c' : Nat} (h : c ≤ c') : (cut e c).le (cut e c') := fun i L hi => by
  rw [cut_some] at hi ⊢; exact ⟨by omega, hi.2⟩
theorem cut_self (e : Env) (c : Nat) : (cut e c).le e := fun _ _ hi => (cut_some.1 hi).2
theorem cut_top {e : Env} {c : Nat} (h : ∀ x, c ≤ x → e x = none) : cut e c = e := by
  funext i; unfold cut; split
  · rfl
  · rw [h i (by omega)]
theorem WRel.grown {e : Env} {σ : St} {w w' : World} (h : WRel e σ w) (hs : w.heap.size ≤ w'.heap.size) (hk : ∀ k, k < w.heap.size → w'.heap[k]? = w.heap[k]?) : WRel e σ w' :=
  ⟨fun i L hi => ⟨(h.dom i L hi).1, fun hn => Nat.lt_of_lt_of_le ((h.dom i L hi).2 hn) hs⟩, fun i L B hi hB => by rw [hk _ ((h.dom i L hi).2 (by simp [hB]))]; exact h.blk i L B hi hB, h.sep, h.bnd⟩
theorem WRel.none_top {e : Env} {σ : St} {w : World} (h : WRel e σ w) {x : Nat} (hx : σ.next ≤ x) : e x = none := by
  cases he : e x with
  | none => rfl
  | some L => have := (h.dom x L he).1; omega
/-- An environment with a piece put in. -/
def patch (e e' : Env) (lo hi : Nat) : Env := fun x => if lo ≤ x ∧ x < hi then e' x else e x
theorem ext_sound {e e' : Env} {lo : Nat} {σ1 κ : St} {w w' : World} (h1 : WRel e' σ1 w') (hL : Later σ1 κ) (hκ : WRel (cut e κ.next) κ w) (hc : cut (patch e e' lo σ1.next) σ1.next = e') (hle : e.le (patch e e' lo σ1.next))
    (hsize : w.heap.size ≤ w'.heap.size) (hsame : ∀ k, k < w.heap.size → w'.heap[k]? = w.heap[k]?) (hnew : ∀ i L, lo ≤ i → i < σ1.next → e' i = some L → w.heap.size ≤ L.b) : WRel (cut (patch e e' lo σ1.next) κ.next) κ w' := by
  have hcase : ∀ i L, cut (patch e e' lo σ1.next) κ.next i = some L → (lo ≤ i ∧ i < σ1.next ∧ e' i = some L) ∨ cut e κ.next i = some L := fun i L hi => by
    rw [cut_some] at hi
    obtain ⟨h2, h3⟩ := hi
    unfold patch at h3
    split at h3
    · rename_i hr; exact .inl ⟨hr.1, hr.2, h3⟩
    · exact .inr (cut_some.2 ⟨h2, h3⟩)
  have hmono : (cut e κ.next).le (cut (patch e e' lo σ1.next) κ.next) := fun i L hi => by
    rw [cut_some] at hi ⊢; exact ⟨hi.1, hle _ _ hi.2⟩
  have hmono1 : e'.le (cut (patch e e' lo σ1.next) κ.next) := by
    have := cut_le (patch e e' lo σ1.next) hL.1
    rwa [hc] at this
  have heap : ∀ i, i < σ1.next → κ.heap.get i = σ1.heap.get i := hL.2
  refine ⟨fun i L hi => ⟨(cut_some.1 hi).1, fun hn => ?_⟩, fun i L B hi hB => ?_, fun i j L M B C hij hi hj hB hC hr => ?_, hκ.bnd⟩
  · rcases hcase i L hi with ⟨_, h3, h4⟩ | h3
    · exact (h1.dom i L h4).2 (by rw [← heap i h3]; exact hn)
    · exact Nat.lt_of_lt_of_le ((hκ.dom i L h3).2 hn) hsize
  · rcases hcase i L hi with ⟨_, h3, h4⟩ | h3
    · exact (h1.blk i L B h4 (by rw [← heap i h3]; exact hB)).mono hmono1
    · rw [hsame _ ((hκ.dom i L h3).2 (by simp [hB]))]
      exact (hκ.blk i L B h3 hB).mono hmono
  · rcases hcase i L hi with ⟨h2, h3, h4⟩ | h3 <;> rcases hcase j M hj with ⟨k2, k3, k4⟩ | k3
    · exact h1.sep i j L M B C hij h4 k4 (by rw [← heap i h3]; exact hB) (by rw [← heap j k3]; exact hC) hr
    · have := hnew i L h2 h3 h4
      have := (hκ.dom j M k3).2 (by simp [hC])
      omega
    · have := hnew j M k2 k3 k4
      have := (hκ.dom i L h3).2 (by simp [hB])
      omega
    · exact hκ.sep i j L M B C hij h3 k3 hB hC hr
section
variable {rec : Rec} {kept : Kept} {ops : List Oper} {ce : List Ev} {te : List (Ev × List Oper)} {t0 : Tr Value} {lf : Loc} {tf : Tr Value} {σ0 σm σf : St}
def G1 (ce : List Ev) (e : Env) (b : Ev) (v : Value) : Prop := VRel e b.v v ∧ (b ∈ ce → VRel (cut e b.σ'.next) b.v v)
structure J1 (ops : List Oper) (ce : List Ev) (te : List (Ev × List Oper)) (t0 : Tr Value) (σ0 σm : St) (e0 : Env) (w0 : World) (S : Nat → Prop) (e : Env) (a : Act) (w : World) : Prop where
  slots : SlotInv (ce ++ te.map (·.1)) S e0 t0 (G1 ce e) a.tmps
  mem : ∀ b ∈ ce, WRel (cut e b.σ.next) b.σ w
  top : WRel e σm w
  un : ∀ b ∈ ce, ¬ S b.i → ∀ x, b.σ.next ≤ x → x < b.σ'.next → e x = none
  loud : ∀ p ∈ te, kd ops p.1.i ≠ 0 → ¬ S p.1.i
  env : e0.le e
  old : ∀ i, i < σ0.next → e i = e0 i
  size : w0.heap.size ≤ w.heap.size
  os : w.os = w0.os
  tape : w.tape = w0.tape
  output : w.output = w0.output
  same : ∀ k, k < w0.heap.size → w.heap[k]? = w0.heap[k]?
  fresh : ∀ i L, e i = some L → e0 i = some L ∨ w0.heap.size ≤ L.b
theorem J1.calm (hrec : RecOk P rec) (R : Reg P rec kept ops ce te t0 lf tf σ0 σm σf) {ops' : Array Oper} (ho : ops'.toList = ops) {e0 : Env} {w0 : World} (hW0 : WRel e0 σ0 w0) {S S' : Nat → Prop} {e : Env} {a : Act} {w : World}
    (J : J1 ops ce te t0 σ0 σm e0 w0 S e a w) (hS : ClosedS ops S) {b : Ev} (hb : b ∈ ce) (hbS : ¬ S b.i) (hp : ∀ j, Pr ops b.i j → S j) (hS' : ∀ i, S' i ↔ S i ∨ i = b.i) (hfit : fitsDst b.o.dst a.tmps.size) {r : Option Nat} {K : Act → World → Prop} {Q : Exit → Act → World → Prop}
    (hK : ∀ e' a' w', J1 ops ce te t0 σ0 σm e0 w0 S' e' a' w' → a'.tmps.size = a.tmps.size → a'.defers = a.defers → K a' w') : wpOpIn (FR r) 0 P ops' Q b.i K a w := by
  obtain ⟨pre, post, hce⟩ := List.append_of_mem hb
  have hall : ce ++ te.map (·.1) = pre ++ b :: (post ++ te.map (·.1)) := by rw [hce]; simp
  have hmb : b ∈ ce ++ te.map (·.1) := List.mem_append_left _ hb
  obtain ⟨m1, m2, m3, m4⟩ := R.mem b hb
  have hpre : ∀ c ∈ pre, c ∈ ce ∧ Later c.σ' b.σ := fun c hc => by
    have h := R.memP
    rw [hce] at h
    exact ⟨by rw [hce]; simp [hc], (List.pairwise_append.1 h).2.2 c hc b (List.mem_cons_self ..)⟩
  have he0 : e0.le (cut e b.σ.next) := fun i L hi => by
    have := (hW0.dom i L hi).1
    exact cut_some.2 ⟨Nat.lt_of_lt_of_le this m1.1, J.env _ _ hi⟩
  have hrel : ∀ s, names ops b.o s → VRel (cut e b.σ.next) (slot s b.l b.t) (a.tmps.getD s undef) := fun s hs => by
    rcases R.slot_at hall hS hbS hp hs with ⟨c, hc, hSc, hd, heq⟩ | ⟨hno, heq⟩
    · obtain ⟨hc1, hc2⟩ := hpre c hc
      rw [heq]
      exact (((J.slots s).1 c (List.mem_append_left _ hc1) hSc hd).2 hc1).mono (cut_le e hc2.1)
    · rw [heq]
      exact ((J.slots s).2 hno).mono he0
  obtain ⟨q, hq, hstep⟩ := R.did b hmb
  refine run_op hrec ho (R.opr b hmb) (J.mem b hb) hrel hq hstep fun e' v' w' hW' hG hv => ?_
  have nown : ∀ k, ¬ Owned (cut e b.σ.next) b.σ k := by
    rintro k ⟨i, L, B, hwall, hi, _⟩
    have := (cut_some.1 hi).1
    omega
  have hsame : ∀ k, k < w.heap.size → w'.heap[k]? = w.heap[k]? := fun k hk => hG.frame k hk (nown k)
  have hnewb : ∀ i L, e' i = some L → cut e b.σ.next i = some L ∨ w.heap.size ≤ L.b := fun i L hi => by
    rcases hG.fresh i L hi with h | h | h
    · exact .inl h
    · exact .inr h
    · exact absurd h (nown _)
  have hlow : ∀ x, x < b.σ.next → e' x = e x := fun x hx => by
    rw [hG.old x hx]; unfold cut; rw [if_pos hx]
  have hc : cut (patch e e' b.σ.next b.σ'.next) b.σ'.next = e' := by
    funext x
    unfold cut patch
    by_cases h1 : x < b.σ'.next
    · rw [if_pos h1]
      by_cases h2 : b.σ.next ≤ x
      · rw [if_pos ⟨h2, h1⟩]
      · rw [if_neg (fun h => h2 h.1)]; exact (hlow x (by omega)).symm
    · rw [if_neg h1]; exact (hW'.none_top (by omega)).symm
  have hle : e.le (patch e e' b.σ.next b.σ'.next) := fun x L hx => by
    unfold patch
    split
    · rename_i hr; rw [J.un b hb hbS x hr.1 hr.2] at hx; cases hx
    · exact hx
  have hnew : ∀ i L, b.σ.next ≤ i → i < b.σ'.next → e' i = some L → w.heap.size ≤ L.b := fun i L h1 h2 h3 => by
    rcases hnewb i L h3 with h | h
    · have := (cut_some.1 h).1; omega
    · exact h
  have hext : ∀ κ, Later b.σ' κ → WRel (cut e κ.next) κ w → WRel (cut (patch e e' b.σ.next b.σ'.next) κ.next) κ w' := fun κ hL hκ => ext_sound hW' hL hκ hc hle hG.size hsame hnew
  have hbefore : ∀ c, c ≤ b.σ.next → cut (patch e e' b.σ.next b.σ'.next) c = cut e c := fun c hcc => by
    funext x
    unfold cut patch
    by_cases h1 : x < c
    · rw [if_pos h1, if_pos h1, if_neg (by omega)]
    · rw [if_neg h1, if_neg h1]
  have htop : cut (patch e e' b.σ.next b.σ'.next) σm.next = patch e e' b.σ.next b.σ'.next := cut_top fun x hx => by
    unfold patch
    have := m3.1
    rw [if_neg (by omega)]
    exact J.top.none_top hx
  refine hK (patch e e' b.σ.next b.σ'.next) _ w' ⟨?_, fun c hcm => ?_, ?_, fun c hcm hcS x hx1 hx2 => ?_, fun p hpm hk hSp => ?_, fun i L hi => hle _ _ (J.env _ _ hi), fun i hi => ?_, Nat.le_trans J.size hG.size, hG.os.trans J.os, hG.tape.trans J.tape, hG.output.trans J.output,
    fun k hk => (hsame k (Nat.lt_of_lt_of_le hk J.size)).trans (J.same k hk), fun i L hi => ?_⟩ (put_tmps_size _ _ _) (put_defers _ _ _)
  · have hcm : ∀ c, (cut e c).le (cut (patch e e' b.σ.next b.σ'.next) c) := fun c i L hi => by
      rw [cut_some] at hi ⊢; exact ⟨hi.1, hle _ _ hi.2⟩
    have hv1 : VRel (patch e e' b.σ.next b.σ'.next) b.v v' := by
      have h0 : VRel (cut (patch e e' b.σ.next b.σ'.next) b.σ'.next) b.v v' := by rw [hc]; exact hv
      exact h0.mono (cut_self _ _)
    exact R.slot_put (J.slots.mono fun c _ _ v hvc => ⟨hvc.1.mono hle, fun hcc => (hvc.2 hcc).mono (hcm _)⟩) hmb hS' ⟨hv1, fun _ => by rw [hc]; exact hv⟩ hfit
  · rcases pairwise_cases R.memP hcm hb with h | h | h
    · subst h; rw [hbefore _ (Nat.le_refl _)]; exact (J.mem c hcm).grown hG.size hsame
    · have : c.σ.next ≤ b.σ.next := Nat.le_trans (R.mem c hcm).2.1.1 h.1
      rw [hbefore _ this]; exact (J.mem c hcm).grown hG.size hsame
    · exact hext _ h (J.mem c hcm)
  · have h1 : WRel (cut e σm.next) σm w := by rw [cut_top fun x hx => J.top.none_top hx]; exact J.top
    have := hext σm m3 h1
    rwa [htop] at this
  · have hcS0 : ¬ S c.i := fun h => hcS ((hS' _).2 (.inl h))
    have hne : c ≠ b := fun h => hcS ((hS' _).2 (.inr (by rw [h])))
    unfold patch
    rw [if_neg ?_]
    · exact J.un c hcm hcS0 x hx1 hx2
    · rintro ⟨h1, h2⟩
      rcases pairwise_cases R.memP hcm hb with h | h | h
      · exact hne h
      · have := h.1; omega
      · have := h.1; omega
  · rcases (hS' _).1 hSp with h | h
    · exact J.loud p hpm hk h
    · have h1 : p.1.i ∈ te.map (·.1.i) := List.mem_map.2 ⟨p, hpm, rfl⟩
      exact R.plan.one _ (List.mem_map.2 ⟨b, hb, rfl⟩) (h ▸ h1)
  · unfold patch
    have := m1.1
    rw [if_neg (by omega)]
    exact J.old i hi
  · unfold patch at hi
    split at hi
    · rename_i hr
      exact .inr (Nat.le_trans J.size (hnew i L hr.1 hr.2 hi))
    · exact J.fresh i L hi
end
end Go.AM
