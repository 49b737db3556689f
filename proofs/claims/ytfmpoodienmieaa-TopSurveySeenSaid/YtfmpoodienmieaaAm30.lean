/- The abstract machine: closed calls; calls of known outcome. -/
import Derived.Test.YtfmpoodienmieaaAm29
namespace Go.AM
open Go.RowKit
variable {P : Program}
theorem wrel_start (w : World) : WRel (fun _ => none) st0 w :=
  ⟨fun _ _ h => (by cases h), fun _ _ _ h => (by cases h), fun _ _ _ _ _ _ _ h => (by cases h), fun i B h => by
    have : (Tr.mk 8 : Tr Blk).get i = some B := h
    rw [get_mk] at this; cases this⟩
theorem below_of {e e' : Env} {σ σ' : St} {w w' : World} (h : Grow e σ w e' σ' w') (hno : ∀ b, ¬ Owned e σ b) : Below w.heap.size w w' :=
  ⟨h.os, h.tape, h.output, h.size, fun k hk => h.frame k hk (hno k)⟩
theorem closed_calls {rec : Rec} (hrec : RecOk P rec) {k : FuncId} {v : Value} {σ' : St} (h : rec (.call k [] st0) = some (.val v σ')) (hv : isFlat v = true) (w : World) :
    Calls P k #[] w fun en w' => en = .returned v ∧ Below w.heap.size w w' := by
  obtain ⟨v1, σ1, he, _, hc⟩ := hrec.call _ _ _ _ h
  cases he
  have := hc (fun _ => none) w [] (wrel_start w) .nil
  refine callsIn_wide.1 (CallsIn.mono this fun en w' hR => ?_)
  obtain ⟨v', e', rfl, h1, h2, h3⟩ := hR
  exact ⟨by rw [h3.flat_eq hv], below_of h2 (by rintro b ⟨i, L, B, _, hi, _⟩; cases hi)⟩
end Go.AM
