/- The abstract machine: rules for going through a region. -/
import Derived.Test.YtfmpoodienmieaaAm33
namespace Go.AM
variable {P : Program} {rec : Rec} {kept : Kept}
theorem ops_cons {ops : List Oper} {k : Cont} {o : Oper} {rest : List Oper} {l : Loc} {t : Tr Value} {σ : St} : opsK P rec kept ops k (o :: rest) l t σ = oneK P rec kept ops o (opsK P rec kept ops k rest) l t σ := rfl
theorem one_go {ops : List Oper} {k : Cont} {o : Oper} {l : Loc} {t : Tr Value} {σ σ1 : St} {v : Value} (hw : wantedA ops o l t = some true) (hs : stepA P rec o (rho l t) σ = some (v, σ1)) :
    oneK P rec kept ops o k l t σ = putK kept o.dst v l t σ1 k := by
  unfold oneK
  rw [hw]
  show ob (stepA P rec o (rho l t) σ) (fun r => putK kept o.dst r.1 l t r.2 k) = _
  rw [hs]; rfl
theorem one_not {ops : List Oper} {k : Cont} {o : Oper} {l : Loc} {t : Tr Value} {σ : St} (hw : wantedA ops o l t = some false) : oneK P rec kept ops o k l t σ = putK kept o.dst undef l t σ k := by
  unfold oneK
  rw [hw]; rfl
theorem want_by {ops : List Oper} {o : Oper} {l : Loc} {t : Tr Value} {p q : Bool} (h : wantedA ops o l t = some q) (hq : q = p) : wantedA ops o l t = some p := by rw [h, hq]
theorem step_call {o : Oper} {l : Loc} {t : Tr Value} {σ σ1 : St} {c : Operand × List Operand} {k : FuncId} {a b args : List Value} {v : Value} (hc : calleeOf o.op = some c) (hf : rho l t c.1 = .func (.func k) ⟨a⟩ ⟨b⟩) (ha : a ++ c.2.map (rho l t) ++ b = args)
    (hr : rec (.call k args σ) = some (.val v σ1)) : stepA P rec o (rho l t) σ = some (v, σ1) := by
  unfold stepA
  rw [hc]
  show callA rec (rho l t) σ c = _
  unfold callA
  rw [hf]
  show ob (fnReq (.func k) (a ++ c.2.map (rho l t)) b σ) (fun q => ob (rec q) rVal) = _
  show ob (rec (.call k (a ++ c.2.map (rho l t) ++ b) σ)) rVal = _
  rw [ha, hr]; rfl
end Go.AM
