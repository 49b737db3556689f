/- The abstract machine: rules for going through code. -/
import Derived.Test.YtfmpoodienmieaaAm32
namespace Go.AM
variable {P : Program} {rec : Rec} {kept : Kept} {fr fr1 : Fr}
theorem ex_seq {a b : Code} (h : execA P rec a kept fr = some (.normal, fr1)) : execA P rec (.seq a b) kept fr = execA P rec b kept fr1 := by
  show ob (execA P rec a kept fr) (fun r => exThen (execA P rec b) kept r.1 r.2) = _
  rw [h]; rfl
theorem ex_seq_exit {a b : Code} {id : Nat} (h : execA P rec a kept fr = some (.exit id, fr1)) : execA P rec (.seq a b) kept fr = some (.exit id, fr1) := by
  show ob (execA P rec a kept fr) (fun r => exThen (execA P rec b) kept r.1 r.2) = _
  rw [h]; rfl
theorem ex_seq_ret {a b : Code} (h : execA P rec a kept fr = some (.ret, fr1)) : execA P rec (.seq a b) kept fr = some (.ret, fr1) := by
  show ob (execA P rec a kept fr) (fun r => exThen (execA P rec b) kept r.1 r.2) = _
  rw [h]; rfl
theorem ex_true {c : Operand} {a b : Code} {q : Bool} (hc : rho [] fr.t c = .bool q) (hq : q = true) : execA P rec (.cond c a b) kept fr = execA P rec a kept fr := by
  show ob (vBool (rho [] fr.t c)) (fun q => bc q (execA P rec a kept fr) (execA P rec b kept fr)) = _
  rw [hc, hq]; rfl
theorem ex_false {c : Operand} {a b : Code} {q : Bool} (hc : rho [] fr.t c = .bool q) (hq : q = false) : execA P rec (.cond c a b) kept fr = execA P rec b kept fr := by
  show ob (vBool (rho [] fr.t c)) (fun q => bc q (execA P rec a kept fr) (execA P rec b kept fr)) = _
  rw [hc, hq]; rfl
theorem ex_block {id : Nat} {c : Code} (h : execA P rec c kept fr = some (.normal, fr1)) : execA P rec (.block id c) kept fr = some (.normal, fr1) := by
  show ob (execA P rec c kept fr) (fun r => exBlock id r.1 r.2) = _
  rw [h]; rfl
theorem ex_block_out {id : Nat} {c : Code} (h : execA P rec c kept fr = some (.exit id, fr1)) : execA P rec (.block id c) kept fr = some (.normal, fr1) := by
  show ob (execA P rec c kept fr) (fun r => exBlock id r.1 r.2) = _
  rw [h]
  show bc (Nat.beq id id) (some (Exit.normal, fr1)) (some (Exit.exit id, fr1)) = _
  rw [bc_eq, if_pos (by simp)]
theorem ex_block_exit {id j : Nat} {c : Code} (h : execA P rec c kept fr = some (.exit j, fr1)) (hj : j ≠ id) : execA P rec (.block id c) kept fr = some (.exit j, fr1) := by
  show ob (execA P rec c kept fr) (fun r => exBlock id r.1 r.2) = _
  rw [h]
  show bc (Nat.beq j id) (some (Exit.normal, fr1)) (some (Exit.exit j, fr1)) = _
  rw [bc_eq, if_neg (by simpa using hj)]
theorem ex_block_ret {id : Nat} {c : Code} (h : execA P rec c kept fr = some (.ret, fr1)) : execA P rec (.block id c) kept fr = some (.ret, fr1) := by
  show ob (execA P rec c kept fr) (fun r => exBlock id r.1 r.2) = _
  rw [h]; rfl
theorem ex_region {id : Nat} {ops : Array Oper} {t : Tr Value} {σ : St} (h : opsK P rec kept ops.toList endK ops.toList [] fr.t fr.σ = some (t, σ)) : execA P rec (.region id ops false) kept fr = some (.normal, { fr with t := t, σ := σ }) := by
  show om (opsK P rec kept ops.toList endK ops.toList [] fr.t fr.σ) (fun r => (Exit.normal, { fr with t := r.1, σ := r.2 })) = _
  rw [h]; rfl
theorem ex_draw {id : Nat} {ops : Array Oper} {t : Tr Value} {σ : St} (h : drawK P rec kept ops.toList fr.t fr.σ = some (t, σ)) : execA P rec (.region id ops true) kept fr = some (.normal, { fr with t := t, σ := σ }) := by
  show om (drawK P rec kept ops.toList fr.t fr.σ) (fun r => (Exit.normal, { fr with t := r.1, σ := r.2 })) = _
  rw [h]; rfl
/-- A loop, one round at a time. -/
theorem run_loop {Γ : Tab} {c : Code} (h : execA P (run P Γ) c kept fr = some (.normal, fr1)) : run P Γ (.loop c kept fr) = run P Γ (.loop c kept fr1) := by
  rw [run_step]
  show doLoop P (run P Γ) c kept fr = _
  unfold doLoop
  rw [h]; rfl
theorem run_loop_exit {Γ : Tab} {c : Code} {id : Nat} (h : execA P (run P Γ) c kept fr = some (.exit id, fr1)) : run P Γ (.loop c kept fr) = some (.ex (.exit id) fr1) := by
  rw [run_step]
  show doLoop P (run P Γ) c kept fr = _
  unfold doLoop
  rw [h]; rfl
theorem run_loop_ret {Γ : Tab} {c : Code} (h : execA P (run P Γ) c kept fr = some (.ret, fr1)) : run P Γ (.loop c kept fr) = some (.ex .ret fr1) := by
  rw [run_step]
  show doLoop P (run P Γ) c kept fr = _
  unfold doLoop
  rw [h]; rfl
theorem ex_loop {c : Code} {ex : Exit} (h : rec (.loop c kept fr) = some (.ex ex fr1)) : execA P rec (.loop c) kept fr = some (ex, fr1) := by
  show ob (rec (.loop c kept fr)) rEx = _
  rw [h]; rfl
end Go.AM
