/- Whatever the grid's width and the rays are, TopSurveySeen returns true; the arguments read as they did.
Conditions: none beyond the row's own. -/
import Derived.Test.YtfmpoodienmieaaRows
import Derived.Test.YtfmpoodienmieaaSv12
import Derived.Test.YtfmpoodienmieaaAm39
import Derived.WalkKit
import Derived.ProofKit
import Derived.OpenShut
import Derived.ShutString
import Derived.ChangeOld
import Derived.Below
import Derived.SizedLaws
namespace Go.Proofs.Ytfmpoodienmieaa.Seen
open Go Go.AM Go.AM.W Go.ChangeShapes Go.WideShapes Go.ChangeAt Go.RowKit
set_option linter.unusedVariables false
theorem own : ownKnob Try.prog.godebug = none := by kernel_rfl
theorem laidOut : laidOutB Try.prog = true := by kernel_rfl
theorem mixed : Try.prog.follows .mixedOrders = true := by kernel_rfl
theorem seenRun : (oe (runF Try.prog noΓ 10000 (.call 4 [] st0)) false fun r => match r with | .val v _ => oe (vBool v) false fun b => b | _ => false) = true := by kernel_rfl
theorem seenOk (σ : St) : CallOk Try.prog 4 [] σ (BL true) σ := by
  have h := seenRun
  cases hr : runF Try.prog noΓ 10000 (.call 4 [] st0) with
  | none => rw [hr] at h; cases h
  | some r =>
    rw [hr] at h
    cases r with
    | val v σ1 =>
      have h' : (oe (vBool v) false fun b => b) = true := h
      cases hv : vBool v with
      | none => rw [hv] at h'; cases h'
      | some b =>
        rw [hv] at h'
        cases (show b = true from h')
        rw [vBool_eq hv] at hr
        exact closed_ok (run_sound (fun _ _ _ _ h => by cases h) mixed 10000) hr rfl σ
    | _ => cases h
theorem tab : TabOk Try.prog Γ := by
  intro k args σ r h
  have h' : bc (Nat.beq k 4) (le args (some (BL true, σ)) fun _ _ => none) none = some r := h
  rw [bc_none] at h'
  obtain ⟨h1, h2⟩ := h'
  cases Nat.eq_of_beq_eq_true h1
  cases args with
  | nil => cases h2; exact seenOk σ
  | cons a l => cases h2
theorem kinds : kindsOf Try.prog 4 32 = some [.int .i64, .int .i64, .int .i64, .int .i64, .bool] := by kernel_rfl
theorem dec {cs : List Value} (h : CKs [.int .i64, .int .i64, .int .i64, .int .i64, .bool] cs) : ∃ r : Ray, cs = eRay.enc r ∧ True := by
  cases h with | cons h1 h => cases h with | cons h2 h => cases h with | cons h3 h => cases h with | cons h4 h => cases h with | cons h5 h => cases h with | nil =>
    obtain ⟨a, rfl, _⟩ := h1
    obtain ⟨b, rfl, _⟩ := h2
    obtain ⟨c, rfl, _⟩ := h3
    obtain ⟨d, rfl, _⟩ := h4
    obtain ⟨e, rfl⟩ := h5
    exact ⟨⟨a, b, c, d, e⟩, rfl, trivial⟩
set_option maxRecDepth 100000 in
theorem lifted (os : Os) (started : os.Started) (H : Type) (enc : TypeId × Value → H) :
    ReturnsInHanded {} Try.checked os 3 .any (Rows.topSurveySeenSpec.pre6 enc Try.prog Try.f3 Rows.topSurveySeenRow.domain false) (Rows.topSurveySeenSpec.post enc Try.prog Try.f3 false true false false) := by
  refine returnsInHanded_of_change_sized (C := Try.checked) own started (by kernel_rfl) Try.func3
    (ChangeSpec.witness6 (enc := enc) (C := Try.checked) false ⟨#[], #[.int .i64 0, .slice none 0 0], []⟩ 8 (by kernel_rfl) (by kernel_rfl) (by kernel_rfl) (by kernel_rfl)) ?_
  intro W base args ds gs before hval0 hW hcnd hsz0 _
  have hval : ∀ (j : Nat) t v, Try.f3.params[j]? = some t → args[j]? = some v → Value.okWide Try.prog W .any base t v := hval0
  have hW' := hW
  obtain ⟨p, q, hA0, hV, rfl, hfz, hnd⟩ := hW
  have hA : DataW.TrodAll enc Try.prog W 0 (fun _ => true) true Try.f3.params.toList args.toList ds p := hA0
  rw [Try.params3] at hA hval
  obtain ⟨v0, vs0, d0, ds0, p0, q0, hargs, rfl, rfl, h0, r0⟩ := trodAll_cons hA
  obtain ⟨v1, vs1, d1, ds1, p1, q1, rfl, rfl, rfl, h1, r1⟩ := trodAll_cons r0
  obtain ⟨rfl, rfl, rfl⟩ := trodAll_nil r1
  obtain rfl : args = #[v0, v1] := by cases args; simp_all
  obtain ⟨rfl, rfl⟩ := trodVars_none hV
  obtain ⟨a0, rfl, rfl, rfl, w0⟩ := open_int (show Try.prog.underlying 3 = some (.int .i64) by kernel_rfl) (hval 0 3 v0 rfl rfl) h0
  obtain ⟨a1, len1, cap1, rfl⟩ := okWide_slice (show Try.prog.underlying 22 = some (.slice 32) by kernel_rfl) (hval 1 22 v1 rfl rfl)
  have k1 := h1
  have lt1 : ∀ x ∈ p1, x.block < W.heap.size := by obtain ⟨m, hm⟩ := k1; exact DataW.trod_lt m _ _ _ hm
  obtain ⟨fuel, hf⟩ := h1
  obtain ⟨e', σ', a', c', l, hArg, _, hv, hsd, _⟩ := (Arg.start W).slice eRay (fun _ => rfl) (show Try.prog.underlying 22 = some (.slice 32) by kernel_rfl) (show Try.prog.cellsOf 32 = 5 by kernel_rfl) (fun _ => True)
    (fun cs n y hy => dec (kinds_ok 4 32 _ kinds n cs y hy)) hf
  obtain ⟨r, hr, hq⟩ := w_TopSurveySeen σ' hArg.wall a0 a' len1 c' l hsd
  cases (show r = _ from hq)
  have walk := hArg.call tab mixed (args' := [.int .i64 a0, .slice a1 len1 cap1]) (.cons (.int _ _) (.cons hv .nil)) rfl hr
  refine walk.mono fun e W' ⟨he, bel⟩ => ?_
  subst he
  exact ⟨_, rfl, _, _, _, [], _, [], hW', trodAll_mk1 (shut_bool (show Try.prog.underlying 4 = some .bool by kernel_rfl) _), (trodAll_cons_mk (shut_int (show Try.prog.underlying 3 = some (.int .i64) by kernel_rfl) w0) (trodAll_cons_mk (Below.trod laidOut (by kernel_rfl) (of_decide_eq_true (by kernel_rfl)) k1 bel lt1) trodAll_mk0)), rfl, bel.frame _, fun h => by cases h⟩
theorem over : Rows.topSurveySeenRow.holds Try.pinned (OpenSpec.ofChange Rows.topSurveySeenSpec) :=
  OpenClaim.holds_of_wide 3 Try.f3 rfl rfl rfl rfl rfl rfl rfl ⟨rfl, rfl, rfl, rfl, rfl⟩ rfl rfl rfl rfl rfl (by kernel_rfl) Try.func3 (by kernel_rfl)
    (of_decide_eq_true (by kernel_rfl)) (by unfold Func.isWrapper; first | (rw [if_pos (by decide +kernel)]; kernel_rfl) | (rw [if_neg (by decide +kernel)]; exact ⟨rfl, rfl⟩))
    (fun os started H enc _ => lifted os started H enc)
end Go.Proofs.Ytfmpoodienmieaa.Seen
namespace Go.Proofs.Ytfmpoodienmieaa
/-- The row, under a short name, for the claim. -/
theorem topSurveySeen_holds : Rows.TopSurveySeenSaid := Seen.over
#print axioms topSurveySeen_holds
end Go.Proofs.Ytfmpoodienmieaa
