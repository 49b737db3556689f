/- The abstract machine: code. -/
import Derived.Test.YtfmpoodienmieaaAm13
import Derived.RangeFuncNested
namespace Go.AM
variable {P : Program}
/-- Regions that draw their order. -/
def DrawOk (P : Program) (rec : Rec) : Prop := ∀ (kept : Kept) (id : Nat) (ops' : Array Oper) (e : Env) (fr : Fr) (F : Fence) (a : Act) (w : World) (res : Tr Value × St), FrOk kept e fr F a w → opsFit a.tmps.size ops'.toList = true →
  drawK P rec kept ops'.toList fr.t fr.σ = some res → (Code.region id ops' true).wpIn F 0 P (ExOk kept e fr F a w .normal { fr with t := res.1, σ := res.2 }) a w
theorem ExOk.trans {kept : Kept} {e e1 : Env} {fr fr1 fr' : Fr} {F : Fence} {a a1 : Act} {w w1 : World} {ex : Exit} (hr : fr1.rnd = fr.rnd) (hs : a1.tmps.size = a.tmps.size) (hg : Grow e fr.σ w e1 fr1.σ w1) {x : Exit} {a' : Act} {w' : World}
    (h : ExOk kept e1 fr1 F a1 w1 ex fr' x a' w') : ExOk kept e fr F a w ex fr' x a' w' := by
  obtain ⟨h1, h2, h3, e', h4, h5⟩ := h
  exact ⟨h1, h2.trans hr, h3.trans hs, e', h4, hg.trans h5⟩
theorem ExOk.refl {kept : Kept} {e : Env} {fr : Fr} {F : Fence} {a : Act} {w : World} (h : FrOk kept e fr F a w) (ex : Exit) : ExOk kept e fr F a w ex fr ex a w := ⟨rfl, rfl, rfl, e, h, .refl _ _ _⟩
def RangeOk (P : Program) (rec : Rec) : Prop := ∀ (f : Operand) (ps : Array Tmp) (assign body : Code) (ea eb : Ex) (kept : Kept) (e : Env) (fr fr' : Fr) (F : Fence) (a : Act) (w : World) (ex : Exit), FrOk kept e fr F a w → codeFits a.tmps.size (.rangeFunc f ps assign body) = true →
  exRange rec f ps assign body ea eb kept fr = some (ex, fr') → (Code.rangeFunc f ps assign body).wpIn F 0 P (ExOk kept e fr F a w ex fr') a w
theorem exec_sound {rec : Rec} (hrec : RecOk P rec) (hdraw : DrawOk P rec) (hrange : RangeOk P rec) (kept : Kept) (c : Code) : ∀ (e : Env) (fr fr' : Fr) (F : Fence) (a : Act) (w : World) (ex : Exit), FrOk kept e fr F a w → codeFits a.tmps.size c = true →
    execA P rec c kept fr = some (ex, fr') → c.wpIn F 0 P (ExOk kept e fr F a w ex fr') a w := by
  induction c with
  | skip =>
    intro e fr fr' F a w ex hF hf h
    replace h : some (Exit.normal, fr) = some (ex, fr') := h
    cases h
    exact wpIn_skip (.refl hF _)
  | region id ops draw =>
    intro e fr fr' F a w ex hF hf h
    replace h : om (bc draw (drawK P rec kept ops.toList fr.t fr.σ) (opsK P rec kept ops.toList endK ops.toList [] fr.t fr.σ)) (fun r => (Exit.normal, { fr with t := r.1, σ := r.2 })) = some (ex, fr') := h
    rw [om_eq] at h; obtain ⟨res, hres, h⟩ := h
    cases h
    cases draw with
    | false => exact region_sound hrec hF hf hres
    | true => exact hdraw kept id ops e fr F a w res hF hf hres
  | seq x y ihx ihy =>
    intro e fr fr' F a w ex hF hf h
    have hf2 : codeFits a.tmps.size x = true ∧ codeFits a.tmps.size y = true := by simpa [codeFits] using hf
    replace h : ob (execA P rec x kept fr) (fun r => exThen (execA P rec y) kept r.1 r.2) = some (ex, fr') := h
    rw [ob_eq] at h; obtain ⟨⟨ex1, fr1⟩, h1, h⟩ := h
    refine wpIn_seq (wpIn_mono (ihx e fr fr1 F a w ex1 hF hf2.1 h1) fun x' a' w' hx => ?_)
    obtain ⟨rfl, hr, hs, e1, hF1, hg⟩ := hx
    cases x' with
    | normal =>
      replace h : execA P rec y kept fr1 = some (ex, fr') := h
      exact wpIn_mono (ihy e1 fr1 fr' F a' w' ex hF1 (by rw [hs]; exact hf2.2) h) fun _ _ _ h => .trans hr hs hg h
    | exit id =>
      replace h : some (Exit.exit id, fr1) = some (ex, fr') := h
      cases h
      exact ⟨rfl, hr, hs, e1, hF1, hg⟩
    | ret =>
      replace h : some (Exit.ret, fr1) = some (ex, fr') := h
      cases h
      exact ⟨rfl, hr, hs, e1, hF1, hg⟩
    | goto l => cases h
    | panic c => cases h
    | outgrown => cases h
  | cond c x y ihx ihy =>
    intro e fr fr' F a w ex hF hf h
    have hf2 : codeFits a.tmps.size x = true ∧ codeFits a.tmps.size y = true := by simpa [codeFits] using hf
    replace h : ob (vBool (rho [] fr.t c)) (fun q => bc q (execA P rec x kept fr) (execA P rec y kept fr)) = some (ex, fr') := h
    rw [ob_eq] at h; obtain ⟨q, hq, h⟩ := h
    have hr := rho_rel hF.t c
    rw [vBool_eq hq] at hr
    have hc : a.eval c = .bool q := by generalize a.eval c = y at hr; cases hr; rfl
    cases q with
    | true => exact wpIn_cond_true hc (ihx e fr fr' F a w ex hF hf2.1 h)
    | false => exact wpIn_cond_false hc (ihy e fr fr' F a w ex hF hf2.2 h)
  | block id c ih =>
    intro e fr fr' F a w ex hF hf h
    replace h : ob (execA P rec c kept fr) (fun r => exBlock id r.1 r.2) = some (ex, fr') := h
    rw [ob_eq] at h; obtain ⟨⟨ex1, fr1⟩, h1, h⟩ := h
    refine wpIn_block (wpIn_mono (ih e fr fr1 F a w ex1 hF hf h1) fun x' a' w' hx => ?_)
    obtain ⟨rfl, hr, hs, e1, hF1, hg⟩ := hx
    cases x' with
    | normal =>
      replace h : some (Exit.normal, fr1) = some (ex, fr') := h
      cases h
      exact ⟨rfl, hr, hs, e1, hF1, hg⟩
    | exit j =>
      replace h : bc (Nat.beq j id) (some (Exit.normal, fr1)) (some (Exit.exit j, fr1)) = some (ex, fr') := h
      rw [bc_eq] at h
      by_cases hj : j = id
      · rw [if_pos (by simpa using hj)] at h
        cases h
        simp only [Exit.inBlock, hj, if_true]
        exact ⟨rfl, hr, hs, e1, hF1, hg⟩
      · rw [if_neg (by simpa using hj)] at h
        cases h
        simp only [Exit.inBlock, hj, if_false]
        exact ⟨rfl, hr, hs, e1, hF1, hg⟩
    | ret =>
      replace h : some (Exit.ret, fr1) = some (ex, fr') := h
      cases h
      exact ⟨rfl, hr, hs, e1, hF1, hg⟩
    | goto l => cases h
    | panic c => cases h
    | outgrown => cases h
  | loop c ih =>
    intro e fr fr' F a w ex hF hf h
    replace h : ob (rec (.loop c kept fr)) rEx = some (ex, fr') := h
    rw [ob_eq] at h; obtain ⟨r, hr, h⟩ := h
    obtain ⟨ex1, fr1, rfl, hl⟩ := hrec.loop _ _ _ _ hr
    replace h : some (ex1, fr1) = some (ex, fr') := h
    cases h
    exact loop_start (hl F e a w hF hf)
  | rangeFunc f ps x y ihx ihy =>
    intro e fr fr' F a w ex hF hf h
    exact hrange f ps x y (execA P rec x) (execA P rec y) kept e fr fr' F a w ex hF hf h
  | exit id =>
    intro e fr fr' F a w ex hF hf h
    replace h : some (Exit.exit id, fr) = some (ex, fr') := h
    cases h
    exact wpIn_exit (.refl hF _)
  | label l =>
    intro e fr fr' F a w ex hF hf h
    replace h : some (Exit.normal, fr) = some (ex, fr') := h
    cases h
    exact wpIn_label (.refl hF _)
  | ret =>
    intro e fr fr' F a w ex hF hf h
    replace h : some (Exit.ret, fr) = some (ex, fr') := h
    cases h
    exact wpIn_ret (.refl hF _)
  | _ => intro e fr fr' F a w ex hF hf h; cases h
end Go.AM
