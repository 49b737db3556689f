/- The abstract machine: what an operation looks at. -/
import Derived.Test.YtfmpoodienmieaaAm17
namespace Go.AM
variable {P : Program}
theorem args_congr {ρ ρ1 : Rho} (l : List Operand) (h : ∀ x ∈ l, ρ x = ρ1 x) : l.map ρ = l.map ρ1 := List.map_congr_left h
theorem parts_congr {ρ ρ1 : Rho} (l : List (Nat × Operand)) (h : ∀ x ∈ l.map (·.2), ρ x = ρ1 x) : (l.map fun p => (p.1, ρ p.2)) = l.map fun p => (p.1, ρ1 p.2) :=
  List.map_congr_left fun p hp => by rw [h p.2 (List.mem_map.2 ⟨p, hp, rfl⟩)]
theorem opt_congr {ρ ρ1 : Rho} (o : Option Operand) (h : ∀ x ∈ o.toList, ρ x = ρ1 x) : om o ρ = om o ρ1 := by
  cases o with
  | none => rfl
  | some x => show some (ρ x) = some (ρ1 x); rw [h x (by simp)]
theorem opA_congr {op : Op} {ty : TypeId} {σ : St} {ρ ρ1 : Rho} (h : ∀ x ∈ op.operands.toList, ρ x = ρ1 x) : opA op P ty ρ σ = opA op P ty ρ1 σ := by
  cases op <;> try rfl
  case move x => show some (ρ x, σ) = some (ρ1 x, σ); rw [h x (by simp [Op.operands])]
  case assign x => show some (ρ x, σ) = some (ρ1 x, σ); rw [h x (by simp [Op.operands])]
  case pick c a b => show om (vBool (ρ c)) (fun q => (bc q (ρ a) (ρ b), σ)) = om (vBool (ρ1 c)) (fun q => (bc q (ρ1 a) (ρ1 b), σ)); rw [h c (by simp [Op.operands]), h a (by simp [Op.operands]), h b (by simp [Op.operands])]
  case box t x => show allocA 0 (vcells (ρ x)) σ = allocA 0 (vcells (ρ1 x)) σ; rw [h x (by simp [Op.operands])]
  case build t ps => show still σ (buildA P t (ps.toList.map fun p => (p.1, ρ p.2))) = still σ (buildA P t (ps.toList.map fun p => (p.1, ρ1 p.2))); rw [parts_congr ps.toList (fun x hx => h x (by simpa [Op.operands] using hx))]
  case buildSlice t n ps => show buildSliceA P t n (ps.toList.map fun p => (p.1, ρ p.2)) σ = buildSliceA P t n (ps.toList.map fun p => (p.1, ρ1 p.2)) σ; rw [parts_congr ps.toList (fun x hx => h x (by simpa [Op.operands] using hx))]
  case load t a => show still σ (loadA P t σ.heap (ρ a)) = still σ (loadA P t σ.heap (ρ1 a)); rw [h a (by simp [Op.operands])]
  case store t a x => show done (storeA P t (ρ a) (ρ x) σ) = done (storeA P t (ρ1 a) (ρ1 x) σ); rw [h a (by simp [Op.operands]), h x (by simp [Op.operands])]
  case nilCheck x => show om (vPtr (ρ x)) (fun _ => (ρ x, σ)) = om (vPtr (ρ1 x)) (fun _ => (ρ1 x, σ)); rw [h x (by simp [Op.operands])]
  case binOp op xt x y yt => show still σ (binA P op xt x y (ρ x) (ρ y)) = still σ (binA P op xt x y (ρ1 x) (ρ1 y)); rw [h x (by simp [Op.operands]), h y (by simp [Op.operands])]
  case unOp op t x => show still σ (unA op P (ρ x)) = still σ (unA op P (ρ1 x)); rw [h x (by simp [Op.operands])]
  case convert s d x => show convA P s d (ρ x) σ = convA P s d (ρ1 x) σ; rw [h x (by simp [Op.operands])]
  case sliceToArrayPointer t x => show opToArr t x P ty ρ σ = opToArr t x P ty ρ1 σ; unfold opToArr; rw [h x (by simp [Op.operands])]
  case makeFunc f a b =>
    cases f <;> try rfl
    rename_i k
    show some (Value.func (.func k) ⟨a.toList.map ρ⟩ ⟨b.toList.map ρ⟩, σ) = some (Value.func (.func k) ⟨a.toList.map ρ1⟩ ⟨b.toList.map ρ1⟩, σ)
    rw [args_congr a.toList (fun x hx => h x (by simp only [Op.operands, Array.toList_append, List.mem_append]; exact .inl hx)), args_congr b.toList (fun x hx => h x (by simp only [Op.operands, Array.toList_append, List.mem_append]; exact .inr hx))]
  case makeSlice t l c => show makeSliceA P t (ρ l) (ρ c) σ = makeSliceA P t (ρ1 l) (ρ1 c) σ; rw [h l (by simp [Op.operands]), h c (by simp [Op.operands])]
  case slice t x lo hi mx =>
    show still σ (sliceA P σ.heap t (ρ x) (om lo ρ) (om hi ρ) (om mx ρ)) = still σ (sliceA P σ.heap t (ρ1 x) (om lo ρ1) (om hi ρ1) (om mx ρ1))
    have hm : ∀ y, (y = x ∨ y ∈ lo.toList ∨ y ∈ hi.toList ∨ y ∈ mx.toList) → ρ y = ρ1 y := fun y hy => h y (by
      simp only [Op.operands, Array.toList_append, List.mem_append, Option.toList_toArray]
      rcases hy with rfl | hy | hy | hy
      · exact .inl (.inl (.inl (by simp)))
      · exact .inl (.inl (.inr hy))
      · exact .inl (.inr hy)
      · exact .inr hy)
    rw [hm x (.inl rfl), opt_congr lo (fun y hy => hm y (.inr (.inl hy))), opt_congr hi (fun y hy => hm y (.inr (.inr (.inl hy)))), opt_congr mx (fun y hy => hm y (.inr (.inr (.inr hy))))]
  case fieldAddr s x f => show still σ (fieldAddrA P s (ρ x) f) = still σ (fieldAddrA P s (ρ1 x) f); rw [h x (by simp [Op.operands])]
  case field s x f => show still σ (fieldA P s (ρ x) f) = still σ (fieldA P s (ρ1 x) f); rw [h x (by simp [Op.operands])]
  case indexAddr t x ix => show still σ (indexAddrA P t (ρ x) (ρ ix)) = still σ (indexAddrA P t (ρ1 x) (ρ1 ix)); rw [h x (by simp [Op.operands]), h ix (by simp [Op.operands])]
  case index t x ix => show still σ (indexA P t (ρ x) (ρ ix)) = still σ (indexA P t (ρ1 x) (ρ1 ix)); rw [h x (by simp [Op.operands]), h ix (by simp [Op.operands])]
  case lookup t x k ok => show still σ (lookupA P t (ρ x) (ρ k) ok σ.heap) = still σ (lookupA P t (ρ1 x) (ρ1 k) ok σ.heap); rw [h x (by simp [Op.operands]), h k (by simp [Op.operands])]
  case mapUpdate t m k x => show done (mapUpdateA P t (ρ m) (ρ k) (ρ x) σ) = done (mapUpdateA P t (ρ1 m) (ρ1 k) (ρ1 x) σ); rw [h m (by simp [Op.operands]), h k (by simp [Op.operands]), h x (by simp [Op.operands])]
  case extract x i => show ob (vTup (ρ x)) (fun vs => still σ (headOf (dropL i vs))) = ob (vTup (ρ1 x)) (fun vs => still σ (headOf (dropL i vs))); rw [h x (by simp [Op.operands])]
  case call c =>
    obtain ⟨callee, args, ts⟩ := c
    cases callee <;> try rfl
    rename_i b
    show builtinA b P ts.toList ty (args.toList.map ρ) σ = builtinA b P ts.toList ty (args.toList.map ρ1) σ
    rw [args_congr args.toList (fun x hx => h x (by simpa [Op.operands, Call.operands] using hx))]
theorem stepA_congr {rec : Rec} {o : Oper} {σ : St} {ρ ρ1 : Rho} (h : ∀ x ∈ o.op.operands.toList, ρ x = ρ1 x) : stepA P rec o ρ σ = stepA P rec o ρ1 σ := by
  unfold stepA
  cases hc : calleeOf o.op with
  | none => exact opA_congr h
  | some c =>
    obtain ⟨args, ts, hop, hargs⟩ := calleeOf_eq hc
    show callA rec ρ σ c = callA rec ρ1 σ c
    unfold callA
    rw [hop] at h
    rw [h c.1 (by simp [Op.operands, Call.operands]), hargs, args_congr args.toList (fun x hx => h x (by simp [Op.operands, Call.operands, hx]))]
theorem placeOf_congr {op : Op} {ρ ρ1 : Rho} (h : ∀ x ∈ op.operands.toList, ρ x = ρ1 x) : placeOf ρ op = placeOf ρ1 op := by
  cases op <;> try rfl
  case load t a => show (vPtr (ρ a)).map (·.1) = (vPtr (ρ1 a)).map (·.1); rw [h a (by simp [Op.operands])]
  case store t a x => show (vPtr (ρ a)).map (·.1) = (vPtr (ρ1 a)).map (·.1); rw [h a (by simp [Op.operands])]
  case slice t x lo hi mx => show ((vSlice (ρ x)).bind (·.base)).map (·.1) = ((vSlice (ρ1 x)).bind (·.base)).map (·.1); rw [h x (by simp [Op.operands])]
  case lookup t x k ok => show (vMap (ρ x)).bind id = (vMap (ρ1 x)).bind id; rw [h x (by simp [Op.operands])]
  case mapUpdate t m k x => show (vMap (ρ m)).bind id = (vMap (ρ1 m)).bind id; rw [h m (by simp [Op.operands])]
  case call c =>
    obtain ⟨callee, args, ts⟩ := c
    cases callee <;> try rfl
    rename_i b
    cases b <;> try rfl
    show ((args.toList.head?).bind fun x => (vMap (ρ x)).bind id) = ((args.toList.head?).bind fun x => (vMap (ρ1 x)).bind id)
    cases ha : args.toList with
    | nil => rfl
    | cons a r => simp only [List.head?_cons, Option.bind_some]; rw [h a (by simp [Op.operands, Call.operands]; rw [← Array.mem_toList_iff, ha]; simp)]
end Go.AM
