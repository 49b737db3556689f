/- The machine once more, in another style: each operation hands its value on, values are taken apart by their types, and what a branch has found of a slot is kept. What this style comes to, the machine comes to. So a function's code can be written out as a plain term, which the kernel compares with the code. -/
import Derived.Test.YtfmpoodienmieaaAm34
namespace Go.AM
variable {P : Program} {rec : Rec}
abbrev R := Option Res
def Le (a b : R) : Prop := ∀ r, a = some r → b = some r
theorem Le.refl (a : R) : Le a a := fun _ h => h
theorem Le.trans {a b c : R} (h : Le a b) (k : Le b c) : Le a c := fun r hr => k r (h r hr)
theorem Le.of_eq {a b : R} (h : a = b) : Le a b := h ▸ Le.refl a
theorem le_none (b : R) : Le none b := fun _ h => by cases h
theorem le_ob {α : Type} (x : Option α) {f g : α → R} (h : ∀ a, x = some a → Le (f a) (g a)) : Le (ob x f) (ob x g) := by
  cases x with
  | none => exact le_none _
  | some a => exact h a rfl

/-! ### Values by their types -/
noncomputable def asI (kd : IntKind) (v : Value) (f : Int → R) : R := ob (vInt v) fun p => bc (sameKind p.1 kd) (f p.2) none
noncomputable def asB (v : Value) (f : Bool → R) : R := ob (vBool v) f
noncomputable def asS (v : Value) (f : ByteArray → R) : R := ob (vStr v) f
noncomputable def asP (v : Value) (f : Nat → Nat → R) : R := ob (vPtr v) fun p => f p.1 p.2
noncomputable def asL (v : Value) (f : Option Addr → Nat → Nat → R) : R := Value.elim none (fun _ => none) (fun _ _ => none) (fun _ => none) (fun _ => none) (fun a n c => f a n c) (fun _ => none) (fun _ _ _ => none) (fun _ => none) (fun _ => none) v
noncomputable def asM (v : Value) (f : Option Nat → R) : R := Value.elim none (fun _ => none) (fun _ _ => none) (fun _ => none) (fun _ => none) (fun _ _ _ => none) (fun r => f r) (fun _ _ _ => none) (fun _ => none) (fun _ => none) v
noncomputable def asF (v : Value) (f : Fn → Array Value → Array Value → R) : R := Value.elim none (fun _ => none) (fun _ _ => none) (fun _ => none) (fun _ => none) (fun _ _ _ => none) (fun _ => none) (fun g a b => f g a b) (fun _ => none) (fun _ => none) v
noncomputable def isFnil : Value → Bool := Value.rec (motive_1 := fun _ => Bool) (motive_2 := fun _ => Unit) (motive_3 := fun _ => Unit) (fun _ => false) (fun _ _ => false) (fun _ _ => false) (fun _ _ _ => false) (fun _ => false) (fun _ => false) (fun _ _ _ => false) (fun _ => false) (fun _ => false) (fun _ _ _ _ _ => false) true (fun _ _ _ => false) false (fun _ _ => false) (fun _ _ => false) (fun _ _ => ()) () (fun _ _ _ _ => ())
noncomputable def asA (v : Value) (f : List Value → R) : R := ob (vAgg v) f
noncomputable def asT (v : Value) (f : List Value → R) : R := ob (vTup v) f
noncomputable def nl (l : List Value) (x : R) : R := le l x fun _ _ => none
noncomputable def hd (l : List Value) (f : Value → List Value → R) : R := le l none f
noncomputable def cast1 (z v : Value) (k : Value → R) : R :=
  Value.elim (bc (isFnil z) (asF v fun g a b => k (.func g a b)) (k v)) (fun _ => asB v fun b => k (.bool b)) (fun kd _ => asI kd v fun n => k (.int kd n)) (fun _ => asS v fun s => k (.string s)) (fun _ => asP v fun i o => k (.pointer (some ⟨i, o, none⟩)))
    (fun _ _ _ => asL v fun a n c => k (.slice a n c)) (fun _ => asM v fun r => k (.map r)) (fun _ _ _ => k v) (fun _ => k v) (fun _ => k v) z
noncomputable def castL (zs : List Value) : List Value → (List Value → R) → R :=
  List.rec (motive := fun _ => List Value → (List Value → R) → R) (fun l k => nl l (k [])) (fun z _ ih l k => hd l fun c r => cast1 z c fun c' => ih r fun r' => k (c' :: r')) zs
noncomputable def castA (z v : Value) (k : Value → R) : R := oe (vAgg z) (cast1 z v k) fun zs => asA v fun cs => castL zs cs fun cs' => k (.agg ⟨cs'⟩)
noncomputable def castM (zs : List Value) : List Value → (List Value → R) → R :=
  List.rec (motive := fun _ => List Value → (List Value → R) → R) (fun l k => nl l (k [])) (fun z _ ih l k => hd l fun c r => castA z c fun c' => ih r fun r' => k (c' :: r')) zs
noncomputable def castV (z v : Value) (k : Value → R) : R := oe (vTup z) (castA z v k) fun zs => asT v fun cs => castM zs cs fun cs' => k (.tuple ⟨cs'⟩)
theorem vBool_some {v : Value} {b : Bool} (h : vBool v = some b) : v = .bool b := by cases v <;> cases h <;> rfl
theorem vInt_some {v : Value} {p : IntKind × Int} (h : vInt v = some p) : v = .int p.1 p.2 := by cases v <;> cases h <;> rfl
theorem vStr_some {v : Value} {p : ByteArray} (h : vStr v = some p) : v = .string p := by cases v <;> cases h <;> rfl
theorem vAgg_some {v : Value} {p : List Value} (h : vAgg v = some p) : v = .agg ⟨p⟩ := by cases v <;> cases h <;> rfl
theorem vTup_some {v : Value} {p : List Value} (h : vTup v = some p) : v = .tuple ⟨p⟩ := by cases v <;> cases h <;> rfl
theorem vPtr_some {v : Value} {p : Nat × Nat} (h : vPtr v = some p) : v = .pointer (some ⟨p.1, p.2, none⟩) := by
  cases v with
  | pointer a =>
    cases a with
    | none => cases h
    | some a =>
      obtain ⟨b, o, s⟩ := a
      cases s with
      | none => cases h; rfl
      | some s => cases h
  | _ => cases h
theorem sameKind_true {a b : IntKind} (h : sameKind a b = true) : a = b := by cases a <;> cases b <;> first | rfl | (cases h)
theorem cast1_le (z v : Value) (k : Value → R) : Le (cast1 z v k) (k v) := by
  have hI : ∀ kd, Le (asI kd v fun n => k (.int kd n)) (k v) := fun kd r h => by
    unfold asI at h
    rw [ob_eq] at h; obtain ⟨p, hp, h⟩ := h
    rw [bc_none] at h
    rw [vInt_some hp, sameKind_true h.1]; exact h.2
  have hB : Le (asB v fun n => k (.bool n)) (k v) := fun r h => by
    unfold asB at h
    rw [ob_eq] at h; obtain ⟨p, hp, h⟩ := h
    rw [vBool_some hp]; exact h
  have hS : Le (asS v fun n => k (.string n)) (k v) := fun r h => by
    unfold asS at h
    rw [ob_eq] at h; obtain ⟨p, hp, h⟩ := h
    rw [vStr_some hp]; exact h
  have hP : Le (asP v fun i o => k (.pointer (some ⟨i, o, none⟩))) (k v) := fun r h => by
    unfold asP at h
    rw [ob_eq] at h; obtain ⟨p, hp, h⟩ := h
    rw [vPtr_some hp]; exact h
  have hL : Le (asL v fun a n c => k (.slice a n c)) (k v) := by
    cases v with
    | slice => exact Le.refl _
    | _ => exact le_none _
  have hM : Le (asM v fun r => k (.map r)) (k v) := by
    cases v with
    | map => exact Le.refl _
    | _ => exact le_none _
  have hF : Le (asF v fun g a b => k (.func g a b)) (k v) := by
    cases v with
    | func => exact Le.refl _
    | _ => exact le_none _
  cases z with
  | bool => exact hB
  | int kd n => exact hI kd
  | slice => exact hL
  | map => exact hM
  | nilFunc => exact hF
  | string => exact hS
  | pointer => exact hP
  | _ => exact Le.refl _
theorem nl_le (l : List Value) (k : List Value → R) : Le (nl l (k [])) (k l) := by
  cases l with
  | nil => exact Le.refl _
  | cons => exact le_none _
theorem castL_le (zs : List Value) : ∀ (l : List Value) (k : List Value → R), Le (castL zs l k) (k l) := by
  induction zs with
  | nil => intro l k; exact nl_le l k
  | cons z zs ih =>
    intro l k
    cases l with
    | nil => exact le_none _
    | cons c r =>
      show Le (cast1 z c fun c' => castL zs r fun r' => k (c' :: r')) _
      exact (cast1_le z c _).trans (ih r _)
theorem castA_le (z v : Value) (k : Value → R) : Le (castA z v k) (k v) := by
  unfold castA
  cases hz : vAgg z with
  | none => exact cast1_le z v k
  | some zs =>
    intro r h
    replace h : ob (vAgg v) (fun cs => castL zs cs fun cs' => k (.agg ⟨cs'⟩)) = some r := h
    rw [ob_eq] at h; obtain ⟨cs, hcs, h⟩ := h
    rw [vAgg_some hcs]
    exact castL_le zs cs (fun cs' => k (.agg ⟨cs'⟩)) r h
theorem castM_le (zs : List Value) : ∀ (l : List Value) (k : List Value → R), Le (castM zs l k) (k l) := by
  induction zs with
  | nil => intro l k; exact nl_le l k
  | cons z zs ih =>
    intro l k
    cases l with
    | nil => exact le_none _
    | cons c r =>
      show Le (castA z c fun c' => castM zs r fun r' => k (c' :: r')) _
      exact (castA_le z c _).trans (ih r _)
theorem castV_le (z v : Value) (k : Value → R) : Le (castV z v k) (k v) := by
  unfold castV
  cases hz : vTup z with
  | none => exact castA_le z v k
  | some zs =>
    intro r h
    replace h : ob (vTup v) (fun cs => castM zs cs fun cs' => k (.tuple ⟨cs'⟩)) = some r := h
    rw [ob_eq] at h; obtain ⟨cs, hcs, h⟩ := h
    rw [vTup_some hcs]
    exact castM_le zs cs (fun cs' => k (.tuple ⟨cs'⟩)) r h
/-- A type's zero, for its form alone. -/
noncomputable def zeroT (P : Program) (t : TypeId) : Value := match und P t with
  | some (.tuple ts) => .tuple ⟨ts.toList.map fun t => oe (zro P t) undef id⟩
  | _ => oe (zro P t) undef id

/-! ### Operations -/
abbrev KT := Value → St → R
noncomputable def callT (rec : Rec) (k : FuncId) (args : List Value) (σ : St) (f : KT) : R := ob (rec (.call k args σ)) fun r => ob (rVal r) fun p => f p.1 p.2
noncomputable def yieldT (rec : Rec) (l : Nat) (args : List Value) (σ : St) (f : KT) : R := ob (rec (.yield l args σ)) fun r => ob (rVal r) fun p => f p.1 p.2
noncomputable def reqT (rec : Rec) (q : Req) (f : KT) : R := ob (rec q) fun r => ob (rVal r) fun p => f p.1 p.2
noncomputable def callV (rec : Rec) (fv : Value) (args : List Value) (σ : St) (f : KT) : R :=
  ob (vFunc fv) fun g => ob (fnReq g.1 (g.2.1.toList ++ args) g.2.2.toList σ) fun q => reqT rec q f
noncomputable def ld1 (h : Tr Blk) (i o : Nat) (f : Value → R) : R := ob (readAt h i o (nat_lit 1)) fun cs => ob (headOf cs) f
noncomputable def ldN (h : Tr Blk) (i o n : Nat) (f : List Value → R) : R := ob (readAt h i o n) f
noncomputable def loadT (P : Program) (t : TypeId) (h : Tr Blk) (a : Value) (k : Value → R) : R :=
  asP a fun i o => ob (shapeOf P t) fun s => oe s (ld1 h i o k) fun n => ldN h i o n fun cs => k (.agg ⟨cs⟩)
noncomputable def wrT (σ : St) (i o : Nat) (vs : List Value) (f : St → R) : R := ob (writeAt σ i o vs) f
noncomputable def storeT (P : Program) (t : TypeId) (a v : Value) (σ : St) (f : St → R) : R :=
  asP a fun i o => ob (sz P t) fun n => bc (Nat.beq (vcells v).length n) (wrT σ i o (vcells v) f) none
noncomputable def newT (z : Nat) (cs : List Value) (σ : St) (f : KT) : R := bc (allOne cs) (f (.pointer (some ⟨σ.next, 0, none⟩)) (newBlk σ (.cells false z cs))) none
/-- The address of a slice's element. -/
noncomputable def atT (x : Value) (k : Int) (size : Nat) (f : Nat → Nat → R) : R := ob (vSlice x) fun v => ob v.base fun p => ob (natBelow k v.len) fun m => f p.1 (Nat.add p.2 (Nat.mul m size))
noncomputable def inT (k : Int) (n : Nat) (f : Nat → R) : R := ob (natBelow k n) f
noncomputable def indexAddrT (P : Program) (t : TypeId) (x ix : Value) (f : Value → R) : R :=
  ob (vInt ix) fun k => oe (arrayT P t)
    (ob (sliceT P t) fun s => atT x k.2 s.size fun i o => f (.pointer (some ⟨i, o, none⟩)))
    fun a => asP x fun i o => inT k.2 a.1 fun m => f (.pointer (some ⟨i, Nat.add o (Nat.mul m a.2.1), none⟩))
noncomputable def fieldAddrT (P : Program) (t : TypeId) (x : Value) (n : Nat) (f : Value → R) : R :=
  ob (fieldOff P t n) fun off => asP x fun i o => f (.pointer (some ⟨i, Nat.add o off, none⟩))
noncomputable def lenT (v : Value) (f : Int → R) : R := ob (vSlice v) fun s => f (Int.ofNat s.len)
noncomputable def bigT (P : Program) (t : TypeId) (x : Value) (h : Tr Blk) (f : Value → R) : R :=
  oe (arrayT P t) (oe (sliceT P t) (ob (lenOf P t x h) f) fun _ => lenT x fun n => f (.int .i64 n)) fun a => f (goInt a.1)
noncomputable def builtT (b : Builtin) (P : Program) (ts : List TypeId) (ty : TypeId) (args : List Value) (σ : St) (f : KT) : R :=
  match b with
  | .len => le ts none fun t _ => le args none fun x _ => bigT P t x σ.heap fun v => f v σ
  | b => ob (builtinA b P ts ty args σ) fun r => f r.1 r.2
noncomputable def opT (P : Program) (rec : Rec) (ty : TypeId) (ρ : Rho) (σ : St) (o : Op) (f : KT) : R :=
  match o with
  | .move x => f (ρ x) σ
  | .assign x => f (ρ x) σ
  | .pick c a b => asB (ρ c) fun q => bc q (f (ρ a) σ) (f (ρ b) σ)
  | .alloc e => ob (zro P e) fun z => newT 0 (vcells z) σ f
  | .box _ x => newT 0 (vcells (ρ x)) σ f
  | .load t a => loadT P t σ.heap (ρ a) fun v => f v σ
  | .store t a x => storeT P t (ρ a) (ρ x) σ fun σ => f undef σ
  | .fieldAddr t x n => fieldAddrT P t (ρ x) n fun v => f v σ
  | .indexAddr t x i => indexAddrT P t (ρ x) (ρ i) fun v => f v σ
  | .binOp op xt x y _ => ob (binA P op xt x y (ρ x) (ρ y)) fun v => f v σ
  | .unOp op _ x => ob (unA op P (ρ x)) fun v => f v σ
  | .field t x n => ob (fieldA P t (ρ x) n) fun v => f v σ
  | .index t x i => ob (indexA P t (ρ x) (ρ i)) fun v => f v σ
  | .build t ps => ob (buildA P t (partsA ρ ps)) fun v => f v σ
  | .lookup t x k ok => ob (lookupA P t (ρ x) (ρ k) ok σ.heap) fun v => f v σ
  | .mapUpdate t m k x => ob (mapUpdateA P t (ρ m) (ρ k) (ρ x) σ) fun σ => f undef σ
  | .slice t x lo hi mx => ob (sliceA P σ.heap t (ρ x) (om lo (ρ)) (om hi (ρ)) (om mx (ρ))) fun v => f v σ
  | .extract x i => asT (ρ x) fun vs => ob (headOf (dropL i vs)) fun v => f v σ
  | .call c => match c.callee with
    | .builtin b => builtT b P c.argTypes.toList ty (c.args.toList.map (ρ)) σ f
    | .value g => callV rec (ρ g) (c.args.toList.map ρ) σ f
    | _ => none
  | o => ob (opA o P ty ρ σ) fun r => f r.1 r.2
theorem le_om {α β : Type} (x : Option α) (g : α → β) {f : α → R} {k : β → R} (h : ∀ a, x = some a → Le (f a) (k (g a))) : Le (ob x f) (ob (om x g) k) := by
  cases x with
  | none => exact le_none _
  | some a => exact h a rfl
theorem le_still (x : Option Value) (σ : St) (f : KT) : Le (ob x fun v => f v σ) (ob (still σ x) fun r => f r.1 r.2) := le_om x _ fun _ _ => Le.refl _
theorem le_done (x : Option St) (f : KT) : Le (ob x fun σ => f undef σ) (ob (done x) fun r => f r.1 r.2) := le_om x _ fun _ _ => Le.refl _
theorem le_obob {α β : Type} (x : Option α) (g : α → Option β) {f : α → R} {k : β → R} (h : ∀ a, x = some a → Le (f a) (ob (g a) k)) : Le (ob x f) (ob (ob x g) k) := by
  cases x with
  | none => exact le_none _
  | some a => exact h a rfl
theorem newT_le (z : Nat) (cs : List Value) (σ : St) (f : KT) : Le (newT z cs σ f) (ob (allocA z cs σ) fun r => f r.1 r.2) := by
  unfold newT allocA
  cases allOne cs
  · exact le_none _
  · exact Le.refl _
theorem loadT_le (t : TypeId) (h : Tr Blk) (a : Value) (k : Value → R) : Le (loadT P t h a k) (ob (loadA P t h a) k) := by
  unfold loadT asP loadA
  refine le_obob _ _ fun p _ => le_obob _ _ fun s _ => ?_
  cases s with
  | none => exact le_obob _ _ fun cs _ => Le.refl _
  | some n => exact le_om _ _ fun cs _ => Le.refl _
theorem storeT_le (t : TypeId) (a v : Value) (σ : St) (f : St → R) : Le (storeT P t a v σ f) (ob (storeA P t a v σ) f) := by
  unfold storeT asP storeA
  refine le_obob _ _ fun p _ => le_obob _ _ fun s _ => ?_
  cases Nat.beq (vcells v).length s
  · exact le_none _
  · exact Le.refl _
theorem fieldAddrT_le (t : TypeId) (x : Value) (n : Nat) (f : Value → R) : Le (fieldAddrT P t x n f) (ob (fieldAddrA P t x n) f) := by
  unfold fieldAddrT asP fieldAddrA
  exact le_obob _ _ fun p _ => le_om _ _ fun s _ => Le.refl _
theorem indexAddrT_le (t : TypeId) (x ix : Value) (f : Value → R) : Le (indexAddrT P t x ix f) (ob (indexAddrA P t x ix) f) := by
  unfold indexAddrT indexAddrA
  refine le_obob _ _ fun k _ => ?_
  cases arrayT P t with
  | none =>
    refine le_obob _ _ fun s _ => ?_
    exact le_obob _ _ fun v _ => le_obob _ _ fun p _ => le_om _ _ fun m _ => Le.refl _
  | some a => exact le_obob _ _ fun p _ => le_om _ _ fun m _ => Le.refl _
theorem bigT_le (t : TypeId) (x : Value) (h : Tr Blk) (f : Value → R) : Le (bigT P t x h f) (ob (lenOf P t x h) f) := by
  unfold bigT
  cases ha : arrayT P t with
  | some a => unfold lenOf; rw [ha]; exact Le.refl _
  | none =>
    cases hs : sliceT P t with
    | none => exact Le.refl _
    | some s =>
      intro r hr
      replace hr : ob (vSlice x) (fun s => f (.int .i64 (Int.ofNat s.len))) = some r := hr
      rw [ob_eq] at hr; obtain ⟨v, hv, hr⟩ := hr
      unfold lenOf
      rw [ha, hv, hs]
      exact hr
theorem builtT_le (b : Builtin) (ts : List TypeId) (ty : TypeId) (args : List Value) (σ : St) (f : KT) : Le (builtT b P ts ty args σ f) (ob (builtinA b P ts ty args σ) fun r => f r.1 r.2) := by
  cases b with
  | len =>
    cases ts with
    | nil => exact le_none _
    | cons t _ =>
      cases args with
      | nil => exact le_none _
      | cons x _ =>
        show Le (bigT P t x σ.heap fun v => f v σ) (ob (still σ (lenOf P t x σ.heap)) fun r => f r.1 r.2)
        exact (bigT_le _ _ _ _).trans (le_still _ _ _)
  | _ => exact Le.refl _
theorem opT_le (ty : TypeId) (ρ : Rho) (σ : St) (o : Op) (f : KT) (ho : calleeOf o = none) : Le (opT P rec ty ρ σ o f) (ob (opA o P ty ρ σ) fun r => f r.1 r.2) := by
  cases o with
  | pick c a b =>
    show Le (ob (vBool (ρ c)) fun q => bc q (f (ρ a) σ) (f (ρ b) σ)) (ob (om (vBool (ρ c)) fun q => (bc q (ρ a) (ρ b), σ)) fun r => f r.1 r.2)
    refine le_om _ _ fun q _ => ?_
    cases q <;> exact Le.refl _
  | alloc e => exact le_obob _ _ fun z _ => newT_le _ _ _ _
  | box _ x => exact newT_le _ _ _ _
  | load t a => exact (loadT_le _ _ _ _).trans (le_still _ _ _)
  | store t a x => exact (storeT_le _ _ _ _ _).trans (le_done _ _)
  | fieldAddr t x n => exact (fieldAddrT_le _ _ _ _).trans (le_still _ _ _)
  | indexAddr t x i => exact (indexAddrT_le _ _ _ _).trans (le_still _ _ _)
  | binOp op xt x y yt => exact le_still _ _ _
  | unOp op _ x => exact le_still _ _ _
  | field t x n => exact le_still _ _ _
  | index t x i => exact le_still _ _ _
  | build t ps => exact le_still _ _ _
  | lookup t x k ok => exact le_still _ _ _
  | mapUpdate t m k x => exact le_done _ _
  | slice t x lo hi mx => exact le_still _ _ _
  | extract x i => exact le_obob _ _ fun vs _ => le_still _ _ _
  | call c =>
    obtain ⟨callee, args, ats⟩ := c
    cases callee with
    | builtin b => exact builtT_le _ _ _ _ _ _
    | value g => cases ho
    | invoke => exact le_none _
  | _ => exact Le.refl _
def isMove : Op → Bool
  | .move _ | .assign _ => true
  | _ => false
noncomputable def stepT (P : Program) (rec : Rec) (o : Oper) (ρ : Rho) (σ : St) (k : KT) : R := opT P rec o.type ρ σ o.op fun v σ => bc (bc (isMove o.op) true (Nat.beq o.type 0)) (k v σ) (castV (zeroT P o.type) v fun v => k v σ)
theorem callV_le (fv : Value) (args : List Value) (σ : St) (f : KT) : Le (callV rec fv args σ f) (ob (ob (vFunc fv) fun g => ob (fnReq g.1 (g.2.1.toList ++ args) g.2.2.toList σ) fun q => ob (rec q) rVal) fun r => f r.1 r.2) :=
  le_obob _ _ fun g _ => le_obob _ _ fun q _ => le_obob _ _ fun r _ => Le.refl _
theorem stepT_le (o : Oper) (ρ : Rho) (σ : St) (k : KT) : Le (stepT P rec o ρ σ k) (ob (stepA P rec o ρ σ) fun r => k r.1 r.2) := by
  have hf : ∀ x : OpRes, Le (ob x fun r => bc (bc (isMove o.op) true (Nat.beq o.type 0)) (k r.1 r.2) (castV (zeroT P o.type) r.1 fun v => k v r.2)) (ob x fun r => k r.1 r.2) := fun x => le_ob _ fun r _ => by
    cases bc (isMove o.op) true (Nat.beq o.type 0)
    · exact castV_le _ _ (fun v => k v r.2)
    · exact Le.refl _
  unfold stepT stepA
  cases hc : calleeOf o.op with
  | none => exact (opT_le _ _ _ _ _ hc).trans (hf _)
  | some c =>
    refine Le.trans ?_ (hf _)
    cases ho : o.op with
    | call cl =>
      rw [ho] at hc
      obtain ⟨callee, args, ats⟩ := cl
      cases callee with
      | value g => cases hc; exact callV_le _ _ _ _
      | builtin b => cases hc
      | invoke => cases hc
    | _ => rw [ho] at hc; cases hc
end Go.AM
