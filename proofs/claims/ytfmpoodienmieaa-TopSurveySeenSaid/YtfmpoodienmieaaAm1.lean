/- The abstract machine: definitions. A functional interpreter of the model's code over a logical heap: a slice's spare room is not seen, a region that draws its order is carried out in the order of the text. Written for the kernel: what is matched often is taken apart by eliminators whose arms are closed. Nothing here is trusted: Am2 and on prove it sound over the kit's calculus. -/
import Derived.RangeFuncLeaves
import Derived.OrdersIn
namespace Go.AM

/-! ### Eliminators -/
section
variable {α β γ : Type}
noncomputable def bc (b : Bool) (x y : α) : α := Bool.rec (motive := fun _ => α) y x b
noncomputable def ob (x : Option α) (f : α → Option β) : Option β := Option.rec (motive := fun _ => Option β) none f x
noncomputable def oe (x : Option α) (d : β) (f : α → β) : β := Option.rec (motive := fun _ => β) d f x
noncomputable def om (x : Option α) (f : α → β) : Option β := Option.rec (motive := fun _ => Option β) none (fun a => some (f a)) x
noncomputable def pe (x : α × β) (f : α → β → γ) : γ := Prod.rec (motive := fun _ => γ) f x
noncomputable def le (l : List α) (d : β) (f : α → List α → β) : β := List.rec (motive := fun _ => β) d (fun a r _ => f a r) l
noncomputable def ne (n : Nat) (d : β) (f : Nat → β) : β := Nat.rec (motive := fun _ => β) d (fun k _ => f k) n
end

/-! ### Maps by numbers -/
inductive Tr (α : Type) where
  | leaf (l : List (Nat × α))
  | node (a b : Tr α)

section
variable {α : Type}
noncomputable def lget (n : Nat) (l : List (Nat × α)) : Option α :=
  List.rec (motive := fun _ => Option α) none (fun p _ ih => bc (Nat.beq p.1 n) (some p.2) ih) l
noncomputable def lput (n : Nat) (v : α) (l : List (Nat × α)) : List (Nat × α) :=
  List.rec (motive := fun _ => List (Nat × α)) [(n, v)] (fun p r ih => bc (Nat.beq p.1 n) ((n, v) :: r) (p :: ih)) l
noncomputable def ldel (n : Nat) (l : List (Nat × α)) : List (Nat × α) :=
  List.rec (motive := fun _ => List (Nat × α)) [] (fun p _ ih => bc (Nat.beq p.1 n) ih (p :: ih)) l
noncomputable def Tr.get (t : Tr α) : Nat → Option α :=
  Tr.rec (motive := fun _ => Nat → Option α) (fun l n => lget n l)
    (fun _ _ ga gb n => bc (Nat.beq (Nat.mod n (nat_lit 2)) (nat_lit 0)) (ga (Nat.div n (nat_lit 2))) (gb (Nat.div n (nat_lit 2)))) t
noncomputable def Tr.put (t : Tr α) : Nat → α → Tr α :=
  Tr.rec (motive := fun _ => Nat → α → Tr α) (fun l n v => .leaf (lput n v l))
    (fun a b pa pb n v => bc (Nat.beq (Nat.mod n (nat_lit 2)) (nat_lit 0)) (.node (pa (Nat.div n (nat_lit 2)) v) b) (.node a (pb (Nat.div n (nat_lit 2)) v))) t
noncomputable def Tr.del (t : Tr α) : Nat → Tr α :=
  Tr.rec (motive := fun _ => Nat → Tr α) (fun l n => .leaf (ldel n l))
    (fun a b pa pb n => bc (Nat.beq (Nat.mod n (nat_lit 2)) (nat_lit 0)) (.node (pa (Nat.div n (nat_lit 2))) b) (.node a (pb (Nat.div n (nat_lit 2))))) t
def Tr.mk : Nat → Tr α
  | 0 => .leaf []
  | d + 1 => .node (Tr.mk d) (Tr.mk d)
end

/-! ### Values taken apart -/
structure SliceV where
  base : Option (Nat × Nat)
  len : Nat
  cap : Nat
noncomputable def plainAddr (a : Addr) : Option (Nat × Nat) := oe a.spot (some (a.block, a.off)) fun _ => none
noncomputable def Value.elim {α : Type} (d : α) (bool : Bool → α) (int : IntKind → Int → α) (string : ByteArray → α) (pointer : Option Addr → α) (slice : Option Addr → Nat → Nat → α)
    (map : Option Nat → α) (func : Fn → Array Value → Array Value → α) (agg tuple : Array Value → α) : Value → α :=
  Value.rec (motive_1 := fun _ => α) (motive_2 := fun _ => Unit) (motive_3 := fun _ => Unit) bool int (fun _ _ => d) (fun _ _ _ => d) string pointer slice map (fun _ => d)
    (fun f a b _ _ => func f a b) d (fun _ _ _ => d) d (fun a _ => agg a) (fun a _ => tuple a) (fun _ _ => ()) () (fun _ _ _ _ => ())
noncomputable def vInt : Value → Option (IntKind × Int) := Value.elim none (fun _ => none) (fun k n => some (k, n)) (fun _ => none) (fun _ => none) (fun _ _ _ => none) (fun _ => none) (fun _ _ _ => none) (fun _ => none) (fun _ => none)
noncomputable def vBool : Value → Option Bool := Value.elim none (fun b => some b) (fun _ _ => none) (fun _ => none) (fun _ => none) (fun _ _ _ => none) (fun _ => none) (fun _ _ _ => none) (fun _ => none) (fun _ => none)
noncomputable def vStr : Value → Option ByteArray := Value.elim none (fun _ => none) (fun _ _ => none) (fun s => some s) (fun _ => none) (fun _ _ _ => none) (fun _ => none) (fun _ _ _ => none) (fun _ => none) (fun _ => none)
noncomputable def vPtr : Value → Option (Nat × Nat) := Value.elim none (fun _ => none) (fun _ _ => none) (fun _ => none) (fun a => ob a plainAddr) (fun _ _ _ => none) (fun _ => none) (fun _ _ _ => none) (fun _ => none) (fun _ => none)
noncomputable def vSlice : Value → Option SliceV := Value.elim none (fun _ => none) (fun _ _ => none) (fun _ => none) (fun _ => none)
  (fun a l c => oe a (some ⟨none, l, c⟩) fun a => om (plainAddr a) fun p => ⟨some p, l, c⟩) (fun _ => none) (fun _ _ _ => none) (fun _ => none) (fun _ => none)
noncomputable def vMap : Value → Option (Option Nat) := Value.elim none (fun _ => none) (fun _ _ => none) (fun _ => none) (fun _ => none) (fun _ _ _ => none) (fun r => some r) (fun _ _ _ => none) (fun _ => none) (fun _ => none)
noncomputable def vFunc : Value → Option (Fn × Array Value × Array Value) := Value.elim none (fun _ => none) (fun _ _ => none) (fun _ => none) (fun _ => none) (fun _ _ _ => none) (fun _ => none) (fun f a b => some (f, a, b)) (fun _ => none) (fun _ => none)
noncomputable def vAgg : Value → Option (List Value) := Value.elim none (fun _ => none) (fun _ _ => none) (fun _ => none) (fun _ => none) (fun _ _ _ => none) (fun _ => none) (fun _ _ _ => none) (fun a => some a.toList) (fun _ => none)
noncomputable def vTup : Value → Option (List Value) := Value.elim none (fun _ => none) (fun _ _ => none) (fun _ => none) (fun _ => none) (fun _ _ _ => none) (fun _ => none) (fun _ _ _ => none) (fun _ => none) (fun a => some a.toList)
noncomputable def oneCell : Value → Bool := Value.elim false (fun _ => true) (fun _ _ => true) (fun _ => true) (fun _ => true) (fun _ _ _ => true) (fun _ => true) (fun _ _ _ => true) (fun _ => false) (fun _ => false)
noncomputable def vcells (v : Value) : List Value := oe (vAgg v) [v] id
/-- No address within: such a value is the same in every memory. -/
noncomputable def isFlat : Value → Bool :=
  Value.rec (motive_1 := fun _ => Bool) (motive_2 := fun _ => Bool) (motive_3 := fun _ => Bool) (fun _ => true) (fun _ _ => true) (fun _ _ => true) (fun _ _ _ => true) (fun _ => true)
    (fun a => oe a true fun _ => false) (fun a l c => oe a (Nat.beq l 0 && Nat.beq c 0) fun _ => false) (fun r => oe r true fun _ => false) (fun _ => false) (fun _ _ _ _ _ => false) true (fun _ _ _ => false) true
    (fun _ ih => ih) (fun _ ih => ih) (fun _ ih => ih) true (fun _ _ a b => bc a b false)
noncomputable def allFlat (l : List Value) : Bool := List.rec (motive := fun _ => Bool) true (fun v _ ih => bc (isFlat v) ih false) l
noncomputable def allOne (l : List Value) : Bool := List.rec (motive := fun _ => Bool) true (fun v _ ih => bc (oneCell v) ih false) l

/-! ### States -/
inductive Blk where
  | cells (ro : Bool) (z : Nat) (cs : List Value)
  | map (es : List (Value × Value))
  | loop (st : LoopState) (pend : Option Code) (kept : Nat → Bool) (fn : FuncId) (t : Tr Value) (params : List Tmp) (assign body : Code) (defers : Nat)
  | defer
structure LoopB where
  st : LoopState
  pend : Option Code
  kept : Nat → Bool
  fn : FuncId
  t : Tr Value
  params : List Tmp
  assign : Code
  body : Code
  defers : Nat
def LoopB.blk (l : LoopB) : Blk := .loop l.st l.pend l.kept l.fn l.t l.params l.assign l.body l.defers
noncomputable def bCells : Blk → Option (Bool × Nat × List Value) := Blk.rec (motive := fun _ => Option (Bool × Nat × List Value)) (fun r z cs => some (r, z, cs)) (fun _ => none) (fun _ _ _ _ _ _ _ _ _ => none) none
noncomputable def bMap : Blk → Option (List (Value × Value)) := Blk.rec (motive := fun _ => Option (List (Value × Value))) (fun _ _ _ => none) (fun es => some es) (fun _ _ _ _ _ _ _ _ _ => none) none
noncomputable def bLoop : Blk → Option LoopB := Blk.rec (motive := fun _ => Option LoopB) (fun _ _ _ => none) (fun _ => none) (fun a b c d e f g h i => some ⟨a, b, c, d, e, f, g, h, i⟩) none

structure St where
  heap : Tr Blk
  next : Nat
  wall : Nat
  low : Nat

abbrev Loc := List (Nat × Value)
structure Fr where
  t : Tr Value
  σ : St
  fn : FuncId
  rnd : Option Nat
  ds : List Nat

inductive Req where
  | call (k : FuncId) (args : List Value) (σ : St)
  | yield (l : Nat) (args : List Value) (σ : St)
  | loop (c : Code) (kept : Nat → Bool) (fr : Fr)
inductive Res where
  | val (v : Value) (σ : St)
  | ex (e : Exit) (fr : Fr)
abbrev Rec := Req → Option Res
noncomputable def rVal : Res → Option (Value × St) := Res.rec (motive := fun _ => Option (Value × St)) (fun v s => some (v, s)) (fun _ _ => none)
noncomputable def rEx : Res → Option (Exit × Fr) := Res.rec (motive := fun _ => Option (Exit × Fr)) (fun _ _ => none) (fun e f => some (e, f))

/-- What stands for a value that is not known. -/
def poison : Value := .chan none
noncomputable def slot (i : Nat) (l : Loc) (t : Tr Value) : Value := oe (lget i l) (oe (t.get i) poison id) id
noncomputable def rho (l : Loc) (t : Tr Value) (x : Operand) : Value :=
  Operand.rec (motive := fun _ => Loc → Tr Value → Value) slot (fun v _ _ => bc (isFlat v) v poison) (fun _ _ _ => poison) (fun f _ _ => .func (.func f) #[] #[]) x l t
abbrev Rho := Operand → Value

/-- What a computation that looks at no memory comes to. -/
def prun {α : Type} (P : Program) : Sem α → Option α
  | .pure a => some a
  | .program k => prun P (k P)
  | .mark _ k => prun P k
  | _ => none

/-! ### Types: all of these are closed at a program's own code, so the kernel reckons each once -/
section
variable (P : Program)
def und (t : TypeId) : Option TypeDesc := P.underlying t
def sz (t : TypeId) : Option Nat := (P.info? t).map (·.size)
def byt (t : TypeId) : Option Nat := (P.info? t).map (·.bytes)
noncomputable def zro (t : TypeId) : Option Value := ob ((P.info? t).bind (·.zero)) fun z => bc (isFlat z) (some z) none
def agg? (t : TypeId) : Option Bool :=
  match und P t with
  | some (.struct _) | some (.array _ _) => some true
  | some _ => some false
  | none => none
/-- How many cells a variable of a type has; none: one cell that is no struct and no array. -/
def shapeOf (t : TypeId) : Option (Option Nat) :=
  match agg? P t with
  | some true => (sz P t).map some
  | some false => some none
  | none => none
structure SliceT where
  elem : TypeId
  size : Nat
  bytes : Nat
  zero : List Value
noncomputable def elemT (e : TypeId) : Option SliceT := ob (sz P e) fun n => ob (byt P e) fun b => ob (zro P e) fun z => bc (Nat.beq (vcells z).length n) (some ⟨e, n, b, vcells z⟩) none
noncomputable def sliceT (t : TypeId) : Option SliceT :=
  match und P t with
  | some (.slice e) => elemT P e
  | _ => none
def arrayT (t : TypeId) : Option (Nat × Nat × TypeId) :=
  match und P t with
  | some (.array n e) => (sz P e).map fun s => (n, s, e)
  | _ => none
def isStringT (t : TypeId) : Bool := match und P t with | some .string => true | _ => false
def isIntT (t : TypeId) : Bool := match und P t with | some (.int _) => true | _ => false
def fieldT (t : TypeId) (f : Nat) : Option (Nat × TypeId) :=
  match und P t with
  | some (.struct fs) => (fs[f]?).map fun fd => (fd.offset, fd.type)
  | _ => none
def fieldOff (t : TypeId) (f : Nat) : Option Nat :=
  match fieldT P t f with
  | some (off, ty) => match sz P ty with
    | some (_ + 1) => some off
    | _ => none
  | none => none
def mapT (t : TypeId) : Option (TypeId × TypeId) :=
  match und P t with
  | some (.map k e) => some (k, e)
  | _ => none
def placesA (fs : List Field) : Option (List (Nat × Nat)) :=
  match fs with
  | [] => some []
  | f :: r => (sz P f.type).bind fun n => (placesA r).map fun l => (f.offset, n) :: l
/-- The cells of a struct's or an array's zero, and where its parts lie. -/
noncomputable def buildT (t : TypeId) : Option (List Value × (Nat → Option (Nat × Nat))) :=
  ob (zro P t) fun z =>
  match und P t with
  | some (.struct fs) => (placesA P fs.toList).map fun ps => (vcells z, fun i => ps[i]?)
  | some (.array _ elem) => (sz P elem).map fun n => (vcells z, fun i => some (i * n, n))
  | _ => none
end

/-! ### Memory -/
noncomputable def dropL (n : Nat) (l : List Value) : List Value := Nat.rec (motive := fun _ => List Value → List Value) (fun l => l) (fun _ ih l => le l [] fun _ r => ih r) n l
noncomputable def takeL (n : Nat) (l : List Value) : List Value := Nat.rec (motive := fun _ => List Value → List Value) (fun _ => []) (fun _ ih l => le l [] fun a r => a :: ih r) n l
noncomputable def readAt (h : Tr Blk) (i o n : Nat) : Option (List Value) :=
  bc (Nat.beq n (nat_lit 0)) (some []) (ob (h.get i) fun b => ob (bCells b) fun c => bc (Nat.ble (Nat.add o n) c.2.2.length) (some (takeL n (dropL o c.2.2))) none)
noncomputable def setL (v : Value) (n : Nat) (l : List Value) : List Value := Nat.rec (motive := fun _ => List Value → List Value) (fun l => le l [] fun _ r => v :: r) (fun _ ih l => le l [] fun a r => a :: ih r) n l
noncomputable def splice (cs : List Value) (o : Nat) (vs : List Value) : List Value :=
  List.rec (motive := fun _ => List Value → Nat → List Value) (fun cs _ => cs) (fun v _ ih cs o => ih (setL v o cs) (Nat.succ o)) vs cs o
noncomputable def writeAt (σ : St) (i o : Nat) (vs : List Value) : Option St :=
  bc (Nat.beq vs.length (nat_lit 0)) (some σ) (ob (σ.heap.get i) fun b => ob (bCells b) fun c =>
    bc c.1 none (bc (Nat.ble σ.wall i) (bc (Nat.ble (Nat.add o vs.length) c.2.2.length) (bc (allOne vs)
      (some { σ with heap := σ.heap.put i (.cells false c.2.1 (splice c.2.2 o vs)), low := bc (Nat.ble i σ.low) i σ.low }) none) none) none))
noncomputable def newBlk (σ : St) (b : Blk) : St := { σ with heap := σ.heap.put σ.next b, next := Nat.succ σ.next }
noncomputable def kill (σ : St) (i : Nat) : Option St :=
  ob (σ.heap.get i) fun b => ob (bCells b) fun c => bc c.1 none (bc (Nat.ble σ.wall i) (some { σ with heap := σ.heap.del i, low := bc (Nat.ble i σ.low) i σ.low }) none)
noncomputable def setBlk (σ : St) (i : Nat) (b : Blk) : Option St :=
  bc (Nat.ble σ.wall i) (some { σ with heap := σ.heap.put i b, low := bc (Nat.ble i σ.low) i σ.low }) none

abbrev OpRes := Option (Value × St)
noncomputable def still (σ : St) (r : Option Value) : OpRes := om r fun v => (v, σ)
noncomputable def done (r : Option St) : OpRes := om r fun s => (undef, s)

noncomputable def headOf (l : List Value) : Option Value := le l none fun v _ => some v
noncomputable def loadA (P : Program) (t : TypeId) (h : Tr Blk) (a : Value) : Option Value :=
  ob (vPtr a) fun p => ob (shapeOf P t) fun s => oe s (ob (readAt h p.1 p.2 (nat_lit 1)) headOf) fun n => om (readAt h p.1 p.2 n) fun cs => .agg ⟨cs⟩
noncomputable def storeA (P : Program) (t : TypeId) (a v : Value) (σ : St) : Option St :=
  ob (vPtr a) fun p => ob (sz P t) fun n => bc (Nat.beq (vcells v).length n) (writeAt σ p.1 p.2 (vcells v)) none
noncomputable def allocA (z : Nat) (cs : List Value) (σ : St) : OpRes :=
  bc (allOne cs) (some (.pointer (some ⟨σ.next, 0, none⟩), newBlk σ (.cells false z cs))) none

/-! ### Operations without memory -/
noncomputable def flatOnly (r : Option Value) : Option Value := ob r fun v => bc (isFlat v) (some v) none
noncomputable def ltI (x y : Int) : Bool :=
  Int.rec (motive := fun _ => Bool) (fun a => Int.rec (motive := fun _ => Bool) (fun b => Nat.ble (Nat.succ a) b) (fun _ => false) y) (fun a => Int.rec (motive := fun _ => Bool) (fun _ => true) (fun b => Nat.ble (Nat.succ b) a) y) x
noncomputable def leI (x y : Int) : Bool :=
  Int.rec (motive := fun _ => Bool) (fun a => Int.rec (motive := fun _ => Bool) (fun b => Nat.ble a b) (fun _ => false) y) (fun a => Int.rec (motive := fun _ => Bool) (fun _ => true) (fun b => Nat.ble b a) y) x
noncomputable def eqI (x y : Int) : Bool :=
  Int.rec (motive := fun _ => Bool) (fun a => Int.rec (motive := fun _ => Bool) (fun b => Nat.beq a b) (fun _ => false) y) (fun a => Int.rec (motive := fun _ => Bool) (fun _ => false) (fun b => Nat.beq a b) y) x
noncomputable def wrap64I (n : Int) : Int :=
  Int.rec (motive := fun _ => Int) (fun m => bc (Nat.ble m (nat_lit 9223372036854775807)) (Int.ofNat m) (IntKind.wrap .i64 (Int.ofNat m))) (fun m => bc (Nat.ble m (nat_lit 9223372036854775807)) (Int.negSucc m) (IntKind.wrap .i64 (Int.negSucc m))) n
noncomputable def wrapI (k : IntKind) (n : Int) : Int :=
  IntKind.rec (motive := fun _ => Int → Int) (IntKind.wrap .i8) (IntKind.wrap .i16) (IntKind.wrap .i32) wrap64I (IntKind.wrap .u8) (IntKind.wrap .u16) (IntKind.wrap .u32) (IntKind.wrap .u64) k n
noncomputable def intBin (op : BinOp) : IntKind → Int → Int → Option Value :=
  match op with
  | .add => fun k x y => some (.int k (wrapI k (Int.add x y)))
  | .sub => fun k x y => some (.int k (wrapI k (Int.sub x y)))
  | .mul => fun k x y => some (.int k (wrapI k (Int.mul x y)))
  | .quo => fun k x y => bc (eqI y 0) none (some (.int k (wrapI k (Int.tdiv x y))))
  | .rem => fun k x y => bc (eqI y 0) none (some (.int k (Int.tmod x y)))
  | .eql => fun _ x y => some (.bool (eqI x y))
  | .neq => fun _ x y => some (.bool (bc (eqI x y) false true))
  | .lss => fun _ x y => some (.bool (ltI x y))
  | .leq => fun _ x y => some (.bool (leI x y))
  | .gtr => fun _ x y => some (.bool (ltI y x))
  | .geq => fun _ x y => some (.bool (leI y x))
  | _ => fun _ _ _ => none
/-- An integer from 0 to below a number. -/
noncomputable def natBelow (k : Int) (n : Nat) : Option Nat := Int.rec (motive := fun _ => Option Nat) (fun m => bc (Nat.ble (Nat.succ m) n) (some m) none) (fun _ => none) k
noncomputable def natUpto (k : Int) (n : Nat) : Option Nat := Int.rec (motive := fun _ => Option Nat) (fun m => bc (Nat.ble m n) (some m) none) (fun _ => none) k
noncomputable def sameKind (a b : IntKind) : Bool := Nat.beq (IntKind.rec (motive := fun _ => Nat) (nat_lit 0) (nat_lit 1) (nat_lit 2) (nat_lit 3) (nat_lit 4) (nat_lit 5) (nat_lit 6) (nat_lit 7) a) (IntKind.rec (motive := fun _ => Nat) (nat_lit 0) (nat_lit 1) (nat_lit 2) (nat_lit 3) (nat_lit 4) (nat_lit 5) (nat_lit 6) (nat_lit 7) b)
def isBits (op : BinOp) : Bool := match op with
  | .shl | .shr | .and | .or | .xor | .andNot => true
  | _ => false
def isCmpEq (op : BinOp) : Option Bool := match op with
  | .eql => some true
  | .neq => some false
  | _ => none
noncomputable def nilCmp (P : Program) (op : BinOp) (xt : TypeId) (p q : SliceV) : Option Value :=
  ob (isCmpEq op) fun e => oe (sliceT P xt) none fun _ => oe p.base (some (.bool (bc e (q.base.isNone) (q.base.isSome)))) fun _ => oe q.base (some (.bool (bc e false true))) fun _ => none
noncomputable def otherBin (P : Program) (op : BinOp) (xt : TypeId) (x y : Operand) (a b : Value) : Option Value :=
  bc (bc (isFlat a) (isFlat b) false) (flatOnly (prun P (do eqGuard op xt x y a b; binOp op xt a b))) none
noncomputable def partA (P : Program) (t : TypeId) (cs : List Value) (off : Nat) : Option Value :=
  ob (shapeOf P t) fun s => oe s (headOf (dropL off cs)) fun n => some (.agg ⟨takeL n (dropL off cs)⟩)
noncomputable def partE (P : Program) (t : TypeId) (cs : List Value) (off : Nat) : Option Value :=
  bc (isFlat (.agg ⟨cs⟩)) (ob (partA P t cs off) fun v => bc (isFlat v) (some v) none) none
/-- Items in turn, until two differ. -/
noncomputable def eqItemsA (f : Value → Value → Option Bool) (p q : Nat → Option Value) (is : List Nat) : Option Bool :=
  List.rec (motive := fun _ => Option Bool) (some true) (fun i _ ih => ob (p i) fun a => ob (q i) fun b => ob (f a b) fun r => bc r ih (some false)) is
noncomputable def eqFieldsA (f : TypeId → Value → Value → Option Bool) (p q : Field → Option Value) (fs : List Field) : Option Bool :=
  List.rec (motive := fun _ => Option Bool) (some true) (fun i _ ih => bc (i.name != "_") (ob (p i) fun a => ob (q i) fun b => ob (f i.type a b) fun r => bc r ih (some false)) none) fs
/-- Whether two values of a type are equal: bools, integers, and arrays and structs of such. -/
noncomputable def eqT (P : Program) (d : Nat) : TypeId → Value → Value → Option Bool :=
  Nat.rec (motive := fun _ => TypeId → Value → Value → Option Bool) (fun _ _ _ => none) (fun _ ih t x y => match und P t with
    | some .bool => ob (vBool x) fun a => ob (vBool y) fun b => some (bc a b (!b))
    | some (.int _) => ob (vInt x) fun a => ob (vInt y) fun b => bc (sameKind a.1 b.1) (some (eqI a.2 b.2)) none
    | some (.array n e) => ob (vAgg x) fun xs => ob (vAgg y) fun ys => ob (sz P e) fun s => eqItemsA (ih e) (fun i => partE P e xs (i * s)) (fun i => partE P e ys (i * s)) (List.range n)
    | some (.struct fs) => ob (vAgg x) fun xs => ob (vAgg y) fun ys => bc (P.stoodInHeld t) none (eqFieldsA ih (fun f => partE P f.type xs f.offset) (fun f => partE P f.type ys f.offset) fs.toList)
    | _ => none) d
noncomputable def aggBin (P : Program) (op : BinOp) (xt : TypeId) (a b : Value) : Option Value :=
  ob (isCmpEq op) fun e => ob (vAgg a) fun _ => ob (vAgg b) fun _ => bc (bc (isFlat a) (isFlat b) false) (bc (P.eqGuardType P.depth xt) none (om (eqT P (nat_lit 40) xt a b) fun r => .bool (bc e r (!r)))) none
noncomputable def binA (P : Program) (op : BinOp) (xt : TypeId) (x y : Operand) (a b : Value) : Option Value :=
  oe (vInt a) (oe (vSlice a) (oe (vAgg a) (otherBin P op xt x y a b) fun _ => aggBin P op xt a b) fun p => ob (vSlice b) fun q => nilCmp P op xt p q) fun m =>
    ob (vInt b) fun n => bc (isBits op) (flatOnly (prun P (binOp op xt a b))) (bc (sameKind m.1 n.1) (intBin op m.1 m.2 n.2) none)
noncomputable def unA (op : UnOp) (P : Program) (a : Value) : Option Value :=
  oe (vBool a) (bc (isFlat a) (flatOnly (prun P (Op.unary op a))) none) fun b => match op with
    | .not => some (.bool !b)
    | _ => none
noncomputable def fieldA (P : Program) (t : TypeId) (x : Value) (f : Nat) : Option Value :=
  ob (fieldT P t f) fun d => ob (vAgg x) fun cs => partA P d.2 cs d.1
noncomputable def indexA (P : Program) (t : TypeId) (x ix : Value) : Option Value :=
  ob (vInt ix) fun k => oe (arrayT P t)
    (bc (isStringT P t) (ob (vStr x) fun s => if 0 ≤ k.2 then om (s[k.2.toNat]?) fun b => .int .u8 b.toNat else none) none)
    fun a => ob (vAgg x) fun cs => ob (natBelow k.2 a.1) fun m => partA P a.2.2 cs (m * a.2.1)
noncomputable def fieldAddrA (P : Program) (t : TypeId) (x : Value) (f : Nat) : Option Value :=
  ob (fieldOff P t f) fun off => om (vPtr x) fun p => .pointer (some ⟨p.1, Nat.add p.2 off, none⟩)
noncomputable def stepAddr (p : Nat × Nat) (k : Int) (len size : Nat) : Option Value :=
  om (natBelow k len) fun m => .pointer (some ⟨p.1, Nat.add p.2 (Nat.mul m size), none⟩)
noncomputable def indexAddrA (P : Program) (t : TypeId) (x ix : Value) : Option Value :=
  ob (vInt ix) fun k => oe (arrayT P t)
    (ob (sliceT P t) fun s => ob (vSlice x) fun v => ob v.base fun p => stepAddr p k.2 v.len s.size)
    fun a => ob (vPtr x) fun p => stepAddr p k.2 a.1 a.2.1
/-- A bound of a slice expression. -/
noncomputable def boundA (v : Option Value) (deflt most : Nat) : Option Nat :=
  oe v (some deflt) fun x => ob (vInt x) fun k => natUpto k.2 most
noncomputable def cutA (size i o len cap : Nat) (exact : Bool) (lo hi mx : Option Value) : Option Value :=
  oe mx
    (ob (boundA hi len cap) fun h => ob (boundA lo 0 h) fun l =>
      some (.slice (some ⟨i, bc exact (bc (Nat.beq cap l) o (o + l * size)) (o + l * size), none⟩) (h - l) (bc exact (cap - l + 1) 0)))
    fun m => bc hi.isNone none (ob (boundA (some m) 0 cap) fun m => ob (boundA hi len m) fun h => ob (boundA lo 0 h) fun l =>
      some (.slice (some ⟨i, bc (Nat.beq m l) o (o + l * size), none⟩) (h - l) (m - l + 1)))
noncomputable def sliceStr (s : ByteArray) (lo hi mx : Option Value) : Option Value :=
  bc mx.isNone (ob (boundA hi s.size s.size) fun h => ob (boundA lo 0 h) fun l => some (.string (s.extract l h))) none
/-- A slice whose spare room is open is cut where its block's elements have the type's size. -/
noncomputable def sameZ (h : Tr Blk) (i size : Nat) : Bool := oe (h.get i) false fun b => oe (bCells b) false fun c => Nat.beq c.2.1 size
noncomputable def sliceSl (h : Tr Blk) (size : Nat) (v : SliceV) (lo hi mx : Option Value) : Option Value :=
  oe v.base
    (bc (bc mx.isNone true (bc hi.isNone false true)) (ob (boundA mx 0 0) fun _ => ob (boundA hi 0 0) fun _ => ob (boundA lo 0 0) fun _ => some (.slice none 0 0)) none)
    fun p => ne v.cap (bc mx.isNone (bc (sameZ h p.1 size) (cutA size p.1 p.2 v.len v.len false lo hi mx) none) (bc (Nat.beq v.len 0) none (cutA size p.1 p.2 v.len v.len true lo hi mx))) fun c => cutA size p.1 p.2 v.len c true lo hi mx
noncomputable def sliceA (P : Program) (h : Tr Blk) (t : TypeId) (x : Value) (lo hi mx : Option Value) : Option Value :=
  bc (isStringT P t) (ob (vStr x) fun s => sliceStr s lo hi mx)
    (oe (arrayT P t) (ob (sliceT P t) fun s => ob (vSlice x) fun v => sliceSl h s.size v lo hi mx)
      fun a => ob (vPtr x) fun p => cutA a.2.1 p.1 p.2 a.1 a.1 true lo hi mx)
noncomputable def fillA (place : Nat → Option (Nat × Nat)) (parts : List (Nat × Value)) (cells : List Value) : Option (List Value) :=
  List.rec (motive := fun _ => List Value → Option (List Value)) (fun cells => some cells)
    (fun p _ ih cells => ob (place p.1) fun q =>
      bc (allOne (vcells p.2)) (bc (Nat.beq (vcells p.2).length q.2) (bc (Nat.ble (Nat.add q.1 (vcells p.2).length) cells.length) (ih (splice cells q.1 (vcells p.2))) none) none) none) parts cells
noncomputable def buildA (P : Program) (t : TypeId) (parts : List (Nat × Value)) : Option Value :=
  ob (buildT P t) fun b => om (fillA b.2 parts b.1) fun cs => .agg ⟨cs⟩
def zerosA (z : List Value) (n : Nat) : List Value := (List.range (n * z.length)).map fun i => z.getD (i % z.length) undef
noncomputable def buildSliceA (P : Program) (t : TypeId) (len : Nat) (parts : List (Nat × Value)) (σ : St) : OpRes :=
  ob (sliceT P t) fun s => bc (Nat.ble (len * s.size) (2 ^ 24))
    (ob (fillA (fun i => some (i * s.size, s.size)) parts (zerosA s.zero len)) fun cs =>
      bc (allOne cs) (bc (Nat.beq s.zero.length s.size) (some (.slice (some ⟨σ.next, 0, none⟩) len (len + 1), newBlk σ (.cells false s.size cs))) none) none) none
noncomputable def makeSliceA (P : Program) (t : TypeId) (len cap : Value) (σ : St) : OpRes :=
  ob (sliceT P t) fun s => ob (vInt len) fun l => ob (vInt cap) fun c =>
    if 0 ≤ l.2 ∧ l.2 ≤ c.2 ∧ s.bytes * c.2 ≤ 2 ^ 47 ∧ c.2 < 2 ^ 62 ∧ s.zero.length = s.size then
      bc (allOne s.zero) (some (.slice (some ⟨σ.next, 0, none⟩) l.2.toNat (c.2.toNat + 1), newBlk σ (.cells false s.size (zerosA s.zero c.2.toNat)))) none
    else none
noncomputable def byteVals (s : ByteArray) : List Value := s.data.toList.map fun b => .int .u8 b.toNat
noncomputable def convA (P : Program) (src dst : TypeId) (x : Value) (σ : St) : OpRes :=
  bc (bc (isStringT P src) (oe (sliceT P dst) false fun _ => true) false)
    (ob (sliceT P dst) fun d => match und P d.elem with
      | some (.int .u8) => ob (vStr x) fun s => bc (Nat.ble s.size (2 ^ 47)) (some (.slice (some ⟨σ.next, 0, none⟩) s.size 0, newBlk σ (.cells true 1 (byteVals s)))) none
      | _ => none)
    (bc (isFlat x) (still σ (flatOnly (prun P (convert src dst x)))) none)

/-! ### Builtins -/
noncomputable def lenOf (P : Program) (t : TypeId) (x : Value) (h : Tr Blk) : Option Value :=
  oe (arrayT P t)
    (oe (vSlice x)
      (oe (vStr x)
        (ob (mapT P t) fun _ => ob (vMap x) fun r => oe r (some (goInt 0)) fun i => ob (h.get i) fun b => om (bMap b) fun es => goInt es.length)
        fun s => bc (isStringT P t) (some (goInt s.size)) none)
      fun v => om (sliceT P t) fun _ => goInt v.len)
    fun a => some (goInt a.1)
/-- The first n elements' cells of what is appended or copied. -/
noncomputable def srcCells (size n : Nat) (x : Value) (h : Tr Blk) : Option (List Value) :=
  oe (vSlice x) (om (vStr x) fun s => takeL n (byteVals s)) fun v => oe v.base (some []) fun p => readAt h p.1 p.2 (n * size)
noncomputable def srcLen (x : Value) : Option Nat := oe (vSlice x) (om (vStr x) fun s => s.size) fun v => some v.len
noncomputable def freshRow (size n : Nat) (cs : List Value) (σ : St) : Value × St := (.slice (some ⟨σ.next, 0, none⟩) n 0, newBlk σ (.cells false size cs))
noncomputable def appendTo (size b : Nat) (v : SliceV) (new : List Value) (n : Nat) (σ : St) : OpRes :=
  bc (Nat.ble ((v.len + n) * (b + 1)) (2 ^ 46)) (bc (Nat.ble 1 size) (bc (allOne new) (bc (Nat.beq new.length (n * size))
    (oe v.base (some (freshRow size n new σ)) fun p =>
      ne v.cap
        (ob (σ.heap.get p.1) fun bl => ob (bCells bl) fun c => bc (Nat.beq c.2.1 size)
          (ob (readAt σ.heap p.1 p.2 (v.len * size)) fun old => ob (kill σ p.1) fun σ => some (freshRow size (v.len + n) (old ++ new) σ)) none)
        fun c => bc (Nat.ble (v.len + n) c)
          (om (writeAt σ p.1 (p.2 + v.len * size) new) fun σ => (.slice (some ⟨p.1, p.2, none⟩) (v.len + n) (c + 1), σ))
          (ob (readAt σ.heap p.1 p.2 (v.len * size)) fun old => some (freshRow size (v.len + n) (old ++ new) σ))) none) none) none) none
noncomputable def appendZ (s : SliceT) (v : SliceV) (sv : Value) (l : Int) (σ : St) : OpRes :=
  if 0 ≤ l ∧ l * s.bytes ≤ 2 ^ 46 ∧ l < 2 ^ 46 ∧ s.zero.length = s.size then
    ne l.toNat (some (sv, σ)) fun n => appendTo s.size s.bytes v (zerosA s.zero (n + 1)) (n + 1) σ
  else none
noncomputable def appendA (P : Program) (st xt : TypeId) (sv x : Value) (σ : St) : OpRes :=
  ob (sliceT P st) fun s => ob (vSlice sv) fun v => bc (isIntT P xt)
    (ob (vInt x) fun l => appendZ s v sv l.2 σ)
    (ob (und P xt) fun _ => ob (srcLen x) fun n => ne n (some (sv, σ)) fun n =>
      ob (srcCells s.size (n + 1) x σ.heap) fun new => appendTo s.size s.bytes v new (n + 1) σ)
noncomputable def copyA (P : Program) (dt : TypeId) (d x : Value) (σ : St) : OpRes :=
  ob (sliceT P dt) fun s => ob (vSlice d) fun v => ob (srcLen x) fun m => ob (srcCells s.size (Nat.min m v.len) x σ.heap) fun cs =>
    oe v.base (some (goInt (Nat.min m v.len), σ)) fun p => om (writeAt σ p.1 p.2 cs) fun σ => (goInt (Nat.min m v.len), σ)
noncomputable def clearA (P : Program) (t : TypeId) (x : Value) (σ : St) : OpRes :=
  ob (sliceT P t) fun s => ob (vSlice x) fun v => oe v.base (some (undef, σ)) fun p =>
    bc (Nat.beq v.len 0) (some (undef, σ)) (bc (Nat.beq s.zero.length s.size) (done (writeAt σ p.1 p.2 (zerosA s.zero v.len))) none)
noncomputable def capA (P : Program) (t : TypeId) (x : Value) : Option Value :=
  ob (sliceT P t) fun _ => ob (vSlice x) fun v => oe v.base (some (goInt 0)) fun _ => ne v.cap none fun c => some (goInt c)
noncomputable def arg1 {α : Type} (l : List α) (f : α → OpRes) : OpRes := le l none fun a _ => f a
noncomputable def arg2 {α : Type} (l : List α) (f : α → α → OpRes) : OpRes := le l none fun a r => le r none fun b _ => f a b
noncomputable def pureA (σ : St) (P : Program) (f : Array Value → Sem Value) (args : List Value) : OpRes :=
  bc (allFlat args) (still σ (flatOnly (prun P (f args.toArray)))) none
abbrev BuiltF := Program → List TypeId → TypeId → List Value → St → OpRes
noncomputable def bLen : BuiltF := fun P ts _ args σ => arg1 ts fun t => arg1 args fun x => still σ (lenOf P t x σ.heap)
noncomputable def bCap : BuiltF := fun P ts _ args σ => arg1 ts fun t => arg1 args fun x => still σ (capA P t x)
noncomputable def bAppend : BuiltF := fun P ts _ args σ => arg2 ts fun t u => arg2 args fun s x => appendA P t u s x σ
noncomputable def bCopy : BuiltF := fun P ts _ args σ => arg1 ts fun t => arg2 args fun d x => copyA P t d x σ
noncomputable def bClear : BuiltF := fun P ts _ args σ => arg1 ts fun t => arg1 args fun x => clearA P t x σ
noncomputable def bMin : BuiltF := fun P ts ty args σ => pureA σ P (Builtin.min_ ts.toArray ty) args
noncomputable def bMax : BuiltF := fun P ts ty args σ => pureA σ P (Builtin.max_ ts.toArray ty) args
noncomputable def bNone : BuiltF := fun _ _ _ _ _ => none
noncomputable def builtinA (b : Builtin) : BuiltF :=
  match b with
  | .len => bLen
  | .cap => bCap
  | .append => bAppend
  | .copy => bCopy
  | .clear => bClear
  | .min => bMin
  | .max => bMax
  | _ => bNone

/-! ### Maps -/
def entry0 (p : Value × Value) : MapEntry := { key := p.1, val := p.2, born := 0 }
noncomputable def findA (P : Program) (kt : TypeId) (k : Value) (es : List (Value × Value)) (empty : Bool) : Option (Option (Nat × Value)) :=
  bc (isFlat k) (prun P (do Instr.checkKey empty 10000 kt k; Instr.findKey kt k (es.map entry0))) none
noncomputable def mapOf (h : Tr Blk) (m : Value) : Option (List (Value × Value)) :=
  ob (vMap m) fun r => oe r (some []) fun i => ob (h.get i) bMap
noncomputable def lookupA (P : Program) (t : TypeId) (m k : Value) (ok : Bool) (h : Tr Blk) : Option Value :=
  ob (mapT P t) fun q => ob (mapOf h m) fun es => ob (findA P q.1 k es es.isEmpty) fun r =>
    om (oe r (om (zro P q.2) fun z => (z, false)) fun p => some (p.2, true)) fun p => bc ok (.tuple #[p.1, .bool p.2]) p.1
noncomputable def mapUpdateA (P : Program) (t : TypeId) (m k v : Value) (σ : St) : Option St :=
  ob (mapT P t) fun q => ob (vMap m) fun r => ob r fun i => ob (σ.heap.get i) fun b => ob (bMap b) fun es => ob (findA P q.1 k es false) fun w =>
    oe w (setBlk σ i (.map (es ++ [(k, v)]))) fun p =>
      bc (Instr.sameBits 10000 (oe (es[p.1]?) k fun e => e.1) k) (setBlk σ i (.map (es.set p.1 (k, v)))) none

/-! ### One operation -/
abbrev OpF := Program → TypeId → Rho → St → OpRes
noncomputable def opNone : OpF := fun _ _ _ _ => none
noncomputable def opMove (x : Operand) : OpF := fun _ _ ρ σ => some (ρ x, σ)
noncomputable def opPick (c a b : Operand) : OpF := fun _ _ ρ σ => om (vBool (ρ c)) fun q => (bc q (ρ a) (ρ b), σ)
noncomputable def opAlloc (e : TypeId) : OpF := fun P _ _ σ => ob (zro P e) fun z => allocA 0 (vcells z) σ
noncomputable def opBox (_ : TypeId) (x : Operand) : OpF := fun _ _ ρ σ => allocA 0 (vcells (ρ x)) σ
noncomputable def partsA (ρ : Rho) (parts : Array (Nat × Operand)) : List (Nat × Value) := parts.toList.map fun p => (p.1, ρ p.2)
noncomputable def opBuild (ty : TypeId) (parts : Array (Nat × Operand)) : OpF := fun P _ ρ σ => still σ (buildA P ty (partsA ρ parts))
noncomputable def opBuildSlice (ty : TypeId) (n : Nat) (parts : Array (Nat × Operand)) : OpF := fun P _ ρ σ => buildSliceA P ty n (partsA ρ parts) σ
noncomputable def opLoad (ty : TypeId) (a : Operand) : OpF := fun P _ ρ σ => still σ (loadA P ty σ.heap (ρ a))
noncomputable def opStore (ty : TypeId) (a x : Operand) : OpF := fun P _ ρ σ => done (storeA P ty (ρ a) (ρ x) σ)
noncomputable def opNil (x : Operand) : OpF := fun _ _ ρ σ => om (vPtr (ρ x)) fun _ => (ρ x, σ)
noncomputable def opBin (op : BinOp) (xt : TypeId) (x y : Operand) (_ : TypeId) : OpF := fun P _ ρ σ => still σ (binA P op xt x y (ρ x) (ρ y))
noncomputable def opUn (op : UnOp) (_ : TypeId) (x : Operand) : OpF := fun P _ ρ σ => still σ (unA op P (ρ x))
noncomputable def opConv (s d : TypeId) (x : Operand) : OpF := fun P _ ρ σ => convA P s d (ρ x) σ
noncomputable def opToArr (ty : TypeId) (x : Operand) : OpF := fun P _ ρ σ => ob (arrayT P ty) fun a => ob (vSlice (ρ x)) fun v => ob v.base fun p =>
  bc (Nat.ble a.1 v.len) (bc (Nat.ble 1 v.len) (some (.pointer (some ⟨p.1, p.2, none⟩), σ)) none) none
noncomputable def opFunc (f : Fn) (first captured : Array Operand) : OpF := fun _ _ ρ σ => match f with
  | .func k => some (.func (.func k) ⟨first.toList.map (ρ)⟩ ⟨captured.toList.map (ρ)⟩, σ)
  | _ => none
noncomputable def opMakeMap (_ : TypeId) (r : Option Operand) : OpF := fun _ _ _ σ => bc r.isNone (some (.map (some σ.next), newBlk σ (.map []))) none
noncomputable def opMakeSlice (ty : TypeId) (l c : Operand) : OpF := fun P _ ρ σ => makeSliceA P ty (ρ l) (ρ c) σ
noncomputable def opSlice (ty : TypeId) (x : Operand) (lo hi mx : Option Operand) : OpF := fun P _ ρ σ => still σ (sliceA P σ.heap ty (ρ x) (om lo (ρ)) (om hi (ρ)) (om mx (ρ)))
noncomputable def opFieldAddr (s : TypeId) (x : Operand) (f : Nat) : OpF := fun P _ ρ σ => still σ (fieldAddrA P s (ρ x) f)
noncomputable def opField (s : TypeId) (x : Operand) (f : Nat) : OpF := fun P _ ρ σ => still σ (fieldA P s (ρ x) f)
noncomputable def opIndexAddr (ty : TypeId) (x ix : Operand) : OpF := fun P _ ρ σ => still σ (indexAddrA P ty (ρ x) (ρ ix))
noncomputable def opIndex (ty : TypeId) (x ix : Operand) : OpF := fun P _ ρ σ => still σ (indexA P ty (ρ x) (ρ ix))
noncomputable def opLookup (ty : TypeId) (x k : Operand) (ok : Bool) : OpF := fun P _ ρ σ => still σ (lookupA P ty (ρ x) (ρ k) ok σ.heap)
noncomputable def opMapUpdate (ty : TypeId) (m k x : Operand) : OpF := fun P _ ρ σ => done (mapUpdateA P ty (ρ m) (ρ k) (ρ x) σ)
noncomputable def opExtract (x : Operand) (i : Nat) : OpF := fun _ _ ρ σ => ob (vTup (ρ x)) fun vs => still σ (headOf (dropL i vs))
noncomputable def opCall (c : Call) : OpF := fun P ty ρ σ => match c.callee with
  | .builtin b => builtinA b P c.argTypes.toList ty (c.args.toList.map (ρ)) σ
  | _ => none
/-- All but calls of functions. -/
noncomputable def opA : Op → OpF :=
  Op.rec (motive := fun _ => OpF) opMove opMove opPick opAlloc opBox opBuild opBuildSlice (fun _ _ _ _ => opNone) opLoad opStore (fun _ => opNone) (fun _ => opNone) opNil opBin opUn opConv opToArr
    (fun _ _ => opNone) opFunc opMakeMap (fun _ _ => opNone) opMakeSlice opSlice opFieldAddr opField opIndexAddr opIndex opLookup opMapUpdate (fun _ _ _ => opNone) (fun _ _ _ _ => opNone)
    (fun _ _ => opNone) (fun _ _ => opNone) (fun _ => opNone) (fun _ _ _ _ => opNone) opExtract opCall (fun _ => opNone) (fun _ => opNone) (fun _ => opNone) (fun _ _ => opNone) (fun _ _ _ => opNone) (fun _ _ => opNone)

/-- What a call of a function asks of the machine. -/
noncomputable def fnReq (fn : Fn) (args captured : List Value) (σ : St) : Option Req :=
  Fn.rec (motive := fun _ => List Value → List Value → St → Option Req) (fun k args cap σ => some (.call k (args ++ cap) σ)) (fun _ _ _ _ => none) (fun _ _ _ _ _ => none) (fun _ _ _ _ _ _ _ => none)
    (fun l args _ σ => some (.yield l args σ)) fn args captured σ
/-- The same, of a function of the program alone. -/
noncomputable def callReq (fn : Fn) (args captured : List Value) (σ : St) : Option Req :=
  Fn.rec (motive := fun _ => List Value → List Value → St → Option Req) (fun k args cap σ => some (.call k (args ++ cap) σ)) (fun _ _ _ _ => none) (fun _ _ _ _ _ => none) (fun _ _ _ _ _ _ _ => none)
    (fun _ _ _ _ => none) fn args captured σ
/-- The function value that an operation calls. -/
def calleeOf : Op → Option (Operand × List Operand)
  | .call c => match c.callee with
    | .value f => some (f, c.args.toList)
    | _ => none
  | _ => none
noncomputable def callA (rec : Rec) (ρ : Rho) (σ : St) (c : Operand × List Operand) : OpRes :=
  ob (vFunc (ρ c.1)) fun f => ob (fnReq f.1 (f.2.1.toList ++ c.2.map ρ) f.2.2.toList σ) fun q => ob (rec q) rVal
noncomputable def stepA (P : Program) (rec : Rec) (o : Oper) (ρ : Rho) (σ : St) : OpRes :=
  oe (calleeOf o.op) (opA o.op P o.type ρ σ) fun c => callA rec ρ σ c

/-! ### Regions -/
abbrev Kept := Nat → Bool
abbrev Cont := Loc → Tr Value → St → Option (Tr Value × St)
def guardOf (ops : List Oper) (o : Oper) : Option (Option Tmp × Bool) := o.guard.map fun g => ((ops[g.1]?).bind (·.dst), g.2)
/-- Nothing: what an operation that is not wanted hands on. -/
noncomputable def isUndef (v : Value) : Bool := oe (vTup v) false fun l => le l true fun _ _ => false
noncomputable def wantedA (ops : List Oper) (o : Oper) (l : Loc) (t : Tr Value) : Option Bool :=
  oe (guardOf ops o) (some true) fun g => oe g.1 (some false) fun d => oe (vBool (slot d l t)) (bc (isUndef (slot d l t)) (some false) none) fun b => some (bc b g.2 (!g.2))
noncomputable def putK (kept : Kept) (dst : Option Tmp) (v : Value) (l : Loc) (t : Tr Value) (σ : St) (k : Cont) : Option (Tr Value × St) :=
  oe dst (k l t σ) fun d => bc (kept d) (k l (t.put d v) σ) (k ((d, v) :: l) t σ)
noncomputable def oneK (P : Program) (rec : Rec) (kept : Kept) (ops : List Oper) (o : Oper) (k : Cont) : Cont := fun l t σ =>
  ob (wantedA ops o l t) fun q => bc q (ob (stepA P rec o (rho l t) σ) fun r => putK kept o.dst r.1 l t r.2 k) (putK kept o.dst undef l t σ k)
noncomputable def opsK (P : Program) (rec : Rec) (kept : Kept) (ops : List Oper) (k : Cont) (todo : List Oper) : Cont :=
  List.rec (motive := fun _ => Cont) k (fun o _ ih => oneK P rec kept ops o ih) todo
noncomputable def walled (w : Nat) (k : Cont) : Cont := fun l t σ => k l t { σ with wall := w }
/-- Operations of a region that draws which come before the tail: each on its own: it may make memory but changes none that was there. -/
noncomputable def calmK (P : Program) (rec : Rec) (kept : Kept) (ops : List Oper) (k : Cont) (todo : List (Nat × Oper)) : Cont :=
  List.rec (motive := fun _ => Cont) k (fun p _ ih l t σ => oneK P rec kept ops p.2 (walled σ.wall ih) l t { σ with wall := σ.next }) todo

/-! ### The plan of a region that draws its order -/
def Op.kindA : Op → Nat   -- 0: no memory · 1: reads · 2: makes memory · 3: writes · 4: a call
  | .move _ | .assign _ | .pick .. | .fieldAddr .. | .extract .. | .build .. | .binOp .. | .unOp .. | .field .. | .indexAddr .. | .nilCheck _ | .makeFunc .. | .index .. | .sliceToArrayPointer .. => 0
  | .call { callee := .builtin .min, .. } | .call { callee := .builtin .max, .. } => 0
  | .load .. | .lookup .. | .slice .. | .call { callee := .builtin .len, .. } | .call { callee := .builtin .cap, .. } => 1
  | .alloc _ | .box .. | .buildSlice .. | .makeSlice .. | .makeMap .. | .convert .. => 2
  | .store .. | .mapUpdate .. => 3
  | _ => 4
/-! Sets of numbers are numbers here (a bit each): the kernel reckons with those at once. -/
def bitN (n : Nat) : Nat := Nat.pow (nat_lit 2) n
noncomputable def hasBit (m n : Nat) : Bool := Nat.beq (Nat.mod (Nat.div m (bitN n)) (nat_lit 2)) (nat_lit 1)
noncomputable def apartN (a b : Nat) : Bool := Nat.beq (Nat.land a b) (nat_lit 0)
noncomputable def withinN (a b : Nat) : Bool := Nat.beq (Nat.lor a b) b
def getN (l : List Nat) (i : Nat) : Nat := match l, i with
  | [], _ => 0
  | a :: _, 0 => a
  | _ :: r, i + 1 => getN r i
noncomputable def operandBit (x : Operand) : Nat := Operand.rec (motive := fun _ => Nat) (fun t => bitN t) (fun _ => 0) (fun _ => 0) (fun _ => 0) x
noncomputable def operandsBits (l : List Operand) : Nat := List.rec (motive := fun _ => Nat) 0 (fun x _ ih => Nat.lor (operandBit x) ih) l
noncomputable def dstBit (o : Oper) : Nat := oe o.dst 0 fun d => bitN d
noncomputable def namesBits (ops : List Oper) (o : Oper) : Nat :=
  Nat.lor (dstBit o) (Nat.lor (operandsBits o.op.operands.toList) (oe (guardOf ops o) 0 fun g => oe g.1 0 fun d => bitN d))
def bindsAny (e : Edge) : Bool := match e.ground with
  | .textOnly _ | .gcOnly _ => false
  | _ => true
/-- The operations that come before one, whatever order is drawn: from its edges and those that its edges lead to ('acc': of the operations before it). -/
noncomputable def edgeBits (acc : List Nat) (l : List Edge) : Nat :=
  List.rec (motive := fun _ => Nat) 0 (fun e _ ih => bc (bindsAny e) (Nat.lor (bitN e.on) (Nat.lor (getN acc e.on) ih)) ih) l
noncomputable def predsGo (l : List Oper) (acc : List Nat) : List Nat :=
  List.rec (motive := fun _ => List Nat → List Nat) (fun acc => acc) (fun o _ ih acc => ih (acc ++ [edgeBits acc o.after.toList])) l acc
noncomputable def predsA (ops : List Oper) : List Nat := predsGo ops []
noncomputable def kindsA (ops : List Oper) : List Nat := ops.map fun o => Op.kindA o.op
/-- The numbers below n whose kind meets a test. -/
noncomputable def kindBits (f : Nat → Bool) (ks : List Nat) (n : Nat) : Nat :=
  Nat.rec (motive := fun _ => Nat) 0 (fun i ih => bc (f (getN ks i)) (Nat.lor (bitN i) ih) ih) n
noncomputable def isLoud (k : Nat) : Bool := bc (Nat.beq k (nat_lit 0)) false true
noncomputable def isRead (k : Nat) : Bool := Nat.beq k (nat_lit 1)
/-- The last operations that touch memory, as far as they come behind all others that do (a load may be open beside a store: 'racesOf'). Over the numbers below n, downward. -/
noncomputable def tailBits (ks ps : List Nat) (n : Nat) : Nat :=
  Nat.rec (motive := fun _ => Nat) 0 (fun i ih =>
    bc (isLoud (getN ks i))
      (bc (Nat.ble (nat_lit 3) (getN ks i))
        (bc (withinN (kindBits isLoud ks i) (bc (Nat.beq (getN ks i) (nat_lit 3)) (Nat.lor (getN ps i) (kindBits isRead ks i)) (getN ps i))) (Nat.lor (bitN i) ih) 0) 0) ih) n
noncomputable def slotsRow (ps : Nat) (d m : Nat) (row : List (Nat × Nat × Nat)) : Bool :=
  List.rec (motive := fun _ => Bool) true (fun q _ ih => bc (hasBit ps q.1) ih (bc (apartN q.2.1 m) (bc (apartN d q.2.2) ih false) false)) row
/-- Of two operations whose slots meet one comes before the other in every order; an edge leads back; a guard is an edge. -/
noncomputable def orderOk (ops : List Oper) (ps : List Nat) (l : List Oper) : Nat → List (Nat × Nat × Nat) → Bool :=
  List.rec (motive := fun _ => Nat → List (Nat × Nat × Nat) → Bool) (fun _ _ => true)
    (fun o _ ih i row => bc (Nat.blt (getN ps i) (bitN i)) (bc (oe o.guard true fun g => hasBit (getN ps i) g.1)
      (bc (slotsRow (getN ps i) (dstBit o) (namesBits ops o) row) (ih (Nat.succ i) ((i, dstBit o, namesBits ops o) :: row)) false) false) false) l
noncomputable def tailList (ps : List Nat) (tb n : Nat) : List Nat := (List.range n).filter fun i => hasBit tb i || !apartN (getN ps i) tb
noncomputable def racesOf (ks ps : List Nat) (i : Nat) : List Nat :=
  bc (Nat.beq (getN ks i) (nat_lit 3)) ((List.range i).filter fun j => isRead (getN ks j) && !hasBit (getN ps i) j) []
/-- No slot is written twice. -/
noncomputable def distinctA (l : List Oper) : Nat → Bool :=
  List.rec (motive := fun _ => Nat → Bool) (fun _ => true) (fun o _ ih m => bc (apartN (dstBit o) m) (ih (Nat.lor (dstBit o) m)) false) l
/-- What the plan is checked for, plainly: no operation of the first part comes behind one of the tail · of the tail each touches no memory, or writes, or calls; all before that touch memory come before it in every order, but loads beside a store; and each before the next · what a load that is open reads is written by nothing that is open. -/
noncomputable def kindOf (ks : List Nat) (i : Nat) : Nat := getN ks i
noncomputable def closedC (ps : List Nat) (c t : List Nat) : Bool := c.all fun i => t.all fun j => !hasBit (getN ps i) j
noncomputable def behindC (ks ps : List Nat) (c t : List Nat) : Bool :=
  t.all fun b => (Nat.beq (getN ks b) 0 && t.any fun d => !Nat.beq (getN ks d) 0 && hasBit (getN ps b) d) || (Nat.ble 3 (getN ks b) && c.all fun j => Nat.beq (getN ks j) 0 || hasBit (getN ps b) j || (Nat.beq (getN ks b) 3 && isRead (getN ks j) && (racesOf ks ps b).contains j))
noncomputable def chainC (ks ps : List Nat) : List Nat → Bool
  | [] => true
  | b :: r => (Nat.beq (getN ks b) 0 || r.all fun d => Nat.beq (getN ks d) 0 || hasBit (getN ps d) b) && chainC ks ps r
noncomputable def steadyC (ops : List Oper) (ks ps : List Nat) (t : List Nat) : Bool :=
  t.all fun b => (racesOf ks ps b).all fun j => (List.range ops.length).all fun a => hasBit (getN ps j) a || (oe (ops[a]?) true fun oa => oe (ops[j]?) true fun oj => apartN (dstBit oa) (operandsBits oj.op.operands.toList))
noncomputable def checkC (ops : List Oper) (ks ps : List Nat) (c t : List Nat) : Bool := closedC ps c t && behindC ks ps c t && chainC ks ps t && steadyC ops ks ps t
noncomputable def tailL (ops : List Oper) : List Nat := tailList (predsA ops) (tailBits (kindsA ops) (predsA ops) ops.length) ops.length
noncomputable def calmL (ops : List Oper) : List Nat := (List.range ops.length).filter fun i => !(tailL ops).contains i
/-- What comes first, each on its own; and the tail, in order, each with the loads that are open beside it. -/
noncomputable def planA (ops : List Oper) : Option (List Nat × List (Nat × List Nat)) :=
  bc (bc (bc (orderOk ops (predsA ops) ops 0 []) (distinctA ops 0) false) (checkC ops (kindsA ops) (predsA ops) (calmL ops) (tailL ops)) false)
    (some (calmL ops, (tailL ops).map fun i => (i, racesOf (kindsA ops) (predsA ops) i))) none
noncomputable def placeOf (ρ : Rho) : Op → Option Nat
  | .store _ a _ | .load _ a => (vPtr (ρ a)).map (·.1)
  | .mapUpdate _ m _ _ | .lookup _ m _ _ => (vMap (ρ m)).bind id
  | .slice _ x _ _ _ => ((vSlice (ρ x)).bind (·.base)).map (·.1)
  | .call { callee := .builtin .len, args, .. } => (args.toList.head?).bind fun x => (vMap (ρ x)).bind id
  | _ => none
noncomputable def raceOk (ρ : Rho) (o : Oper) (js : List Oper) : Bool :=
  js.all fun p => match placeOf ρ p.op, placeOf ρ o.op with
    | some a, some b => !Nat.beq a b
    | _, _ => true
structure TailOp where
  i : Nat
  o : Oper
  races : List Oper
noncomputable def tailK (P : Program) (rec : Rec) (kept : Kept) (ops : List Oper) (k : Cont) (todo : List TailOp) : Cont :=
  List.rec (motive := fun _ => Cont) k
    (fun p _ ih l t σ => bc (raceOk (rho l t) p.o p.races) (oneK P rec kept ops p.o ih l t σ) none) todo
noncomputable def calmOps (ops : List Oper) : Option (List (Nat × Oper)) := (planA ops).map fun p => p.1.filterMap fun i => (ops[i]?).map fun o => (i, o)
noncomputable def tailOps (ops : List Oper) : Option (List TailOp) := (planA ops).map fun p => p.2.filterMap fun q => (ops[q.1]?).map fun o => ⟨q.1, o, q.2.filterMap (ops[·]?)⟩
noncomputable def endK : Cont := fun _ t σ => some (t, σ)
noncomputable def drawK (P : Program) (rec : Rec) (kept : Kept) (ops : List Oper) (t : Tr Value) (σ : St) : Option (Tr Value × St) :=
  ob (calmOps ops) fun c => ob (tailOps ops) fun q => calmK P rec kept ops (tailK P rec kept ops endK q) c [] t σ

/-! ### Which slots are read beyond the region that writes them (a wrong answer makes the machine fail, nothing else) -/
def opReads (o : Oper) : List Tmp := o.op.operands.toList.filterMap fun | .tmp t => some t | _ => none
def regionReads : List Oper → List Tmp → List Tmp
  | [], _ => []
  | o :: r, seen => (opReads o).filter (!seen.contains ·) ++ regionReads r (o.dst.toList ++ seen)
def operandTmp : Operand → List Tmp
  | .tmp t => [t]
  | _ => []
def codeReads : Code → List Tmp
  | .region _ ops _ => regionReads ops.toList []
  | .seq a b => codeReads a ++ codeReads b
  | .cond c a b => operandTmp c ++ codeReads a ++ codeReads b
  | .block _ c | .loop c | .scope c => codeReads c
  | .rangeFunc f _ a b => operandTmp f ++ codeReads a ++ codeReads b
  | _ => []
def resultReads : List ResultVar → List Tmp
  | [] => []
  | .tmp t :: r => t :: resultReads r
  | .cell a _ :: r => a :: resultReads r
def fnOf (P : Program) (k : FuncId) : Option Func := P.funcs[k]?
def keptList (P : Program) (k : FuncId) : List Tmp :=
  match fnOf P k with
  | some fn => (resultReads fn.results.toList ++ (match fn.body with | some c => codeReads c | none => [])).eraseDups
  | none => []
def keptIn (P : Program) (k : FuncId) (d : Tmp) : Bool := (keptList P k).contains d

/-! ### Code -/
noncomputable def setTmps (kept : Kept) (l : List (Tmp × Value)) (t : Tr Value) : Tr Value :=
  List.rec (motive := fun _ => Tr Value → Tr Value) (fun t => t) (fun p _ ih t => ih (bc (kept p.1) (t.put p.1 p.2) t)) l t
noncomputable def argTmps (kept : Kept) (l : List Value) : Nat → Tr Value → Tr Value :=
  List.rec (motive := fun _ => Nat → Tr Value → Tr Value) (fun _ t => t) (fun v _ ih i t => ih (Nat.succ i) (bc (kept i) (t.put i v) t)) l
noncomputable def enterA (kept : Kept) (fr : Fr) (params : List Tmp) (assign body : Code) : Option (Nat × St) :=
  oe fr.rnd (some (Nat.succ fr.σ.next, newBlk (newBlk fr.σ .defer) (.loop .ready none kept fr.fn fr.t params assign body fr.σ.next)))
    fun l => ob (fr.σ.heap.get l) fun b => ob (bLoop b) fun lb => some (fr.σ.next, newBlk fr.σ (.loop .ready none kept fr.fn fr.t params assign body lb.defers))
def notBusy : LoopState → Bool
  | .busy => false
  | _ => true
def isReady : LoopState → Bool
  | .ready => true
  | _ => false
noncomputable def leaveA (l : Nat) (σ : St) : Option (Option Code × St) :=
  ob (σ.heap.get l) fun b => ob (bLoop b) fun lb => bc (notBusy lb.st) (om (setBlk σ l ({ lb with st := .exhausted } : LoopB).blk) fun s => (lb.pend, s)) none
abbrev ExRes := Option (Exit × Fr)
def jumpExit : Option Code → Option Exit
  | none => some .normal
  | some .ret => some .ret
  | some (.exit id) => some (.exit id)
  | _ => none
abbrev Ex := Kept → Fr → ExRes
noncomputable def exNone : Ex := fun _ _ => none
noncomputable def exNorm : Ex := fun _ fr => some (.normal, fr)
noncomputable def exThen (next : Ex) (kept : Kept) (e : Exit) (fr : Fr) : ExRes :=
  Exit.rec (motive := fun _ => Ex → Kept → Fr → ExRes) (fun next kept fr => next kept fr) (fun id _ _ fr => some (.exit id, fr)) (fun _ _ _ _ => none) (fun _ _ fr => some (.ret, fr)) (fun _ _ _ _ => none) (fun _ _ _ => none) e next kept fr
noncomputable def exBlock (id : Nat) (e : Exit) (fr : Fr) : ExRes :=
  Exit.rec (motive := fun _ => Nat → Fr → ExRes) (fun _ fr => some (.normal, fr)) (fun j id fr => bc (Nat.beq j id) (some (.normal, fr)) (some (.exit j, fr))) (fun _ _ _ => none) (fun _ fr => some (.ret, fr)) (fun _ _ _ => none) (fun _ _ => none) e id fr
noncomputable def exRegion (P : Program) (rec : Rec) (_ : Nat) (ops : Array Oper) (draw : Bool) : Ex := fun kept fr =>
  om (bc draw (drawK P rec kept ops.toList fr.t fr.σ) (opsK P rec kept ops.toList endK ops.toList [] fr.t fr.σ)) fun r => (.normal, { fr with t := r.1, σ := r.2 })
noncomputable def exSeq (_ _ : Code) (ea eb : Ex) : Ex := fun kept fr => ob (ea kept fr) fun r => exThen eb kept r.1 r.2
noncomputable def exCond (c : Operand) (_ _ : Code) (ea eb : Ex) : Ex := fun kept fr => ob (vBool (rho [] fr.t c)) fun q => bc q (ea kept fr) (eb kept fr)
noncomputable def exBlk (id : Nat) (_ : Code) (e : Ex) : Ex := fun kept fr => ob (e kept fr) fun r => exBlock id r.1 r.2
noncomputable def exLoop (rec : Rec) (c : Code) (_ : Ex) : Ex := fun kept fr => ob (rec (.loop c kept fr)) rEx
noncomputable def exRange (rec : Rec) (f : Operand) (params : Array Tmp) (assign body : Code) (_ _ : Ex) : Ex := fun kept fr =>
  ob (vFunc (rho [] fr.t f)) fun g => ob (enterA kept fr params.toList assign body) fun l =>
    ob (callReq g.1 (g.2.1.toList ++ [.func (.yield l.1) #[] #[]]) g.2.2.toList l.2) fun q => ob (rec q) fun r => ob (rVal r) fun r => ob (leaveA l.1 r.2) fun j =>
      om (jumpExit j.1) fun e => (e, { fr with σ := j.2, ds := oe fr.rnd (fr.σ.next :: fr.ds) fun _ => fr.ds })
noncomputable def execA (P : Program) (rec : Rec) (c : Code) : Ex :=
  Code.rec (motive := fun _ => Ex) exNorm (exRegion P rec) exSeq exCond exBlk (exLoop rec) (exRange rec) (fun id _ fr => some (.exit id, fr)) (fun _ _ => exNone) (fun _ => exNorm) (fun _ => exNone) (fun _ fr => some (.ret, fr)) (fun _ => exNone) c

noncomputable def resultA (P : Program) (t : Tr Value) (h : Tr Blk) : ResultVar → Option Value
  | .tmp i => some (slot i [] t)
  | .cell a ty => loadA P ty h (slot a [] t)
noncomputable def resultsA (P : Program) (rs : List ResultVar) (t : Tr Value) (h : Tr Blk) : Option (List Value) :=
  List.rec (motive := fun _ => Option (List Value)) (some []) (fun r _ ih => ob (resultA P t h r) fun v => om ih fun l => v :: l) rs
noncomputable def tupled (vs : List Value) : Value := le vs undef fun v r => le r v fun _ _ => .tuple ⟨vs⟩
/-- What a caller sees: a call that wrote to nothing that was there, and hands back plain data, leaves the memory as it was. -/
noncomputable def afterA (σ : St) (v : Value) (σ1 : St) : St :=
  bc (Nat.ble σ.next σ1.low) (bc (isFlat v) σ { σ1 with low := σ.low }) { σ1 with low := bc (Nat.ble σ.low σ1.low) σ.low σ1.low }
def tmps0 : Tr Value := Tr.mk 3
/-- Slots filled ahead: so a frame's slots lie in one order, whatever was written first. -/
noncomputable def preT (l : List Tmp) : Tr Value := List.rec (motive := fun _ => Tr Value) tmps0 (fun d _ ih => ih.put d poison) l
abbrev Tab := FuncId → List Value → St → Option (Value × St)
/-- The blocks for deferred calls, of none of which anything came, are given up. -/
noncomputable def dropDs (l : List Nat) : St → Option St :=
  List.rec (motive := fun _ => St → Option St) (fun σ => some σ)
    (fun d _ ih σ => ob (σ.heap.get d) fun b => bc (Blk.rec (motive := fun _ => Bool) (fun _ _ _ => false) (fun _ => false) (fun _ _ _ _ _ _ _ _ _ => false) true b)
      (bc (Nat.ble σ.wall d) (ih { σ with heap := σ.heap.del d, low := bc (Nat.ble d σ.low) d σ.low }) none) none) l
noncomputable def exEnd (P : Program) (σ : St) (rs : List ResultVar) (e : Exit) (fr : Fr) : Option Res :=
  bc (Exit.rec (motive := fun _ => Bool) true (fun _ => false) (fun _ => false) true (fun _ => false) false e)
    (ob (dropDs fr.ds fr.σ) fun σ1 => om (resultsA P rs fr.t σ1.heap) fun vs => .val (tupled vs) (afterA σ (tupled vs) σ1)) none
/-- No slot that a code writes lies beyond the frame. -/
def opsFit (n : Nat) (l : List Oper) : Bool := l.all fun o => match o.dst with | some d => Nat.blt d n | none => true
def codeFits (n : Nat) : Code → Bool
  | .region _ ops _ => opsFit n ops.toList
  | .seq a b | .cond _ a b => codeFits n a && codeFits n b
  | .block _ c | .loop c | .scope c => codeFits n c
  | .rangeFunc _ ps a b => ps.toList.all (Nat.blt · n) && codeFits n a && codeFits n b
  | _ => true
def fitsFn (P : Program) (k : FuncId) : Bool := match fnOf P k with
  | some fn => (match fn.body with | some c => codeFits fn.ntmps c | none => false) && !(fn.name == "runtime.NumGoroutine")
  | none => false
noncomputable def callBody (P : Program) (rec : Rec) (k : FuncId) (args : List Value) (σ : St) (fn : Func) : Option Res :=
  ob fn.body fun c => bc (bc (Nat.ble args.length fn.ntmps) (fitsFn P k) false)
    (ob (execA P rec c (keptIn P k) { t := argTmps (keptIn P k) args 0 (preT (keptList P k)), σ := { σ with low := σ.next }, fn := k, rnd := none, ds := [] }) fun r => exEnd P σ fn.results.toList r.1 r.2) none
noncomputable def doCall (P : Program) (Γ : Tab) (rec : Rec) (k : FuncId) (args : List Value) (σ : St) : Option Res :=
  oe (Γ k args σ) (ob (fnOf P k) fun fn => callBody P rec k args σ fn) fun r => some (.val r.1 r.2)
noncomputable def endRoundA (l : Nat) (e : Exit) (fr : Fr) : Option Res :=
  ob (fr.σ.heap.get l) fun b => ob (bLoop b) fun lb =>
    Exit.rec (motive := fun _ => Option Res)
      (om (setBlk fr.σ l ({ lb with st := .ready, pend := none } : LoopB).blk) fun σ => .val (.bool true) σ)
      (fun id => om (setBlk fr.σ l ({ lb with st := .done, pend := some (.exit id) } : LoopB).blk) fun σ => .val (.bool false) σ)
      (fun _ => none)
      (om (setBlk fr.σ l ({ lb with st := .done, pend := some .ret } : LoopB).blk) fun σ => .val (.bool false) σ)
      (fun _ => none) none e
noncomputable def bodyRoundA (P : Program) (rec : Rec) (l : Nat) (kept : Kept) (body : Code) (e : Exit) (fr : Fr) : Option Res :=
  bc (Exit.rec (motive := fun _ => Bool) true (fun _ => false) (fun _ => false) false (fun _ => false) false e)
    (ob (fr.σ.heap.get l) fun b => ob (bLoop b) fun lb => bc (isReady lb.st)
      (ob (setBlk fr.σ l ({ lb with st := .busy } : LoopB).blk) fun σ => ob (execA P rec body kept { fr with σ := σ }) fun r => endRoundA l r.1 r.2) none) none
noncomputable def roundA (P : Program) (rec : Rec) (l : Nat) (args : List Value) (σ : St) (kept : Kept) (fn : FuncId) (t : Tr Value) (params : List Tmp) (assign body : Code) : Option Res :=
  bc (Nat.beq args.length params.length)
    (ob (execA P rec assign kept { t := setTmps kept (params.zip args) t, σ := σ, fn := fn, rnd := some l, ds := [] }) fun r => bodyRoundA P rec l kept body r.1 r.2) none
noncomputable def doYield (P : Program) (rec : Rec) (l : Nat) (args : List Value) (σ : St) : Option Res :=
  ob (σ.heap.get l) fun b => Blk.rec (motive := fun _ => Option Res) (fun _ _ _ => none) (fun _ => none) (fun _ _ kept fn t params assign body _ => roundA P rec l args σ kept fn t params assign body) none b
noncomputable def doLoop (P : Program) (rec : Rec) (c : Code) (kept : Kept) (fr : Fr) : Option Res :=
  ob (execA P rec c kept fr) fun r => Exit.rec (motive := fun _ => Option Res) (rec (.loop c kept r.2)) (fun id => some (.ex (.exit id) r.2)) (fun _ => none) (some (.ex .ret r.2)) (fun _ => none) none r.1
noncomputable def stepF (P : Program) (Γ : Tab) (rec : Rec) (q : Req) : Option Res :=
  Req.rec (motive := fun _ => Option Res) (doCall P Γ rec) (doYield P rec) (doLoop P rec) q
noncomputable def runF (P : Program) (Γ : Tab) (n : Nat) : Rec :=
  Nat.rec (motive := fun _ => Rec) (fun _ => none) (fun _ ih q => stepF P Γ ih q) n
def noΓ : Tab := fun _ _ _ => none
def st0 : St := { heap := Tr.mk 8, next := 0, wall := 0, low := 0 }
end Go.AM
