/- An evaluator of closed runs: values, memory, operations, code. Definitions alone. No conditions. -/
import Derived.Orders
namespace Go.Proofs.YtdoddlkppkegnaaGreatDoor.Ev
open Go
noncomputable section

/-! ### Values: blocks have names (paths); lists of values are values -/
inductive NK where
  | p | s | f | i
inductive AV where
  | int (k : IntKind) (n : Int)
  | bool (b : Bool)
  | str (s : List Nat)
  | ref (p : Nat) (o : Nat)
  | slc (p : Nat) (o es n : Nat) (c : Option Nat)
  | nil (k : NK)
  | fn (f : FuncId) (first captured : AV)
  | ifc (t : Nat) (v : AV)
  | agg (l : AV)
  | tup (l : AV)
  | cons (x l : AV)
  | eol
  | sym (i : Nat)
abbrev und : AV := .tup .eol
def ifB {β : Type} (b : Bool) (x y : β) : β := Bool.rec (motive := fun _ => β) y x b
def ifO {α β : Type} (o : Option α) (x : α → β) (y : β) : β := Option.rec (motive := fun _ => β) y x o
def asInt (v : AV) (K : IntKind → Int → Bool) : Bool := AV.rec (motive := fun _ => Bool) (fun k n => K k n) (fun _ => false) (fun _ => false) (fun _ _ => false) (fun _ _ _ _ _ => false) (fun _ => false) (fun _ _ _ _ _ => false) (fun _ _ _ => false) (fun _ _ => false) (fun _ _ => false) (fun _ _ _ _ => false) false (fun _ => false) v
def asBool (v : AV) (K : Bool → Bool) : Bool := AV.rec (motive := fun _ => Bool) (fun _ _ => false) (fun b => K b) (fun _ => false) (fun _ _ => false) (fun _ _ _ _ _ => false) (fun _ => false) (fun _ _ _ _ _ => false) (fun _ _ _ => false) (fun _ _ => false) (fun _ _ => false) (fun _ _ _ _ => false) false (fun _ => false) v
def asStr (v : AV) (K : List Nat → Bool) : Bool := AV.rec (motive := fun _ => Bool) (fun _ _ => false) (fun _ => false) (fun s => K s) (fun _ _ => false) (fun _ _ _ _ _ => false) (fun _ => false) (fun _ _ _ _ _ => false) (fun _ _ _ => false) (fun _ _ => false) (fun _ _ => false) (fun _ _ _ _ => false) false (fun _ => false) v
def asRef (v : AV) (K : Nat → Nat → Bool) : Bool := AV.rec (motive := fun _ => Bool) (fun _ _ => false) (fun _ => false) (fun _ => false) (fun p o => K p o) (fun _ _ _ _ _ => false) (fun _ => false) (fun _ _ _ _ _ => false) (fun _ _ _ => false) (fun _ _ => false) (fun _ _ => false) (fun _ _ _ _ => false) false (fun _ => false) v
/-- A slice; or nil. -/
def asSlc (v : AV) (K : Nat → Nat → Nat → Nat → Option Nat → Bool) (N : Bool) : Bool := AV.rec (motive := fun _ => Bool) (fun _ _ => false) (fun _ => false) (fun _ => false) (fun _ _ => false) (fun p o es n c => K p o es n c) (fun k => NK.rec (motive := fun _ => Bool) false N false false k) (fun _ _ _ _ _ => false) (fun _ _ _ => false) (fun _ _ => false) (fun _ _ => false) (fun _ _ _ _ => false) false (fun _ => false) v
def asFn (v : AV) (K : FuncId → AV → AV → Bool) : Bool := AV.rec (motive := fun _ => Bool) (fun _ _ => false) (fun _ => false) (fun _ => false) (fun _ _ => false) (fun _ _ _ _ _ => false) (fun _ => false) (fun f x c _ _ => K f x c) (fun _ _ _ => false) (fun _ _ => false) (fun _ _ => false) (fun _ _ _ _ => false) false (fun _ => false) v
/-- An interface value; or nil. -/
def asIfc (v : AV) (K : Nat → AV → Bool) (N : Bool) : Bool := AV.rec (motive := fun _ => Bool) (fun _ _ => false) (fun _ => false) (fun _ => false) (fun _ _ => false) (fun _ _ _ _ _ => false) (fun k => NK.rec (motive := fun _ => Bool) false false false N k) (fun _ _ _ _ _ => false) (fun t v _ => K t v) (fun _ _ => false) (fun _ _ => false) (fun _ _ _ _ => false) false (fun _ => false) v
def asAgg (v : AV) (K : AV → Bool) : Bool := AV.rec (motive := fun _ => Bool) (fun _ _ => false) (fun _ => false) (fun _ => false) (fun _ _ => false) (fun _ _ _ _ _ => false) (fun _ => false) (fun _ _ _ _ _ => false) (fun _ _ _ => false) (fun l _ => K l) (fun _ _ => false) (fun _ _ _ _ => false) false (fun _ => false) v
def asTup (v : AV) (K : AV → Bool) : Bool := AV.rec (motive := fun _ => Bool) (fun _ _ => false) (fun _ => false) (fun _ => false) (fun _ _ => false) (fun _ _ _ _ _ => false) (fun _ => false) (fun _ _ _ _ _ => false) (fun _ _ _ => false) (fun _ _ => false) (fun l _ => K l) (fun _ _ _ _ => false) false (fun _ => false) v
/-- The first of a list. -/
def asCons (v : AV) (K : AV → AV → Bool) : Bool := AV.rec (motive := fun _ => Bool) (fun _ _ => false) (fun _ => false) (fun _ => false) (fun _ _ => false) (fun _ _ _ _ _ => false) (fun _ => false) (fun _ _ _ _ _ => false) (fun _ _ _ => false) (fun _ _ => false) (fun _ _ => false) (fun x l _ _ => K x l) false (fun _ => false) v
/-- One cell: no aggregate, no list. -/
def asCell (v : AV) (K : Bool) : Bool := AV.rec (motive := fun _ => Bool) (fun _ _ => K) (fun _ => K) (fun _ => K) (fun _ _ => K) (fun _ _ _ _ _ => K) (fun _ => K) (fun _ _ _ _ _ => K) (fun _ _ _ => K) (fun _ _ => false) (fun _ _ => false) (fun _ _ _ _ => false) false (fun _ => K) v
/-- The list, from its end: 'c' for each element, 'e' at its end. -/
def foldAV {β : Type} (e : β) (c : AV → β → β) (v : AV) : β := AV.rec (motive := fun _ => β) (fun _ _ => e) (fun _ => e) (fun _ => e) (fun _ _ => e) (fun _ _ _ _ _ => e) (fun _ => e) (fun _ _ _ _ _ => e) (fun _ _ _ => e) (fun _ _ => e) (fun _ _ => e) (fun x _ _ r => c x r) e (fun _ => e) v

/-! ### Tables: trees with eight branches; what stands at a place is looked up when it is wanted -/
inductive N8 (α : Type) where
  | mk (a0 a1 a2 a3 a4 a5 a6 a7 : α)
inductive Bx (α β : Type) where
  | mk (g : α → β)
inductive Bz (α β γ : Type) where
  | mk (g : α → β → γ)
def TT (α : Type) (n : Nat) : Type := Nat.rec α (fun _ β => N8 β) n
inductive T (α : Type) where
  | leaf
  | tree (n : Nat) (t : TT α n)
def dfl (α : Type) (d : α) (n : Nat) : TT α n := Nat.rec (motive := fun n => TT α n) d (fun _ x => .mk x x x x x x x x) n
def grown (α : Type) (d : α) (n : Nat) (t : TT α n) : TT α (Nat.succ n) := .mk t (dfl α d n) (dfl α d n) (dfl α d n) (dfl α d n) (dfl α d n) (dfl α d n) (dfl α d n)
/-- Part d. -/
def selB (α : Type) (d : Nat) : Bx (N8 α) α :=
  Nat.rec (motive := fun _ => Bx (N8 α) α) (.mk fun t => t.1) (fun d _ => (Nat.rec (motive := fun _ => Bx (N8 α) α) (.mk fun t => t.2) (fun d _ => (Nat.rec (motive := fun _ => Bx (N8 α) α) (.mk fun t => t.3) (fun d _ => (Nat.rec (motive := fun _ => Bx (N8 α) α) (.mk fun t => t.4) (fun d _ => (Nat.rec (motive := fun _ => Bx (N8 α) α) (.mk fun t => t.5) (fun d _ => (Nat.rec (motive := fun _ => Bx (N8 α) α) (.mk fun t => t.6) (fun d _ => (Nat.rec (motive := fun _ => Bx (N8 α) α) (.mk fun t => t.7) (fun _ _ => (.mk fun t => t.8)) d)) d)) d)) d)) d)) d)) d
/-- Part d is another one. -/
def updB (α : Type) (d : Nat) : Bz (N8 α) α (N8 α) :=
  Nat.rec (motive := fun _ => Bz (N8 α) α (N8 α)) (.mk fun t s => .mk s t.2 t.3 t.4 t.5 t.6 t.7 t.8) (fun d _ => (Nat.rec (motive := fun _ => Bz (N8 α) α (N8 α)) (.mk fun t s => .mk t.1 s t.3 t.4 t.5 t.6 t.7 t.8) (fun d _ => (Nat.rec (motive := fun _ => Bz (N8 α) α (N8 α)) (.mk fun t s => .mk t.1 t.2 s t.4 t.5 t.6 t.7 t.8) (fun d _ => (Nat.rec (motive := fun _ => Bz (N8 α) α (N8 α)) (.mk fun t s => .mk t.1 t.2 t.3 s t.5 t.6 t.7 t.8) (fun d _ => (Nat.rec (motive := fun _ => Bz (N8 α) α (N8 α)) (.mk fun t s => .mk t.1 t.2 t.3 t.4 s t.6 t.7 t.8) (fun d _ => (Nat.rec (motive := fun _ => Bz (N8 α) α (N8 α)) (.mk fun t s => .mk t.1 t.2 t.3 t.4 t.5 s t.7 t.8) (fun d _ => (Nat.rec (motive := fun _ => Bz (N8 α) α (N8 α)) (.mk fun t s => .mk t.1 t.2 t.3 t.4 t.5 t.6 s t.8) (fun _ _ => (.mk fun t s => .mk t.1 t.2 t.3 t.4 t.5 t.6 t.7 s)) d)) d)) d)) d)) d)) d)) d
def getB (α : Type) (n : Nat) : Nat → Bx (TT α n) α :=
  Nat.rec (motive := fun n => Nat → Bx (TT α n) α) (fun _ => .mk fun t => t) (fun n ih k => .mk fun t => (ih (Nat.mod k (Nat.pow 8 n))).1 ((selB (TT α n) (Nat.div k (Nat.pow 8 n))).1 t)) n
def setB (α : Type) (n : Nat) : Nat → Bz (TT α n) α (TT α n) :=
  Nat.rec (motive := fun n => Nat → Bz (TT α n) α (TT α n)) (fun _ => .mk fun _ v => v) (fun n ih k => .mk fun t v => (updB (TT α n) (Nat.div k (Nat.pow 8 n))).1 t ((ih (Nat.mod k (Nat.pow 8 n))).1 ((selB (TT α n) (Nat.div k (Nat.pow 8 n))).1 t) v)) n
def getC (α : Type) (d : α) (n k : Nat) : Bx (TT α n) α := Bool.rec (motive := fun _ => Bx (TT α n) α) (.mk fun _ => d) (getB α n k) (Nat.blt k (Nat.pow 8 n))
def setC (α β : Type) (d : α) (k f : Nat) : (n : Nat) → Bz (TT α n) α ((T α → β) → β) :=
  Nat.rec (motive := fun _ => (n : Nat) → Bz (TT α n) α ((T α → β) → β)) (fun _ => .mk fun _ _ K => K .leaf)
    (fun _ ih n => Bool.rec (motive := fun _ => Bz (TT α n) α ((T α → β) → β)) (.mk fun t v K => (ih (Nat.succ n)).1 (grown α d n t) v K) (.mk fun t v K => K (.tree n ((setB α n k).1 t v))) (Nat.blt k (Nat.pow 8 n))) f
def T.getP {α β : Type} (d : α) (t : T α) (k : Nat) (K : α → β) : β :=
  T.rec (motive := fun _ => (α → β) → β) (fun K => K d) (fun n t K => K ((getC α d n k).1 t)) t K
def T.setP {α β : Type} (d v : α) (k : Nat) (t : T α) (K : T α → β) : β :=
  T.rec (motive := fun _ => α → (T α → β) → β) (fun v K => (setC α β d k (Nat.succ k) 0).1 d v K) (fun n t v K => (setC α β d k (Nat.succ k) n).1 t v K) t v K

/-- A list as a table. -/
def tabF {α : Type} (l : List α) : Nat → T (Option α) → T (Option α) :=
  List.rec (motive := fun _ => Nat → T (Option α) → T (Option α)) (fun _ t => t) (fun x _ ih n t => T.setP none (some x) n t fun t => Nat.rec (motive := fun _ => T (Option α)) .leaf (fun n _ => ih n t) (Nat.succ (Nat.succ n))) l
def infoF (P : Program) (t : TypeId) : Option TypeInfo :=
  Bool.rec (motive := fun _ => Option TypeInfo) (P.info? t) (T.getP none (tabF P.types.toList 0 .leaf) t fun x => x) (Nat.blt t P.types.size)
def undF (P : Program) (t : TypeId) : Option TypeDesc := match infoF P t with
  | some { desc := .named _ u, .. } => (infoF P u).map (·.desc)
  | some i => some i.desc
  | none => none
def funF (P : Program) (f : FuncId) : Option Func := T.getP none (tabF P.funcs.toList 0 .leaf) f fun x => x

/-! ### Written out -/
def frcN {β : Type} (n : Nat) (K : Nat → β) : β := Nat.rec (motive := fun _ => β) (K 0) (fun m _ => K m) (Nat.succ n)
def frcI {β : Type} (n : Int) (K : Int → β) : β := Int.rec (motive := fun _ => β) (fun m => frcN m fun m => K (.ofNat m)) (fun m => frcN m fun m => K (.negSucc m)) n
def frcB {β : Type} (b : Bool) (K : Bool → β) : β := Bool.rec (motive := fun _ => β) (K false) (K true) b
def frcNs {β : Type} (l : List Nat) (K : List Nat → β) : β :=
  List.rec (motive := fun _ => (List Nat → β) → β) (fun K => K []) (fun n _ ih K => frcN n fun n => ih fun l => K (n :: l)) l K
def getN {β : Type} (t : T AV) (o : Nat) (K : AV → β) : β := T.getP und t o K
/-- l behind l'. -/
def appA (l : AV) (l' : AV) (K : AV → Bool) : Bool := foldAV (fun K => K l') (fun x r K => r fun l => K (.cons x l)) l K

/-! ### Memory: a block's cells, their number, how many of the first are frozen, whether it is never written -/
structure AB where
  c : T AV
  n : Nat
  fz : Nat
  ro : Bool
abbrev M := T (Option AB)
def blkK (m : M) (p : Nat) (K : T AV → Nat → Nat → Bool → Bool) : Bool :=
  T.getP none m p fun B => Option.rec (motive := fun _ => Bool) false (fun B => AB.rec (motive := fun _ => Bool) (fun c n fz ro => K c n fz ro) B) B
/-- n cells from o on. -/
def rdK (c : T AV) (n : Nat) : Nat → (AV → Bool) → Bool :=
  Nat.rec (motive := fun _ => Nat → (AV → Bool) → Bool) (fun _ K => K .eol) (fun _ ih o K => getN c o fun v => frcN (Nat.succ o) fun o => ih o fun l => K (.cons v l)) n
def readK (m : M) (p : Nat) (o n : Nat) (K : AV → Bool) : Bool := blkK m p fun c s _ _ => ifB (Nat.ble (Nat.add o n) s) (rdK c n o K) false
def read1K (m : M) (p : Nat) (o : Nat) (K : AV → Bool) : Bool := blkK m p fun c s _ _ => ifB (Nat.blt o s) (getN c o K) false
def setN (t : T AV) (o : Nat) (v : AV) (K : T AV → Bool) : Bool := T.setP und v o t K
/-- A list of cells is laid from o on; K hears where it ends. -/
def fillK (l : AV) (o : Nat) (c : T AV) (K : Nat → T AV → Bool) : Bool :=
  foldAV (fun o c K => K o c) (fun x r o c K => asCell x (setN c o x fun c => frcN (Nat.succ o) fun o => r o c K)) l o c K
abbrev top : Nat := 16777000
/-- Cells are stored; g: they may come behind all that the block holds. -/
def writeK (g : Bool) (m : M) (p : Nat) (o : Nat) (l : AV) (K : M → Bool) : Bool :=
  blkK m p fun c n fz ro => ifB ro false (ifB (Nat.ble fz o) (ifB (Nat.ble o n) (fillK l o c fun e c => ifB (Nat.ble e top && (g || Nat.ble e n)) (frcN (Nat.max n e) fun n => T.setP none (some ⟨c, n, fz, ro⟩) p m K) false) false) false)
/-- A new block of n cells, the first fz of them frozen. -/
def newF (m : M) (nx : Nat) (c : T AV) (n fz : Nat) (K : Nat → M → Nat → Bool) : Bool :=
  ifB (Nat.ble nx top && Nat.ble n top) (frcN nx fun p => T.getP none m p fun o => Option.rec (motive := fun _ => Bool) (T.setP none (some ⟨c, n, fz, false⟩) p m fun m => frcN (Nat.succ nx) fun nx => K p m nx) (fun _ => false) o) false
def newK (m : M) (nx : Nat) (c : T AV) (n : Nat) (K : Nat → M → Nat → Bool) : Bool := newF m nx c n 0 K
/-! ### Constants, operands -/
def absL (f : Value → Option AV) : List Value → Option AV
  | [] => some .eol
  | v :: l => match f v, absL f l with
    | some v, some l => some (.cons v l)
    | _, _ => none
def absF : Nat → Value → Option AV
  | _, .bool b => some (.bool b)
  | _, .int k n => some (.int k n)
  | _, .string s => some (.str (s.data.toList.map UInt8.toNat))
  | _, .pointer none => some (.nil .p)
  | _, .slice none 0 0 => some (.nil .s)
  | _, .nilFunc => some (.nil .f)
  | _, .nilIface => some (.nil .i)
  | f + 1, .agg cs => (absL (absF f) cs.toList).map .agg
  | f + 1, .tuple cs => (absL (absF f) cs.toList).map .tup
  | _, _ => none
inductive BO where
  | mk (k : T AV → (AV → Bool) → Bool)
abbrev BO.k (b : BO) : T AV → (AV → Bool) → Bool := b.1
def cOpd (G : Nat) : Operand → BO
  | .tmp t => match Nat.blt t top with
    | true => ⟨fun a K => T.getP und a t K⟩
    | false => ⟨fun _ _ => false⟩
  | .const v => match absF 8 v with
    | some w => ⟨fun _ K => K w⟩
    | none => ⟨fun _ _ => false⟩
  | .global g => match Nat.blt g G with
    | true => ⟨fun _ K => K (.ref g 0)⟩
    | false => ⟨fun _ _ => false⟩
  | .func f => ⟨fun _ K => K (.fn f .eol .eol)⟩
/-- The values of some operands, as a list. -/
def cOpds (G : Nat) : List Operand → BO
  | [] => ⟨fun _ K => K .eol⟩
  | x :: l => ⟨fun a K => (cOpd G x).1 a fun v => (cOpds G l).1 a fun w => K (.cons v w)⟩

/-! ### Whole numbers -/
def ltI (x y : Int) : Bool := Int.rec (motive := fun _ => Bool) (fun a => Int.rec (motive := fun _ => Bool) (fun b => Nat.blt a b) (fun _ => false) y) (fun a => Int.rec (motive := fun _ => Bool) (fun _ => true) (fun b => Nat.blt b a) y) x
def eqI (x y : Int) : Bool := Int.rec (motive := fun _ => Bool) (fun a => Int.rec (motive := fun _ => Bool) (fun b => Nat.beq a b) (fun _ => false) y) (fun a => Int.rec (motive := fun _ => Bool) (fun _ => false) (fun b => Nat.beq a b) y) x
def asNat (n : Int) (K : Nat → Bool) : Bool := Int.rec (motive := fun _ => Bool) (fun a => K a) (fun _ => false) n
def big : Nat := 9223372036854775808
/-- A number of 64 bits as it is where it needs no wrapping. -/
def wrapK (k : IntKind) (n : Int) (K : Int → Bool) : Bool :=
  IntKind.rec (motive := fun _ => Bool) (frcI (k.wrap n) K) (frcI (k.wrap n) K) (frcI (k.wrap n) K)
    (frcI n fun n => Int.rec (motive := fun _ => Bool) (fun a => ifB (Nat.blt a big) (K (.ofNat a)) (frcI (k.wrap (.ofNat a)) K)) (fun a => ifB (Nat.blt a big) (K (.negSucc a)) (frcI (k.wrap (.negSucc a)) K)) n)
    (frcI (k.wrap n) K) (frcI (k.wrap n) K) (frcI (k.wrap n) K) (frcI (k.wrap n) K) k
def kindN : IntKind → Nat
  | .i8 => 0 | .i16 => 1 | .i32 => 2 | .i64 => 3 | .u8 => 4 | .u16 => 5 | .u32 => 6 | .u64 => 7
def sameK (j k : IntKind) : Bool := Nat.beq (kindN j) (kindN k)
def eqNs (x : List Nat) : List Nat → Bool :=
  List.rec (motive := fun _ => List Nat → Bool) (fun y => List.rec (motive := fun _ => Bool) true (fun _ _ _ => false) y) (fun a _ ih y => List.rec (motive := fun _ => Bool) false (fun b z _ => ifB (Nat.beq a b) (ih z) false) y) x
def ltNs (x : List Nat) : List Nat → Bool :=
  List.rec (motive := fun _ => List Nat → Bool) (fun y => List.rec (motive := fun _ => Bool) false (fun _ _ _ => true) y) (fun a _ ih y => List.rec (motive := fun _ => Bool) false (fun b z _ => ifB (Nat.blt a b) true (ifB (Nat.beq a b) (ih z) false)) y) x
def lenNs (x : List Nat) : Nat := List.rec (motive := fun _ => Nat) 0 (fun _ _ ih => Nat.succ ih) x
def lenK (x : List Nat) (K : Nat → Bool) : Bool := List.rec (motive := fun _ => Nat → Bool) (fun n => K n) (fun _ _ ih n => frcN (Nat.succ n) fun n => ih n) x 0
def appNs (x y : List Nat) (K : List Nat → Bool) : Bool := List.rec (motive := fun _ => (List Nat → Bool) → Bool) (fun K => K y) (fun a _ ih K => ih fun l => K (a :: l)) x K
def dropNs (n : Nat) (x : List Nat) (K : List Nat → Bool) : Bool := Nat.rec (motive := fun _ => List Nat → Bool) (fun x => K x) (fun _ ih x => List.rec (motive := fun _ => Bool) (K []) (fun _ l _ => ih l) x) n x
def takeNs (n : Nat) (x : List Nat) (K : List Nat → Bool) : Bool := Nat.rec (motive := fun _ => List Nat → (List Nat → Bool) → Bool) (fun _ K => K []) (fun _ ih x K => List.rec (motive := fun _ => Bool) (K []) (fun a l _ => ih l fun l => K (a :: l)) x) n x K
/-- An operation on two values. -/
inductive B2 where
  | mk (f : AV → AV → (AV → Bool) → Bool)
abbrev B2.f (b : B2) : AV → AV → (AV → Bool) → Bool := b.1
def b2Int (g : IntKind → Int → Int → (AV → Bool) → Bool) : B2 := ⟨fun x y K => asInt x fun k a => asInt y fun j b => ifB (sameK k j) (g k a b K) false⟩
def bitsI (op : BinOp) (k : IntKind) (x y : Int) : Option Int :=
  let a := BitVec.ofInt k.bits x
  let b := BitVec.ofInt k.bits y
  match op with
  | .and => some (k.wrap (a &&& b).toNat)
  | .or => some (k.wrap (a ||| b).toNat)
  | .xor => some (k.wrap (a ^^^ b).toNat)
  | .andNot => some (k.wrap (a &&& ~~~b).toNat)
  | _ => none
/-- A comparison: of whole numbers, of strings. -/
def b2Cmp (g : Int → Int → Bool) (h : List Nat → List Nat → Bool) : B2 :=
  ⟨fun x y K => AV.rec (motive := fun _ => Bool) (fun k a => asInt y fun j b => ifB (sameK k j) (frcB (g a b) fun r => K (.bool r)) false) (fun _ => false) (fun s => asStr y fun t => frcB (h s t) fun r => K (.bool r)) (fun _ _ => false) (fun _ _ _ _ _ => false) (fun _ => false) (fun _ _ _ _ _ => false) (fun _ _ _ => false) (fun _ _ => false) (fun _ _ => false) (fun _ _ _ _ => false) false (fun _ => false) x⟩
def isAgg (P : Program) (t : TypeId) : Option Bool := match undF P t with
  | none => none
  | some (.struct _) | some (.array _ _) => some true
  | some _ => some false
def sizeAt (P : Program) (t : TypeId) : Option Nat := match infoF P t with
  | none => none
  | some i => some i.size
def toL : AV → List AV
  | .cons x l => x :: toL l
  | _ => []
def ofL : List AV → AV
  | [] => .eol
  | x :: l => .cons x (ofL l)
def partA (P : Program) (t : TypeId) (l : List AV) (off : Nat) : Option AV := match isAgg P t, sizeAt P t with
  | some true, some s => some (.agg (ofL ((l.drop off).take s)))
  | some false, some _ => l[off]?
  | _, _ => none
/-- Equality of structs, part by part. -/
def eqFs (eq : TypeId → AV → AV → Option Bool) (P : Program) (xs ys : List AV) : List Field → Option Bool
  | [] => some true
  | f :: l => match f.name == "_" with
    | true => eqFs eq P xs ys l
    | false => match partA P f.type xs f.offset, partA P f.type ys f.offset with
      | some x, some y => match eq f.type x y with
        | some true => eqFs eq P xs ys l
        | some false => some false
        | none => none
      | _, _ => none
def eqT (P : Program) : Nat → TypeId → AV → AV → Option Bool
  | 0, _, _, _ => none
  | n + 1, t, x, y => match undF P t, x, y with
    | some .bool, .bool a, .bool b => some (a == b)
    | some (.int _), .int k a, .int k' b => ifB (sameK k k') (some (eqI a b)) none
    | some .string, .str a, .str b => some (eqNs a b)
    | some (.struct fs), .agg xs, .agg ys => match P.stoodInHeld t with
      | true => none
      | false => eqFs (eqT P n) P (toL xs) (toL ys) fs.toList
    | _, _, _ => none
def isC : Operand → Bool
  | .const _ => true
  | _ => false
/-- Equality at a type that is none of those of aggregates; c: one side is a constant. -/
def eqAt (d : TypeDesc) (c : Bool) : AV → AV → Option Bool := match d with
  | .bool => fun x y => match x, y with
    | .bool a, .bool b => some (a == b)
    | _, _ => none
  | .int _ => fun x y => match x, y with
    | .int k a, .int j b => ifB (sameK k j) (some (eqI a b)) none
    | _, _ => none
  | .string => fun x y => match x, y with
    | .str a, .str b => some (eqNs a b)
    | _, _ => none
  | .pointer _ => fun x y => match x, y with
    | .nil .p, .nil .p => some true
    | .nil .p, .ref _ _ => some false
    | .ref _ _, .nil .p => some false
    | _, _ => none
  | .slice _ => fun x y => match x, y with
    | .nil .s, .nil .s => some true
    | .nil .s, .slc .. => some false
    | .slc .., .nil .s => some false
    | _, _ => none
  | .func .. => fun x y => match x, y with
    | .nil .f, .nil .f => some true
    | .nil .f, .fn .. => some false
    | .fn .., .nil .f => some false
    | _, _ => none
  | .interface _ => fun x y => match x, y with
    | .nil .i, .nil .i => ifB c (some true) none
    | .nil .i, .ifc .. => some false
    | .ifc .., .nil .i => some false
    | _, _ => none
  | _ => fun _ _ => none
def b2Eq (P : Program) (c : Bool) (t : TypeId) (neg : Bool) : B2 := match undF P t with
  | some (.struct _) => match Program.eqGuardType P P.depth t with
    | true => ⟨fun _ _ _ => false⟩
    | false => ⟨fun x y K => ifO (eqT P 9 t x y) (fun r => frcB (Bool.xor neg r) fun r => K (.bool r)) false⟩
  | some d => ⟨fun x y K => ifO (eqAt d c x y) (fun r => frcB (Bool.xor neg r) fun r => K (.bool r)) false⟩
  | none => ⟨fun _ _ _ => false⟩
def b2Add : B2 :=
  ⟨fun x y K => AV.rec (motive := fun _ => Bool) (fun k a => asInt y fun j b => ifB (sameK k j) (wrapK k (Int.add a b) fun r => K (.int k r)) false) (fun _ => false) (fun s => asStr y fun t => ifB (Nat.ble (Nat.add (lenNs s) (lenNs t)) 1000000) (appNs s t fun r => K (.str r)) false) (fun _ _ => false) (fun _ _ _ _ _ => false) (fun _ => false) (fun _ _ _ _ _ => false) (fun _ _ _ => false) (fun _ _ => false) (fun _ _ => false) (fun _ _ _ _ => false) false (fun _ => false) x⟩
/-- A symbol from 2000 on is a whole number (int64) of which one remainder is known: its divisor, the remainder. -/
def symM (j : Nat) : Nat := Nat.div (Nat.sub j 1000) 1000
def symR (j : Nat) : Int := Int.sub (Int.ofNat (Nat.mod (Nat.sub j 1000) 1000)) 500
def symC (m : Nat) (r : Int) : Nat := Nat.add (Nat.add 1000 (Nat.mul 1000 m)) (Int.toNat (Int.add r 500))
def b2Cls (g : IntKind → Int → Int → (AV → Bool) → Bool) (h : Nat → Int → Nat → (AV → Bool) → Bool) : B2 :=
  ⟨fun x y K => AV.rec (motive := fun _ => Bool) (fun k a => asInt y fun j b => ifB (sameK k j) (g k a b K) false) (fun _ => false) (fun _ => false) (fun _ _ => false) (fun _ _ _ _ _ => false) (fun _ => false) (fun _ _ _ _ _ => false) (fun _ _ _ => false) (fun _ _ => false) (fun _ _ => false) (fun _ _ _ _ => false) false
    (fun i => asInt y fun j b => asNat b fun b => ifB (sameK .i64 j && Nat.ble 2000 i && Nat.blt 0 b && Nat.beq (Nat.mod (symM i) b) 0) (h (symM i) (symR i) b K) false) x⟩
def quoG (k : IntKind) (a b : Int) (K : AV → Bool) : Bool := ifB (eqI b 0) false (wrapK k (Int.tdiv a b) fun r => K (.int k r))
def quoH (m : Nat) (r : Int) (b : Nat) (K : AV → Bool) : Bool :=
  ifB (Nat.ble 2000 (symC (Nat.div m b) (Int.tdiv r (Int.ofNat b))) && Nat.beq (symM (symC (Nat.div m b) (Int.tdiv r (Int.ofNat b)))) (Nat.div m b) && eqI (symR (symC (Nat.div m b) (Int.tdiv r (Int.ofNat b)))) (Int.tdiv r (Int.ofNat b))) (frcN (symC (Nat.div m b) (Int.tdiv r (Int.ofNat b))) fun j => K (.sym j)) false
def remG (k : IntKind) (a b : Int) (K : AV → Bool) : Bool := ifB (eqI b 0) false (frcI (Int.tmod a b) fun r => K (.int k r))
def remH (_ : Nat) (r : Int) (b : Nat) (K : AV → Bool) : Bool := frcI (Int.tmod r (Int.ofNat b)) fun r => K (.int .i64 r)
def cBin (P : Program) (c : Bool) (t : TypeId) : BinOp → B2
  | .add => b2Add
  | .sub => b2Int fun k a b K => wrapK k (Int.sub a b) fun r => K (.int k r)
  | .mul => b2Int fun k a b K => wrapK k (Int.mul a b) fun r => K (.int k r)
  | .quo => b2Cls quoG quoH
  | .rem => b2Cls remG remH
  | .eql => b2Eq P c t false
  | .neq => b2Eq P c t true
  | .lss => b2Cmp ltI ltNs
  | .leq => b2Cmp (fun a b => Bool.not (ltI b a)) (fun a b => Bool.not (ltNs b a))
  | .gtr => b2Cmp (fun a b => ltI b a) (fun a b => ltNs b a)
  | .geq => b2Cmp (fun a b => Bool.not (ltI a b)) (fun a b => Bool.not (ltNs a b))
  | .shl => ⟨fun x y K => asInt x fun k a => asInt y fun _ b => ifB (ltI b 0) false (frcI (k.wrap (a * 2 ^ min b.toNat k.bits)) fun r => K (.int k r))⟩
  | .shr => ⟨fun x y K => asInt x fun k a => asInt y fun _ b => ifB (ltI b 0) false (frcI (a.fdiv (2 ^ min b.toNat k.bits)) fun r => K (.int k r))⟩
  | .and => b2Int fun k a b K => ifO (bitsI .and k a b) (fun r => frcI r fun r => K (.int k r)) false
  | .or => b2Int fun k a b K => ifO (bitsI .or k a b) (fun r => frcI r fun r => K (.int k r)) false
  | .xor => b2Int fun k a b K => ifO (bitsI .xor k a b) (fun r => frcI r fun r => K (.int k r)) false
  | .andNot => b2Int fun k a b K => ifO (bitsI .andNot k a b) (fun r => frcI r fun r => K (.int k r)) false

/-! ### Parts of aggregates -/
def dropA (n : Nat) (l : AV) (K : AV → Bool) : Bool := Nat.rec (motive := fun _ => AV → Bool) (fun l => K l) (fun _ ih l => asCons l fun _ l => ih l) n l
def takeA (n : Nat) (l : AV) (K : AV → Bool) : Bool := Nat.rec (motive := fun _ => AV → (AV → Bool) → Bool) (fun _ K => K .eol) (fun _ ih l K => asCons l fun x l => ih l fun l => K (.cons x l)) n l K
/-- An operation on one value. -/
inductive B1 where
  | mk (f : AV → (AV → Bool) → Bool)
abbrev B1.f (b : B1) : AV → (AV → Bool) → Bool := b.1
/-- The part of a type at an offset, of a list of cells. -/
def cPart (P : Program) (t : TypeId) (off : Nat) : B1 := match isAgg P t, sizeAt P t with
  | some true, some s => ⟨fun l K => dropA off l fun l => takeA s l fun l => K (.agg l)⟩
  | some false, some _ => ⟨fun l K => dropA off l fun l => asCons l fun x _ => K x⟩
  | _, _ => ⟨fun _ _ => false⟩
def cntA (l : AV) : Nat := foldAV 0 (fun _ n => Nat.succ n) l
/-- The cells of a value of a type. -/
def cCells (P : Program) (t : TypeId) : B1 := match isAgg P t, sizeAt P t with
  | some true, some s => ⟨fun v K => asAgg v fun l => ifB (Nat.beq (cntA l) s) (K l) false⟩
  | some false, some s => match Nat.beq s 1 with
    | true => ⟨fun v K => asCell v (K (.cons v .eol))⟩
    | false => ⟨fun _ _ => false⟩
  | _, _ => ⟨fun _ _ => false⟩
def zeroA (P : Program) (t : TypeId) : Option AV := match infoF P t with
  | none => none
  | some i => match i.zero with
    | none => none
    | some z => absF 8 z
def allCell (l : AV) : Bool := foldAV true (fun x r => asCell x r) l
/-- The cells of the zero of a type. -/
def zeroL (P : Program) (t : TypeId) : Option AV := match isAgg P t, zeroA P t with
  | some true, some (.agg l) => match allCell l with
    | true => some l
    | false => none
  | some false, some v => match allCell (.cons v .eol) with
    | true => some (.cons v .eol)
    | false => none
  | _, _ => none
def setA (i : Nat) (x l : AV) (K : AV → Bool) : Bool := Nat.rec (motive := fun _ => AV → (AV → Bool) → Bool) (fun l K => asCons l fun _ l => K (.cons x l)) (fun _ ih l K => asCons l fun y l => ih l fun l => K (.cons y l)) i l K
def pourA (v : AV) (o : Nat) (l : AV) (K : AV → Bool) : Bool := foldAV (fun _ l K => K l) (fun x r o l K => setA o x l fun l => frcN (Nat.succ o) fun o => r o l K) v o l K
inductive BL where
  | mk (f : T AV → AV → (AV → Bool) → Bool)
abbrev BL.f (b : BL) : T AV → AV → (AV → Bool) → Bool := b.1
def cBuild (P : Program) (G : Nat) (place : Nat → Option (Nat × Nat)) (ty : Nat → Option TypeId) (n : Nat) : List (Nat × Operand) → BL
  | [] => ⟨fun _ l K => K l⟩
  | (i, x) :: r => match place i, ty i with
    | some (o, s), some t => match sizeAt P t with
      | some s' => match Nat.beq s' s && Nat.ble (Nat.add o s) n with
        | false => ⟨fun _ _ _ => false⟩
        | true => ⟨fun a l K => (cOpd G x).1 a fun v => (cCells P t).1 v fun w => pourA w o l fun l => (cBuild P G place ty n r).1 a l K⟩
      | none => ⟨fun _ _ _ => false⟩
    | _, _ => ⟨fun _ _ _ => false⟩
def placesOf (P : Program) (fs : List Field) : Option (List (Nat × Nat)) := fs.mapM (fun f => (infoF P f.type).map fun i => (f.offset, i.size))
inductive BT where
  | mk (f : T AV → T AV → (T AV → Bool) → Bool)
abbrev BT.f (b : BT) : T AV → T AV → (T AV → Bool) → Bool := b.1
/-- The parts of a slice. -/
def cFill (P : Program) (G : Nat) (e : TypeId) (s n : Nat) : List (Nat × Operand) → BT
  | [] => ⟨fun _ c K => K c⟩
  | (i, x) :: r => match Nat.blt i n with
    | false => ⟨fun _ _ _ => false⟩
    | true => ⟨fun a c K => (cOpd G x).1 a fun v => (cCells P e).1 v fun w => fillK w (Nat.mul i s) c fun _ c => (cFill P G e s n r).1 a c K⟩
def fillT (l : AV) : T AV := foldAV (fun _ c => c) (fun x r o c => T.setP und x o c fun c => r (Nat.succ o) c) l 0 .leaf
def repA (z : AV) : Nat → AV
  | 0 => .eol
  | n + 1 => ofL (toL z ++ toL (repA z n))
def repK (z : AV) (n : Nat) : Nat → T AV → (Nat → T AV → Bool) → Bool := Nat.rec (motive := fun _ => Nat → T AV → (Nat → T AV → Bool) → Bool) (fun o c K => K o c) (fun _ ih o c K => fillK z o c fun o c => ih o c K) n

/-! ### Operations -/
abbrev KV := AV → M → Nat → Bool
abbrev CallK := FuncId → AV → M → Nat → KV → KV → Bool
inductive BX where
  | mk (f : CallK → T AV → M → Nat → KV → KV → Bool)
abbrev BX.f (b : BX) : CallK → T AV → M → Nat → KV → KV → Bool := b.1
def xNo : BX := ⟨fun _ _ _ _ _ _ => false⟩
/-- An operation that neither reads nor writes memory. -/
def xP (g : T AV → (AV → Bool) → Bool) : BX := ⟨fun _ a m nx K _ => g a fun v => K v m nx⟩
/-- One that only reads. -/
def xR (g : T AV → M → (AV → Bool) → Bool) : BX := ⟨fun _ a m nx K _ => g a m fun v => K v m nx⟩
/-- One that makes a block: its cells and how many, how it is called. -/
def xA (g : T AV → (T AV → Nat → (Nat → AV) → Bool) → Bool) : BX := ⟨fun _ a m nx K _ => g a fun c n w => newK m nx c n fun p m nx => K (w p) m nx⟩
/-- One that writes. -/
def xW (g : T AV → M → Nat → KV → Bool) : BX := ⟨fun _ a m nx K _ => g a m nx K⟩
inductive BR where
  | mk (f : M → AV → (AV → Bool) → Bool)
abbrev BR.f (b : BR) : M → AV → (AV → Bool) → Bool := b.1
def cLoad (P : Program) (t : TypeId) : BR := match isAgg P t, sizeAt P t with
  | some true, some s => ⟨fun m v K => asRef v fun p o => readK m p o s fun l => K (.agg l)⟩
  | some false, some _ => ⟨fun m v K => asRef v fun p o => read1K m p o K⟩
  | _, _ => ⟨fun _ _ _ => false⟩
def bytesA (l : AV) (K : List Nat → Bool) : Bool := foldAV (fun K => K []) (fun x r K => asInt x fun k n => ifB (sameK k .u8) (asNat n fun n => r fun l => K (n :: l)) false) l K
def cellsNs (s : List Nat) (K : AV → Bool) : Bool := List.rec (motive := fun _ => (AV → Bool) → Bool) (fun K => K .eol) (fun n _ ih K => ih fun l => K (.cons (.int .u8 (.ofNat n)) l)) s K
/-- What append and copy take: elements, cells. -/
def srcK (es : Nat) (m : M) (y : AV) (K : Nat → AV → Bool) : Bool :=
  AV.rec (motive := fun _ => Bool) (fun _ _ => false) (fun _ => false) (fun s => ifB (Nat.beq es 1) (lenK s fun n => cellsNs s fun l => K n l) false) (fun _ _ => false)
    (fun p o es' n _ => ifB (Nat.beq es' es) (frcN (Nat.mul n es) fun w => readK m p o w fun l => K n l) false) (fun k => NK.rec (motive := fun _ => Bool) false (K 0 .eol) false false k) (fun _ _ _ _ _ => false) (fun _ _ _ => false) (fun _ _ => false) (fun _ _ => false) (fun _ _ _ _ => false) false (fun _ => false) y
def killK (m : M) (p : Nat) (K : M → Bool) : Bool := T.setP none none p m K
/-- A new slice: some cells, others behind them. -/
def joinK (es : Nat) (m : M) (nx nk : Nat) (old l : AV) (K : KV) : Bool :=
  fillK old 0 .leaf fun w cc => fillK l w cc fun e cc => newK m nx cc e fun p m nx => K (.slc p 0 es nk none) m nx
/-- A slice whose capacity is not known gets a new name, whether it has moved or not. -/
def moveK (es : Nat) (m : M) (nx nk : Nat) (p : Nat) (o w : Nat) (l : AV) (K : KV) : Bool :=
  ifB (Nat.beq o 0) (blkK m p fun cc s fz ro => ifB ro false (ifB (Nat.ble fz w && Nat.ble w s)
    (fillK l w cc fun e cc => killK m p fun m => newF m nx cc e fz fun p m nx => K (.slc p 0 es nk none) m nx) false)) false
def appendK (es : Nat) (m : M) (nx : Nat) (x y : AV) (K : KV) : Bool := srcK es m y fun k l => ifB (Nat.ble k 100000)
  (asSlc x
    (fun p o es' n c => ifB (Nat.beq es' es) (frcN (Nat.add n k) fun nk => frcN (Nat.mul n es) fun w => Option.rec (motive := fun _ => Bool)
      (ifB (Nat.beq k 0) (K x m nx) (moveK es m nx nk p o w l K))
      (fun c => ifB (Nat.ble nk c) (frcN (Nat.add o w) fun at_ => writeK true m p at_ l fun m => K (.slc p o es nk (some c)) m nx)
        (readK m p o w fun old => joinK es m nx nk old l K)) c) false)
    (ifB (Nat.beq k 0) (K (.nil .s) m nx) (joinK es m nx k .eol l K))) false
/-- How many cells an element has, where append may be run. -/
def elemAt (P : Program) : List TypeId → Option Nat
  | [t, tx] => match undF P t with
    | some (.slice e) => match infoF P e, zeroL P e with
      | some i, some z => match Nat.ble 1 i.size && Nat.ble i.bytes 1000000 && Nat.beq (cntA z) i.size && (match undF P tx with
          | some (.slice _) => true
          | some .string => true
          | _ => false) with
        | true => some i.size
        | false => none
      | _, _ => none
    | _ => none
  | _ => none
/-- A bound of a slicing. -/
def cBound (G : Nat) : Option Operand → Option BO
  | none => none
  | some x => some (cOpd G x)
def natK (b : Option BO) (a : T AV) (d : Nat) (K : Nat → Bool) : Bool := Option.rec (motive := fun _ => Bool) (K d) (fun b => b.1 a fun v => asInt v fun _ n => asNat n K) b
def cutNs (s : List Nat) (l h : Nat) (K : AV → Bool) : Bool := takeNs h s fun s => dropNs l s fun s => K (.str s)
/-- s[l:h], s[l:h:m]. -/
def cutV (a : T AV) (lo hi mx : Option BO) (es : Nat) (v : AV) (K : AV → Bool) : Bool :=
  asSlc v
    (fun p o es' n c => ifB (Nat.beq es' es) (natK lo a 0 fun l => natK hi a n fun h => ifB (Nat.ble l h)
      (Option.rec (motive := fun _ => Bool)
        (Option.rec (motive := fun _ => Bool) (ifB (Nat.ble h n) (ifB (Nat.blt l n || Nat.beq l 0) (frcN (Nat.add o (Nat.mul l es)) fun o => frcN (Nat.sub h l) fun n => K (.slc p o es n none)) false) false)
          (fun c => ifB (Nat.ble h c) (ifB (Nat.beq l c) (K (.slc p o es 0 (some 0))) (frcN (Nat.add o (Nat.mul l es)) fun o => frcN (Nat.sub h l) fun n => frcN (Nat.sub c l) fun c => K (.slc p o es n (some c)))) false) c)
        (fun mx => mx.1 a fun v => asInt v fun _ g => asNat g fun g => ifB (Nat.ble h g && Nat.ble g n) (ifB (Nat.beq l g) (K (.slc p o es 0 (some 0))) (frcN (Nat.add o (Nat.mul l es)) fun o => frcN (Nat.sub h l) fun n => frcN (Nat.sub g l) fun c => K (.slc p o es n (some c)))) false) mx) false) false)
    (natK lo a 0 fun l => natK hi a 0 fun h => natK mx a 0 fun g => ifB (Nat.beq l 0 && Nat.beq h 0 && Nat.beq g 0) (K (.nil .s)) false)
def cOp (P : Program) (G : Nat) : Op → BX
  | .move x | .assign x => xP fun a K => (cOpd G x).1 a K
  | .pick c x y => xP fun a K => (cOpd G c).1 a fun v => asBool v fun b => ifB b ((cOpd G x).1 a K) ((cOpd G y).1 a K)
  | .nilCheck x => xP fun a K => (cOpd G x).1 a fun v => AV.rec (motive := fun _ => Bool) (fun _ _ => false) (fun _ => false) (fun _ => false) (fun _ _ => K v) (fun _ _ _ _ _ => K v) (fun _ => false) (fun _ _ _ _ _ => K v) (fun _ _ _ => false) (fun _ _ => false) (fun _ _ => false) (fun _ _ _ _ => false) false (fun _ => false) v
  | .extract x i => xP fun a K => (cOpd G x).1 a fun v => asTup v fun l => dropA i l fun l => asCons l fun x _ => K x
  | .field t x i => match undF P t with
    | some (.struct fs) => match fs.toList[i]? with
      | some f => xP fun a K => (cOpd G x).1 a fun v => asAgg v fun l => (cPart P f.type f.offset).1 l K
      | none => xNo
    | _ => xNo
  | .makeInterface t x => match undF P t with
    | some (.interface _) => xNo
    | none => xNo
    | some _ => xP fun a K => (cOpd G x).1 a fun v => K (.ifc t v)
  | .makeFunc (.func f) x c => xP fun a K => (cOpds G x.toList).1 a fun x => (cOpds G c.toList).1 a fun c => K (.fn f x c)
  | .build t parts => match undF P t, zeroA P t with
    | some (.struct fs), some (.agg z) => match placesOf P fs.toList with
      | some pl => let b := cBuild P G (fun i => pl.toArray[i]?) (fun i => (fs.toList[i]?).map (·.type)) (cntA z) parts.toList; xP fun a K => b.1 a z fun l => K (.agg l)
      | none => xNo
    | some (.array _ e), some (.agg z) => match sizeAt P e with
      | some s => let b := cBuild P G (fun i => some (i * s, s)) (fun _ => some e) (cntA z) parts.toList; xP fun a K => b.1 a z fun l => K (.agg l)
      | none => xNo
    | _, _ => xNo
  | .typeAssert x _ t ok => match undF P t, zeroA P t with
    | some (.interface _), _ => xNo
    | some _, some z => match ok with
      | true => xP fun a K => (cOpd G x).1 a fun v => asIfc v (fun t' v => ifB (Nat.beq t' t) (K (.tup (.cons v (.cons (.bool true) .eol)))) (K (.tup (.cons z (.cons (.bool false) .eol))))) (K (.tup (.cons z (.cons (.bool false) .eol))))
      | false => xP fun a K => (cOpd G x).1 a fun v => asIfc v (fun t' v => ifB (Nat.beq t' t) (K v) false) false
    | _, _ => xNo
  | .binOp op t x y _ => xP fun a K => (cOpd G x).1 a fun v => (cOpd G y).1 a fun w => (cBin P (isC x || isC y) t op).1 v w K
  | .unOp .neg _ x => xP fun a K => (cOpd G x).1 a fun v => asInt v fun k n => wrapK k (Int.sub 0 n) fun n => K (.int k n)
  | .unOp .not _ x => xP fun a K => (cOpd G x).1 a fun v => asBool v fun b => frcB (Bool.not b) fun b => K (.bool b)
  | .convert s d x => match undF P s, undF P d with
    | some _, some (.int k) => xP fun a K => (cOpd G x).1 a fun v => asInt v fun _ n => wrapK k n fun n => K (.int k n)
    | some (.int _), some .string => xP fun a K => (cOpd G x).1 a fun v => asInt v fun _ n => asNat n fun n => ifB (Nat.blt n 128) (K (.str [n])) false
    | some .string, some .string => xP fun a K => (cOpd G x).1 a fun v => asStr v fun s => K (.str s)
    | _, _ => xNo
  | .fieldAddr t x i => match undF P t with
    | some (.struct fs) => match fs.toList[i]? with
      | some f => match sizeAt P f.type with
        | some (.succ _) => xP fun a K => (cOpd G x).1 a fun v => asRef v fun p o => frcN (Nat.add o f.offset) fun o => K (.ref p o)
        | _ => xNo
      | none => xNo
    | _ => xNo
  | .indexAddr t x i => match undF P t with
    | some (.slice e) => match sizeAt P e with
      | some s => xP fun a K => (cOpd G x).1 a fun v => (cOpd G i).1 a fun w => asInt w fun _ k => asNat k fun k => asSlc v (fun p o es n _ => ifB (Nat.beq es s && Nat.blt k n) (frcN (Nat.add o (Nat.mul k s)) fun o => K (.ref p o)) false) false
      | none => xNo
    | some (.array n e) => match sizeAt P e with
      | some s => xP fun a K => (cOpd G x).1 a fun v => (cOpd G i).1 a fun w => asInt w fun _ k => asNat k fun k => asRef v fun p o => ifB (Nat.blt k n) (frcN (Nat.add o (Nat.mul k s)) fun o => K (.ref p o)) false
      | none => xNo
    | _ => xNo
  | .index t x i => match undF P t with
    | some .string => xP fun a K => (cOpd G x).1 a fun v => (cOpd G i).1 a fun w => asStr v fun s => asInt w fun _ k => asNat k fun k => dropNs k s fun s => List.rec (motive := fun _ => Bool) false (fun c _ _ => K (.int .u8 (.ofNat c))) s
    | some (.array n e) => match sizeAt P e with
      | some s => xP fun a K => (cOpd G x).1 a fun v => (cOpd G i).1 a fun w => asAgg v fun l => asInt w fun _ k => asNat k fun k => ifB (Nat.blt k n) ((cPart P e (Nat.mul k s)).1 l K) false
      | none => xNo
    | _ => xNo
  | .slice t x lo hi mx => match undF P t, mx with
    | some .string, none => xP fun a K => (cOpd G x).1 a fun v => asStr v fun s => lenK s fun n => natK (cBound G lo) a 0 fun l => natK (cBound G hi) a n fun h => ifB (Nat.ble l h && Nat.ble h n) (cutNs s l h K) false
    | some (.slice e), _ => match sizeAt P e with
      | some es => match hi.isSome || mx.isNone with
        | true => xP fun a K => (cOpd G x).1 a fun v => cutV a (cBound G lo) (cBound G hi) (cBound G mx) es v K
        | false => xNo
      | none => xNo
    | _, _ => xNo
  | .load t x => xR fun a m K => (cOpd G x).1 a fun v => (cLoad P t).1 m v K
  | .alloc e => match zeroL P e with
    | some z => xA fun _ K => K (fillT z) (cntA z) fun p => .ref p 0
    | none => xNo
  | .box e x => xA fun a K => (cOpd G x).1 a fun v => (cCells P e).1 v fun l => fillK l 0 .leaf fun n c => K c n fun p => .ref p 0
  | .buildSlice t n parts => match undF P t with
    | some (.slice e) => match sizeAt P e, zeroL P e with
      | some s, some z => match Nat.ble (Nat.mul n s) 10000 && Nat.beq (cntA z) s with
        | true => xA fun a K => (cFill P G e s n parts.toList).1 a (fillT (repA z n)) fun c => K c (Nat.mul n s) fun p => .slc p 0 s n (some n)
        | false => xNo
      | _, _ => xNo
    | _ => xNo
  | .makeSlice t l c => match undF P t with
    | some (.slice e) => match sizeAt P e, zeroL P e, infoF P e with
      | some s, some z, some it => match Nat.beq (cntA z) s && Nat.ble it.bytes 1000000 with
        | true => xA fun a K => (cOpd G l).1 a fun v => (cOpd G c).1 a fun w => asInt v fun _ l => asNat l fun l => asInt w fun _ c => asNat c fun c => ifB (Nat.ble l c && Nat.ble c 10000) (repK z c 0 .leaf fun n t => K t n fun p => .slc p 0 s l (some c)) false
        | false => xNo
      | _, _, _ => xNo
    | _ => xNo
  | .store t x v => xW fun a m nx K => (cOpd G x).1 a fun x => (cOpd G v).1 a fun v => asRef x fun p o => (cCells P t).1 v fun l => writeK false m p o l fun m => K und m nx
  | .panic x => ⟨fun _ a m nx _ KP => (cOpd G x).1 a fun v => asIfc v (fun t w => KP (.cons (.ifc t w) .eol) m nx) false⟩
  | .call { callee := .builtin .len, args, argTypes } => match args.toList, argTypes.toList with
    | [x], t :: _ => match undF P t with
      | some .string => xP fun a K => (cOpd G x).1 a fun v => asStr v fun s => lenK s fun n => K (.int .i64 (.ofNat n))
      | some (.slice _) => xP fun a K => (cOpd G x).1 a fun v => asSlc v (fun _ _ _ n _ => K (.int .i64 (.ofNat n))) (K (.int .i64 0))
      | _ => xNo
    | _, _ => xNo
  | .call { callee := .builtin .min, args, .. } => match args.toList with
    | [x, y] => xP fun a K => (cOpd G x).1 a fun v => (cOpd G y).1 a fun w => asInt v fun k m => asInt w fun j n => ifB (sameK k j) (ifB (ltI n m) (K (.int k n)) (K (.int k m))) false
    | _ => xNo
  | .call { callee := .builtin .max, args, .. } => match args.toList with
    | [x, y] => xP fun a K => (cOpd G x).1 a fun v => (cOpd G y).1 a fun w => asInt v fun k m => asInt w fun j n => ifB (sameK k j) (ifB (ltI m n) (K (.int k n)) (K (.int k m))) false
    | _ => xNo
  | .call { callee := .builtin .append, args, argTypes } => match elemAt P argTypes.toList, args.toList with
    | some es, [x, y] => xW fun a m nx K => (cOpd G x).1 a fun x => (cOpd G y).1 a fun y => appendK es m nx x y K
    | _, _ => xNo
  | .call { callee := .builtin .clear, args, argTypes } => match args.toList, argTypes.toList with
    | [x], [t] => match undF P t with
      | some (.slice e) => match sizeAt P e, zeroL P e with
        | some s, some z => match Nat.beq (cntA z) s with
          | true => xW fun a m nx K => (cOpd G x).1 a fun v => asSlc v (fun p o es n _ => ifB (Nat.beq n 0) (K und m nx) (ifB (Nat.beq es s) (writeK false m p o (repA z n) fun m => K und m nx) false)) (K und m nx)
          | false => xNo
        | _, _ => xNo
      | _ => xNo
    | _, _ => xNo
  | .call { callee := .value (.func f), args, .. } => let b := cOpds G args.toList; ⟨fun call a m nx K KP => b.1 a fun l => call f l m nx K KP⟩
  | .call { callee := .value x, args, .. } => let b := cOpds G args.toList; ⟨fun call a m nx K KP => (cOpd G x).1 a fun v => asFn v fun f x c => b.1 a fun l => appA l c fun l => appA x l fun l => call f l m nx K KP⟩
  | _ => xNo

/-! ### Code -/
inductive AX where
  | exit (id : Nat)
  | goto (l : Nat)
  | ret
  | pan (c : AV)
structure Dfr where
  f : FuncId
  args : AV
  captured : AV
abbrev KN := T AV → List Dfr → M → Nat → Bool
abbrev KX := AX → T AV → List Dfr → M → Nat → Bool
inductive BC where
  | mk (f : CallK → Nat → T AV → List Dfr → M → Nat → KN → KX → Bool)
abbrev BC.f (b : BC) : CallK → Nat → T AV → List Dfr → M → Nat → KN → KX → Bool := b.1
def cNo : BC := ⟨fun _ _ _ _ _ _ _ _ => false⟩
inductive BP where
  | mk (f : T AV → AV → (T AV → Bool) → Bool)
abbrev BP.f (b : BP) : T AV → AV → (T AV → Bool) → Bool := b.1
def cPut (nt : Nat) : Option Tmp → BP
  | none => ⟨fun a _ K => K a⟩
  | some d => match Nat.blt d nt && Nat.blt d top with
    | true => ⟨fun a v K => T.setP und v d a K⟩
    | false => ⟨fun _ _ _ => false⟩
def cDo (P : Program) (G nt : Nat) (o : Oper) : BC := match o.op with
  | .defer { callee := .value x, args, .. } => let b := cOpds G args.toList; ⟨fun _ _ a ds m nx KN _ => (cOpd G x).1 a fun v => asFn v fun f x c => b.1 a fun l => appA x l fun args => (cPut nt o.dst).1 a und fun a => KN a ({ f, args, captured := c } :: ds) m nx⟩
  | op => ⟨fun call _ a ds m nx KN KX => (cOp P G op).1 call a m nx (fun v m nx => (cPut nt o.dst).1 a v fun a => KN a ds m nx) (fun c m nx => KX (.pan c) a ds m nx)⟩
def isIt (w : Bool) (v : AV) (Y N : Bool) : Bool := AV.rec (motive := fun _ => Bool) (fun _ _ => N) (fun b => Bool.rec (motive := fun _ => Bool) (Bool.rec (motive := fun _ => Bool) Y N w) (Bool.rec (motive := fun _ => Bool) N Y w) b) (fun _ => N) (fun _ _ => N) (fun _ _ _ _ _ => N) (fun _ => N) (fun _ _ _ _ _ => N) (fun _ _ _ => N) (fun _ _ => N) (fun _ _ => N) (fun _ _ _ _ => N) false (fun _ => false) v
def cOne (P : Program) (G nt : Nat) (ops : Array Oper) (o : Oper) : BC := match o.guard with
  | none => cDo P G nt o
  | some (j, w) => match (ops[j]?).bind (·.dst) with
    | none => ⟨fun _ _ a ds m nx KN _ => (cPut nt o.dst).1 a und fun a => KN a ds m nx⟩
    | some d => match Nat.blt d top with
      | false => cNo
      | true => ⟨fun call L a ds m nx KN KX => T.getP und a d fun v => isIt w v ((cDo P G nt o).1 call L a ds m nx KN KX) ((cPut nt o.dst).1 a und fun a => KN a ds m nx)⟩
def cOps (P : Program) (G nt : Nat) (ops : Array Oper) : List Oper → BC
  | [] => ⟨fun _ _ a ds m nx KN _ => KN a ds m nx⟩
  | o :: l => ⟨fun call L a ds m nx KN KX => (cOne P G nt ops o).1 call L a ds m nx (fun a ds m nx => (cOps P G nt ops l).1 call L a ds m nx KN KX) KX⟩
/-! ### Regions that draw their order -/
/-- 0: knows nothing of memory; 1: a load; 2: makes a block; 3: all else. -/
def kindOf : Op → Nat
  | .move _ | .assign _ | .pick .. | .nilCheck _ | .extract .. | .field .. | .makeInterface .. | .makeFunc .. | .build .. | .typeAssert .. | .binOp .. | .unOp .. | .convert .. | .fieldAddr .. | .indexAddr .. | .index .. | .slice .. => 0
  | .call { callee := .builtin .len, .. } | .call { callee := .builtin .min, .. } | .call { callee := .builtin .max, .. } => 0
  | .load .. => 1
  | .alloc _ | .box .. | .buildSlice .. | .makeSlice .. => 2
  | _ => 3
def nth (ms : List Nat) (i : Nat) : Nat := List.rec (motive := fun _ => Nat → Nat) (fun _ => 0) (fun x _ ih i => Nat.rec (motive := fun _ => Nat) x (fun j _ => ih j) i) ms i
/-- What comes ahead of an operation, in bits. -/
def orMask (ms : List Nat) : List Edge → Nat
  | [] => 0
  | e :: l => match Region.binds .any e with
    | true => Nat.lor (Nat.lor (orMask ms l) (Nat.pow 2 e.on)) (nth ms e.on)
    | false => orMask ms l
def masks : List Oper → List Nat → List Nat
  | [], ms => ms
  | o :: l, ms => masks l (ms ++ [orMask ms o.after.toList])
def inMask (m done : Nat) : Bool := Nat.beq (Nat.land m done) m
def pickBy (f : Nat → Bool) : List Nat → Option Nat
  | [] => none
  | i :: l => match f i with
    | true => some i
    | false => pickBy f l
def dropIt (i : Nat) : List Nat → List Nat
  | [] => []
  | j :: l => match Nat.beq i j with
    | true => l
    | false => j :: dropIt i l
def kindAt (ops : List Oper) (i : Nat) : Nat := match ops[i]? with
  | some o => kindOf o.op
  | none => 3
/-- The order in which the evaluator runs a region: what is no call and no store comes as early as it may. -/
def orderOf (ops : List Oper) (ms : List Nat) : Nat → Nat → List Nat → List Nat
  | 0, _, _ => []
  | f + 1, done, todo => match pickBy (fun i => inMask (nth ms i) done && Nat.blt (kindAt ops i) 3) todo with
    | some i => i :: orderOf ops ms f (Nat.lor done (Nat.pow 2 i)) (dropIt i todo)
    | none => match pickBy (fun i => inMask (nth ms i) done) todo with
      | some i => i :: orderOf ops ms f (Nat.lor done (Nat.pow 2 i)) (dropIt i todo)
      | none => []
/-- Loads that were run before and that need not come ahead of operation i. -/
def againOf (ops : List Oper) (m : Nat) : List Nat → List Nat
  | [] => []
  | j :: l => match Nat.beq (kindAt ops j) 1 && !Nat.testBit m j with
    | true => j :: againOf ops m l
    | false => againOf ops m l
def stepsOf (ops : List Oper) (ms : List Nat) : List Nat → List Nat → List (Nat × List Nat)
  | _, [] => []
  | done, i :: l => (i, match Nat.beq (kindAt ops i) 3 with
      | true => againOf ops (nth ms i) done
      | false => []) :: stepsOf ops ms (i :: done) l
/-- Each operation once, behind what comes ahead of it; calls and stores in one row; what is none behind the last of them alone if it must. -/
def rowOk (ops : List Oper) (ms : List Nat) : Nat → Option Nat → List Nat → Bool
  | done, _, [] => Nat.beq done (Nat.sub (Nat.pow 2 ops.length) 1)
  | done, last, i :: l => Nat.blt i ops.length && !Nat.testBit done i && inMask (nth ms i) done && (match last with
      | none => true
      | some c => Nat.testBit (nth ms i) c) && rowOk ops ms (Nat.lor done (Nat.pow 2 i)) (match Nat.beq (kindAt ops i) 3 with
        | true => some i
        | false => last) l
def masksOk (ms : List Nat) : List Oper → Nat → Bool
  | [], _ => true
  | o :: l, j => Nat.beq (nth ms j) (orMask ms o.after.toList) && masksOk ms l (Nat.succ j)
def dstsOk : List Oper → Nat → Bool
  | [], _ => true
  | o :: l, d => match o.dst with
    | none => dstsOk l d
    | some t => Nat.blt t top && !Nat.testBit d t && dstsOk l (Nat.lor d (Nat.pow 2 t))
/-- The temporaries that an operation looks at. -/
def looks (ops : List Oper) (o : Oper) : List Nat :=
  (o.op.operands.toList.filterMap fun | .tmp t => some t | _ => none) ++ (match o.guard with
    | some (g, _) => ((ops[g]?).bind (·.dst)).toList
    | none => [])
/-- Who writes a temporary comes ahead of who looks at it, or behind. -/
def writeOk (ms : List Nat) (strict : Bool) (j t : Nat) : List Oper → Nat → Bool
  | [], _ => true
  | o :: l, i => (match o.dst with
      | none => true
      | some d => !Nat.beq d t || (!strict && Nat.beq i j) || Nat.testBit (nth ms j) i || (!strict && Nat.testBit (nth ms i) j)) && writeOk ms strict j t l (Nat.succ i)
def looksOk (all : List Oper) (ms : List Nat) : List Oper → Nat → Bool
  | [], _ => true
  | o :: l, j => (looks all o).all (fun t => writeOk ms (Nat.beq (kindOf o.op) 1) j t all 0) && looksOk all ms l (Nat.succ j)
/-! The same, made for the kernel -/
def bitQ (m i : Nat) : Bool := Nat.beq (Nat.mod (Nat.div m (Nat.pow 2 i)) 2) 1
def snocQ (l : List Nat) (x : Nat) : List Nat := List.rec (motive := fun _ => List Nat) [x] (fun y _ ih => y :: ih) l
def orQ (ms : List Nat) (l : List Edge) : Nat := List.rec (motive := fun _ => Nat) 0 (fun e _ ih => ifB (Region.binds .any e) (Nat.lor (Nat.lor ih (Nat.pow 2 e.on)) (nth ms e.on)) ih) l
def masksF (l : List Oper) : List Nat → List Nat := List.rec (motive := fun _ => List Nat → List Nat) (fun ms => ms) (fun o _ ih ms => frcN (orQ ms o.after.toList) fun m => ih (snocQ ms m)) l
def masksQ (ms : List Nat) (l : List Oper) : Nat → Bool := List.rec (motive := fun _ => Nat → Bool) (fun _ => true) (fun o _ ih j => ifB (Nat.beq (nth ms j) (orQ ms o.after.toList)) (frcN (Nat.succ j) ih) false) l
def dstsQ (l : List Oper) : Nat → Bool := List.rec (motive := fun _ => Nat → Bool) (fun _ => true) (fun o _ ih d => Option.rec (motive := fun _ => Bool) (ih d) (fun t => ifB (Nat.blt t top) (ifB (bitQ d t) false (frcN (Nat.lor d (Nat.pow 2 t)) ih)) false) o.dst) l
def writeQ (ms : List Nat) (strict : Bool) (j t : Nat) (l : List Oper) : Nat → Bool := List.rec (motive := fun _ => Nat → Bool) (fun _ => true) (fun o _ ih i => ifB (Option.rec (motive := fun _ => Bool) true (fun d => ifB (Nat.beq d t) ((!strict && Nat.beq i j) || Nat.testBit (nth ms j) i || (!strict && Nat.testBit (nth ms i) j)) true) o.dst) (frcN (Nat.succ i) ih) false) l
def allQ (f : Nat → Bool) (l : List Nat) : Bool := List.rec (motive := fun _ => Bool) true (fun x _ ih => ifB (f x) ih false) l
def looksQ (all : List Oper) (ms : List Nat) (l : List Oper) : Nat → Bool := List.rec (motive := fun _ => Nat → Bool) (fun _ => true) (fun o _ ih j => ifB (allQ (fun t => writeQ ms (Nat.beq (kindOf o.op) 1) j t all 0) (looks all o)) (frcN (Nat.succ j) ih) false) l
def rowQ (ops : List Oper) (ms : List Nat) (l : List Nat) : Nat → Option Nat → Bool :=
  List.rec (motive := fun _ => Nat → Option Nat → Bool) (fun done _ => Nat.beq done (Nat.sub (Nat.pow 2 ops.length) 1)) (fun i _ ih done last => ifB (Nat.blt i ops.length) (ifB (bitQ done i) false (ifB (inMask (nth ms i) done) (ifB (Option.rec (motive := fun _ => Bool) true (fun c => bitQ (nth ms i) c) last)
    (frcN (Nat.lor done (Nat.pow 2 i)) fun done => ih done (ifB (Nat.beq (kindAt ops i) 3) (some i) last)) false) false)) false) l
def pickQ (ms : List Nat) (done : Nat) (ks : Nat → Bool) (l : List Nat) : Option Nat := List.rec (motive := fun _ => Option Nat) none (fun i _ ih => ifB (inMask (nth ms i) done) (ifB (ks i) (some i) ih) ih) l
def dropQ (i : Nat) (l : List Nat) : List Nat := List.rec (motive := fun _ => List Nat) [] (fun j l ih => ifB (Nat.beq i j) l (j :: ih)) l
def orderQ (ops : List Oper) (ms : List Nat) (f : Nat) : Nat → List Nat → List Nat :=
  Nat.rec (motive := fun _ => Nat → List Nat → List Nat) (fun _ _ => []) (fun _ ih done todo => Option.rec (motive := fun _ => List Nat) (Option.rec (motive := fun _ => List Nat) [] (fun i => frcN (Nat.lor done (Nat.pow 2 i)) fun done => i :: ih done (dropQ i todo)) (pickQ ms done (fun _ => true) todo))
    (fun i => frcN (Nat.lor done (Nat.pow 2 i)) fun done => i :: ih done (dropQ i todo)) (pickQ ms done (fun i => Nat.blt (kindAt ops i) 3) todo)) f
def noDefer (l : List Oper) : Bool := List.rec (motive := fun _ => Bool) true (fun o _ ih => ifB (match o.op with | .defer _ => false | _ => true) ih false) l
def planOf (ops : List Oper) : Option (List (Nat × List Nat)) :=
  let ms := masksF ops []
  let row := orderQ ops ms ops.length 0 (List.range ops.length)
  match ifB (noDefer ops) (ifB (masksQ ms ops 0) (ifB (rowQ ops ms row 0 none) (ifB (dstsQ ops 0) (looksQ ops ms ops 0) false) false) false) false with
  | true => some (stepsOf ops ms [] row)
  | false => none
/-- Equality of values, all in all. -/
def sameV : AV → AV → Bool
  | .int k a, .int j b => sameK k j && eqI a b
  | .bool a, .bool b => Bool.rec (Bool.rec true false b) b a
  | .str s, .str t => eqNs s t
  | .ref p o, .ref q r => Nat.beq p q && Nat.beq o r
  | .slc p o es n c, .slc p' o' es' n' c' => Nat.beq p p' && Nat.beq o o' && Nat.beq es es' && Nat.beq n n' && c == c'
  | .nil .p, .nil .p => true
  | .nil .s, .nil .s => true
  | .nil .f, .nil .f => true
  | .nil .i, .nil .i => true
  | .fn f x c, .fn g y d => Nat.beq f g && sameV x y && sameV c d
  | .ifc t v, .ifc u w => Nat.beq t u && sameV v w
  | .agg l, .agg r => sameV l r
  | .tup l, .tup r => sameV l r
  | .cons x l, .cons y r => sameV x y && sameV l r
  | .eol, .eol => true
  | _, _ => false
inductive BE where
  | mk (f : T AV → M → Bool → Bool)
abbrev BE.f (b : BE) : T AV → M → Bool → Bool := b.1
/-- A load is run again: it must yield what it yielded. -/
def cAgain1 (P : Program) (G : Nat) (ops : List Oper) (j : Nat) : BE := match ops[j]? with
  | none => ⟨fun _ _ _ => false⟩
  | some o => match o.op, o.dst with
    | .load t x, some d =>
      let b : BE := ⟨fun a m K => (cOpd G x).1 a fun v => (cLoad P t).1 m v fun w => T.getP und a d fun u => ifB (sameV w u) K false⟩
      match o.guard with
      | none => b
      | some (g, w) => match (ops[g]?).bind (·.dst) with
        | none => ⟨fun _ _ K => K⟩
        | some gd => ⟨fun a m K => T.getP und a gd fun v => isIt w v (b.1 a m K) K⟩
    | _, _ => ⟨fun _ _ _ => false⟩
def cAgain (P : Program) (G : Nat) (ops : List Oper) : List Nat → BE
  | [] => ⟨fun _ _ K => K⟩
  | j :: l => ⟨fun a m K => (cAgain1 P G ops j).1 a m ((cAgain P G ops l).1 a m K)⟩
inductive BJ where
  | mk (f : T AV → (T AV → Bool) → Bool)
abbrev BJ.f (b : BJ) : T AV → (T AV → Bool) → Bool := b.1
/-- Nothing is known any more of what the region writes. -/
def cJunk : List Oper → BJ
  | [] => ⟨fun a K => K a⟩
  | o :: l => match o.dst with
    | none => cJunk l
    | some d => ⟨fun a K => T.setP und .eol d a fun a => (cJunk l).1 a K⟩
def cPlan (P : Program) (G nt : Nat) (ops : Array Oper) : List (Nat × List Nat) → BC
  | [] => ⟨fun _ _ a ds m nx KN _ => KN a ds m nx⟩
  | (i, again) :: l => match ops[i]? with
    | none => cNo
    | some o => ⟨fun call L a ds m nx KN KX => (cOne P G nt ops o).1 call L a ds m nx (fun a ds m nx => (cAgain P G ops.toList again).1 a m ((cPlan P G nt ops l).1 call L a ds m nx KN KX)) (fun e a ds m nx => (cJunk ops.toList).1 a fun a => KX e a ds m nx)⟩
def cDraw (P : Program) (G nt : Nat) (ops : Array Oper) : BC := match P.follows .mixedOrders, planOf ops.toList with
  | true, some l => cPlan P G nt ops l
  | _, _ => cNo
def loopK (b : BC) (call : CallK) (L : Nat) (KX : KX) (n : Nat) : T AV → List Dfr → M → Nat → Bool :=
  Nat.rec (motive := fun _ => T AV → List Dfr → M → Nat → Bool) (fun _ _ _ _ => false) (fun _ ih a ds m nx => b.1 call L a ds m nx (fun a ds m nx => ih a ds m nx) KX) n
def outOf (id : Nat) (KN : KN) (KX : KX) (e : AX) (a : T AV) (ds : List Dfr) (m : M) (nx : Nat) : Bool :=
  AX.rec (motive := fun _ => Bool) (fun i => ifB (Nat.beq i id) (KN a ds m nx) (KX (.exit i) a ds m nx)) (fun l => KX (.goto l) a ds m nx) (KX .ret a ds m nx) (fun c => KX (.pan c) a ds m nx) e
def cCode (P : Program) (G nt : Nat) : Code → BC
  | .skip => ⟨fun _ _ a ds m nx KN _ => KN a ds m nx⟩
  | .label _ => ⟨fun _ _ a ds m nx KN _ => KN a ds m nx⟩
  | .region _ ops false => cOps P G nt ops ops.toList
  | .region _ ops true => cDraw P G nt ops
  | .seq x y => ⟨fun call L a ds m nx KN KX => (cCode P G nt x).1 call L a ds m nx (fun a ds m nx => (cCode P G nt y).1 call L a ds m nx KN KX) KX⟩
  | .cond c x y => ⟨fun call L a ds m nx KN KX => (cOpd G c).1 a fun v => asBool v fun b => ifB b ((cCode P G nt x).1 call L a ds m nx KN KX) ((cCode P G nt y).1 call L a ds m nx KN KX)⟩
  | .block id x => ⟨fun call L a ds m nx KN KX => (cCode P G nt x).1 call L a ds m nx KN (outOf id KN KX)⟩
  | .loop x => ⟨fun call L a ds m nx _ KX => loopK (cCode P G nt x) call L KX L a ds m nx⟩
  | .exit id => ⟨fun _ _ a ds m nx _ KX => KX (.exit id) a ds m nx⟩
  | .goto l => ⟨fun _ _ a ds m nx _ KX => KX (.goto l) a ds m nx⟩
  | .ret => ⟨fun _ _ a ds m nx _ KX => KX .ret a ds m nx⟩
  | _ => cNo
/-- The results of a function. -/
inductive BQ where
  | mk (f : T AV → M → (AV → Bool) → Bool)
abbrev BQ.f (b : BQ) : T AV → M → (AV → Bool) → Bool := b.1
def cRes1 (P : Program) : ResultVar → BQ
  | .tmp t => match Nat.blt t top with
    | true => ⟨fun a _ K => T.getP und a t K⟩
    | false => ⟨fun _ _ _ => false⟩
  | .cell x t => match Nat.blt x top with
    | true => ⟨fun a m K => T.getP und a x fun v => (cLoad P t).1 m v K⟩
    | false => ⟨fun _ _ _ => false⟩
def cResL (P : Program) : List ResultVar → BQ
  | [] => ⟨fun _ _ K => K .eol⟩
  | r :: l => ⟨fun a m K => (cRes1 P r).1 a m fun v => (cResL P l).1 a m fun w => K (.cons v w)⟩
def cRes (P : Program) : List ResultVar → BQ
  | [r] => cRes1 P r
  | l => ⟨fun a m K => (cResL P l).1 a m fun w => K (.tup w)⟩
def enterK (l : AV) (K : T AV → Bool) : Bool :=
  foldAV (fun _ c => K c) (fun x r o c => T.setP und x o c fun c => frcN (Nat.succ o) fun o => r o c) l 0 .leaf
/-- How the function that is left stands: whether it panics, and which panics are recovered. -/
abbrev AM := Option (List (AV × Bool))
def chainA (l : AV) : List (AV × Bool) := foldAV [] (fun x r => (x, false) :: r) l
def settleA : AM → AM
  | some ((_, true) :: _) => none
  | u => u
def unchainA : List (AV × Bool) → Option AV
  | [] => some .eol
  | (v, false) :: l => (unchainA l).map (.cons v)
  | _ => none
abbrev KM := T AV → List Dfr → M → Nat → AM → Bool
abbrev KY := AX → T AV → List Dfr → M → Nat → AM → Bool
inductive BD where
  | mk (f : CallK → Nat → T AV → List Dfr → M → Nat → AM → KM → KY → Bool)
abbrev BD.f (b : BD) : CallK → Nat → T AV → List Dfr → M → Nat → AM → KM → KY → Bool := b.1
def recAM (u : AM) (K : AV → AM → Bool) : Bool := match u with
  | some ((v, false) :: r) => K v (some ((v, true) :: r))
  | u => K (.nil .i) u
def isRec : Op → Bool
  | .call { callee := .builtin .recover, .. } => true
  | _ => false
def cRecOps (P : Program) (G nt : Nat) (ops : Array Oper) : List Oper → BD
  | [] => ⟨fun _ _ a ds m nx u KM _ => KM a ds m nx u⟩
  | o :: l => match isRec o.op && o.guard.isNone with
    | true => ⟨fun call L a ds m nx u KM KY => recAM u fun v u => (cPut nt o.dst).1 a v fun a => (cRecOps P G nt ops l).1 call L a ds m nx u KM KY⟩
    | false => ⟨fun call L a ds m nx u KM KY => (cOne P G nt ops o).1 call L a ds m nx (fun a ds m nx => (cRecOps P G nt ops l).1 call L a ds m nx u KM KY) (fun e a ds m nx => KY e a ds m nx u)⟩
def hasRec : Code → Bool
  | .region _ ops _ => ops.any fun o => isRec o.op
  | .seq x y => hasRec x || hasRec y
  | _ => false
/-- The body of a function that was put off: it may recover. -/
def cRec (P : Program) (G nt : Nat) : Code → BD
  | .seq x y => match hasRec (.seq x y) with
    | true => ⟨fun call L a ds m nx u KM KY => (cRec P G nt x).1 call L a ds m nx u (fun a ds m nx u => (cRec P G nt y).1 call L a ds m nx u KM KY) KY⟩
    | false => ⟨fun call L a ds m nx u KM KY => (cCode P G nt (.seq x y)).1 call L a ds m nx (fun a ds m nx => KM a ds m nx u) (fun e a ds m nx => KY e a ds m nx u)⟩
  | .region id ops false => match hasRec (.region id ops false) with
    | true => cRecOps P G nt ops ops.toList
    | false => ⟨fun call L a ds m nx u KM KY => (cCode P G nt (.region id ops false)).1 call L a ds m nx (fun a ds m nx => KM a ds m nx u) (fun e a ds m nx => KY e a ds m nx u)⟩
  | c => ⟨fun call L a ds m nx u KM KY => (cCode P G nt c).1 call L a ds m nx (fun a ds m nx => KM a ds m nx u) (fun e a ds m nx => KY e a ds m nx u)⟩
inductive BG where
  | mk (f : CallK → Nat → AV → M → Nat → AM → (M → Nat → AM → Bool) → Bool)
abbrev BG.f (b : BG) : CallK → Nat → AV → M → Nat → AM → (M → Nat → AM → Bool) → Bool := b.1
def noDs (ds : List Dfr) (K : Bool) : Bool := List.rec (motive := fun _ => Bool) K (fun _ _ _ => false) ds
/-- A function that was put off. -/
def cDfr (P : Program) (G : Nat) (f : FuncId) : BG := match funF P f with
  | none => ⟨fun _ _ _ _ _ _ _ => false⟩
  | some g => match g.body with
    | none => ⟨fun _ _ _ _ _ _ _ => false⟩
    | some b => match Nat.ble g.ntmps top && !(g.name == "runtime.NumGoroutine") with
      | false => ⟨fun _ _ _ _ _ _ _ => false⟩
      | true =>
      let r := cRes P g.results.toList
      let d := cRec P G g.ntmps b
      ⟨fun call L l m nx u K => ifB (Nat.ble (cntA l) g.ntmps) (enterK l fun a => d.1 call L a [] m nx u (fun a ds m nx u => noDs ds (r.1 a m fun _ => K m nx u))
        (fun e a ds m nx u => AX.rec (motive := fun _ => Bool) (fun _ => false) (fun _ => false) (noDs ds (r.1 a m fun _ => K m nx u)) (fun _ => false) e)) false⟩
/-- A function is left: what was put off is called. -/
def leaveK (P : Program) (G : Nat) (call : CallK) (L : Nat) (q : BQ) (a : T AV) (KR KP : KV) : List Dfr → M → Nat → AM → Bool
  | [], m, nx, none => q.1 a m fun v => KR v m nx
  | [], m, nx, some c => ifO (unchainA c) (fun c => KP c m nx) false
  | d :: ds, m, nx, u => appA d.args d.captured fun l => (cDfr P G d.f).1 call L l m nx u fun m nx u => leaveK P G call L q a KR KP ds m nx (settleA u)
/-- Functions that are not walked into: what they answer. -/
abbrev Prims := FuncId → Option BR
inductive BF where
  | mk (f : CallK → Nat → AV → M → Nat → KV → KV → Bool)
abbrev BF.f (b : BF) : CallK → Nat → AV → M → Nat → KV → KV → Bool := b.1
def goOut (P : Program) (G : Nat) (call : CallK) (L : Nat) (q : BQ) (a : T AV) (KR KP : KV) (ds : List Dfr) (m : M) (nx : Nat) : Bool :=
  List.rec (motive := fun _ => Bool) (q.1 a m fun v => KR v m nx) (fun d l _ => leaveK P G call L q a KR KP (d :: l) m nx none) ds
def cFun (P : Program) (pr : Prims) (G : Nat) (f : FuncId) : BF := match pr f with
  | some g => ⟨fun _ _ l m nx K _ => g.1 m l fun v => K v m nx⟩
  | none => match funF P f with
    | none => ⟨fun _ _ _ _ _ _ _ => false⟩
    | some fn => match fn.body with
      | none => ⟨fun _ _ _ _ _ _ _ => false⟩
      | some b => match Nat.ble fn.ntmps top && !(fn.name == "runtime.NumGoroutine") with
        | false => ⟨fun _ _ _ _ _ _ _ => false⟩
        | true =>
        let q := cRes P fn.results.toList
        let c := cCode P G fn.ntmps b
        ⟨fun call L l m nx KR KP => ifB (Nat.ble (cntA l) fn.ntmps) (enterK l fun a => c.1 call L a [] m nx (goOut P G call L q · KR KP)
          (fun e a ds m nx => AX.rec (motive := fun _ => Bool) (fun _ => false) (fun _ => false) (goOut P G call L q a KR KP ds m nx)
            (fun c => List.rec (motive := fun _ => Bool) (KP c m nx) (fun d l _ => leaveK P G call L q a KR KP (d :: l) m nx (some (chainA c))) ds) e)) false⟩
/-- A call, n deep; L: how many rounds a loop may take. -/
def evC (P : Program) (pr : Prims) (G L : Nat) (n : Nat) : CallK :=
  Nat.rec (motive := fun _ => CallK) (fun _ _ _ _ _ _ => false) (fun _ ih f l m nx K KP => (cFun P pr G f).1 ih L l m nx K KP) n
def idxNs (c : Nat) (l : List Nat) : Nat → Int := List.rec (motive := fun _ => Nat → Int) (fun _ => .negSucc 0) (fun x _ ih i => ifB (Nat.beq x c) (.ofNat i) (ih (Nat.succ i))) l
def cntNs (c : Nat) (l : List Nat) : Nat → Nat := List.rec (motive := fun _ => Nat → Nat) (fun i => i) (fun x _ ih i => ifB (Nat.beq x c) (ih (Nat.succ i)) (ih i)) l
def preNs (p : List Nat) : List Nat → Bool :=
  List.rec (motive := fun _ => List Nat → Bool) (fun _ => true) (fun a _ ih y => List.rec (motive := fun _ => Bool) false (fun b z _ => ifB (Nat.beq a b) (ih z) false) y) p
def subNs (p l : List Nat) : Nat → Int := List.rec (motive := fun _ => Nat → Int) (fun i => List.rec (motive := fun _ => Int) (.ofNat i) (fun _ _ _ => .negSucc 0) p) (fun x l ih i => ifB (preNs p (x :: l)) (.ofNat i) (ih (Nat.succ i))) l
def isSym (i : Nat) (v : AV) (K : Bool) : Bool := AV.rec (motive := fun _ => Bool) (fun _ _ => false) (fun _ => false) (fun _ => false) (fun _ _ => false) (fun _ _ _ _ _ => false) (fun _ => false) (fun _ _ _ _ _ => false) (fun _ _ _ => false) (fun _ _ => false) (fun _ _ => false) (fun _ _ _ _ => false) false (fun j => ifB (Nat.beq j i) K false) v
def primIndexByte : BR := ⟨fun _ l K => asCons l fun x l => asCons l fun y _ => asStr x fun s => asInt y fun k n => ifB (sameK k .u8) (asNat n fun n => frcI (idxNs n s 0) fun r => K (.int .i64 r)) false⟩
def primCount : BR := ⟨fun _ l K => asCons l fun x l => asCons l fun y _ => asStr x fun s => asInt y fun k n => ifB (sameK k .u8) (asNat n fun n => frcN (cntNs n s 0) fun r => K (.int .i64 (.ofNat r))) false⟩
/-- Package variable g holds a whole number, symbol 0. -/
def primIndex (g : Nat) : BR := ⟨fun m l K => blkK m g fun c n _ _ => ifB (Nat.blt 0 n) (getN c 0 fun v => isSym 0 v (asCons l fun x l => asCons l fun y _ => asStr x fun s => asStr y fun p => lenK s fun n => ifB (Nat.blt n 4294967281) (frcI (subNs p s 0) fun r => K (.int .i64 r)) false)) false⟩
def primSame : BR := ⟨fun _ l K => asCons l fun x _ => asStr x fun s => lenK s fun n => ifB (Nat.ble n 281474976710656) (K x) false⟩
end
end Go.Proofs.YtdoddlkppkegnaaGreatDoor.Ev
