/- Classes in plain words: Find, Check, Instances, super, Instance, entail, proves, reduce. No program in sight. -/
import Derived.Test.YtdljlpogljjldaaDoorCPf
import Derived.Test.YtdljlpogljjldaaDoorCChk
namespace Go.Proofs.YtdljlpogljjldaaDoor
open Go.RowKit Go.Shelf

def findC (l : List ClassSig) (n : ByteArray) : Option ClassSig := l.find? fun c => decide (c.name = n)
def hasN (l : List ByteArray) (s : ByteArray) : Bool := l.any fun y => decide (s = y)
/-- Whether a name stands twice. -/
def twiceC : List ClassSig → List ClassSig → Bool
  | _, [] => false
  | pre, c :: r => if pre.any (fun x => decide (x.name = c.name)) = true then true else twiceC (pre ++ [c]) r
def supErr (l : List ClassSig) : List ByteArray → List ByteArray → Int
  | _, [] => 0
  | pre, s :: r => if (findC l s).isSome = false then 6 else if hasN pre s = true then 7 else supErr l (pre ++ [s]) r
def supsErr (l : List ClassSig) : List ClassSig → Int
  | [] => 0
  | c :: r => if supErr l [] c.super ≠ 0 then supErr l [] c.super else supsErr l r
def doneOk (done : List ByteArray) (c : ClassSig) : Bool := !(hasN done c.name) && !(c.super.any fun s => !(hasN done s))
def doneStep (done : List ByteArray) (c : ClassSig) : List ByteArray := if doneOk done c = true then done ++ [c.name] else done
def doneAll (l : List ClassSig) : Nat → List ByteArray → List ByteArray
  | 0, d => d
  | n + 1, d => doneAll l n (l.foldl doneStep d)
def checkC (l : List ClassSig) : Int :=
  if 4096 < l.length then 2 else if twiceC [] l = true then 7 else if supsErr l l ≠ 0 then supsErr l l
  else if (doneAll l l.length []).length < l.length then 8 else 0
/-- Whether the arguments are different variables. -/
def headR : List Ty → List Ty → Bool
  | _, [] => true
  | pre, a :: r => if a.kind ≠ 0 ∨ pre.any (fun b => decide (b.var = a.var)) = true then false else headR (pre ++ [a]) r
def headed (t : Ty) : Bool := if t.kind ≠ 1 then false else headR [] t.args
def predsErr (l : List ClassSig) (x : InstSig) : List Pred → Int
  | [] => 0
  | p :: r => if (findC l p.cls).isSome = false then 6 else if p.ty.kind ≠ 0 ∨ intIn (freeP x.head) p.ty.var = false then 3 else predsErr l x r
def instErr (l : List ClassSig) (pre : List InstSig) (x : InstSig) : Int :=
  if (findC l x.cls).isSome = false then 6 else if (chk x.head 4096 false 1).1 ≠ 0 then (chk x.head 4096 false 1).1 else if headed x.head = false then 3
  else if predsErr l x x.preds ≠ 0 then predsErr l x x.preds else if pre.any (fun y => decide (y.cls = x.cls) && decide (y.head.name = x.head.name)) = true then 7 else 0
def instsErr (l : List ClassSig) : List InstSig → List InstSig → Int
  | _, [] => 0
  | pre, x :: r => if instErr l pre x ≠ 0 then instErr l pre x else instsErr l (pre ++ [x]) r
def instC (l : List ClassSig) (insts : List InstSig) : Int := if checkC l ≠ 0 then checkC l else if 4096 < insts.length then 2 else instsErr l [] insts

/-! ### Searching -/
def zPf : Pf := .mk 0 0 []
def superL (f : ByteArray → Pf → List ByteArray → Option (Option Pf × List ByteArray)) (p : Pf) : Nat → List ByteArray → List ByteArray → Option (Option Pf × List ByteArray)
  | _, [], seen => some (none, seen)
  | i, s :: r, seen => match f s (.mk 1 (i : Int) [p]) seen with
    | none => none
    | some (some q, seen') => some (some q, seen')
    | some (none, seen') => superL f p (i + 1) r seen'
def supOf (l : List ClassSig) (n : ByteArray) : List ByteArray := match findC l n with
  | none => []
  | some c => c.super
def superP (l : List ClassSig) (want : ByteArray) : Nat → ByteArray → Pf → List ByteArray → Option (Option Pf × List ByteArray)
  | 0, _, _, _ => none
  | q + 1, have_, p, seen => if have_ = want then some (some p, seen) else if hasN seen have_ = true then some (none, seen)
    else superL (superP l want q) p 0 (supOf l have_) (seen ++ [have_])
def instHit (x : InstSig) (want : Pred) : Bool := decide (x.cls = want.cls) && decide (want.ty.kind = 1) && decide (x.head.name = want.ty.name) && decide (x.head.args.length = want.ty.args.length)
/-- The requirements on the arguments that stand for the variable of a requirement. -/
def needK (p : Pred) : List Ty → List Ty → List Pred
  | a :: l, t :: m => if a.var = p.ty.var then ⟨p.cls, t⟩ :: needK p l m else needK p l m
  | _, _ => []
def needsOf (x : InstSig) (want : Pred) : List Pred := x.preds.flatMap fun p => needK p x.head.args want.ty.args
def instanceP (want : Pred) : Nat → List InstSig → Option (Nat × List Pred)
  | _, [] => none
  | i, x :: r => if instHit x want = true then some (i, needsOf x want) else instanceP want (i + 1) r
def sameB (a b : Ty) : Bool := eqT (normP a) (normP b)
def givenP (l : List ClassSig) (want : Pred) (q : Nat) : Nat → List Pred → Option (Option Pf)
  | _, [] => some none
  | i, h :: r => if sameB h.ty want.ty = true then
      match superP l want.cls q h.cls (.mk 0 (i : Int) []) [] with
      | none => none
      | some (some p, _) => some (some p)
      | some (none, _) => givenP l want q (i + 1) r
    else givenP l want q (i + 1) r
def entailL (f : Pred → Int → Option (Pf × Int × Int)) : List Pred → List Pf → Int → Option (List Pf × Int × Int)
  | [], acc, left => some (acc, 0, left)
  | n :: r, acc, left => match f n left with
    | none => none
    | some (p, e, left') => if e ≠ 0 then some (acc, e, left') else entailL f r (acc ++ [p]) left'
def entailP (l : List ClassSig) (insts : List InstSig) (have_ : List Pred) (k : Nat) : Nat → Pred → Int → Int → Option (Pf × Int × Int)
  | 0, _, _, _ => none
  | q + 1, want, depth, left => if 400 < depth ∨ left - 1 < 0 then some (zPf, 2, left - 1)
    else match givenP l want k 0 have_ with
      | none => none
      | some (some p) => some (p, 0, left - 1)
      | some none => match instanceP want 0 insts with
        | none => some (zPf, 11, left - 1)
        | some (i, needs) => match entailL (fun n left => entailP l insts have_ k q n (depth + 1) left) needs [] (left - 1) with
          | none => none
          | some (subs, e, left') => if e ≠ 0 then some (zPf, e, left') else some (.mk 2 (i : Int) subs, 0, left')
def givenErr (l : List ClassSig) : List Pred → Int
  | [] => 0
  | p :: r => if (findC l p.cls).isSome = false then 6 else if (chk p.ty 4096 false 1).1 ≠ 0 then (chk p.ty 4096 false 1).1 else givenErr l r
def entailS (l : List ClassSig) (insts : List InstSig) (have_ : List Pred) (want : Pred) (k q : Nat) : Option (Pf × Int) :=
  if instC l insts ≠ 0 then some (zPf, instC l insts) else if 4096 < have_.length then some (zPf, 2) else if givenErr l (have_ ++ [want]) ≠ 0 then some (zPf, givenErr l (have_ ++ [want]))
  else match entailP l insts have_ k q want 1 4096 with
    | none => none
    | some (p, e, _) => some (p, e)
mutual
/-- The class that a proof shows for a type; none: it is no proof. -/
def provesP (l : List ClassSig) (insts : List InstSig) (have_ : List Pred) : Pf → Ty → Option ByteArray
  | .mk k n subs, t =>
    if k = 0 ∧ 0 ≤ n ∧ n < (have_.length : Int) ∧ subs.length = 0 then
      match have_[n.toNat]? with
      | none => none
      | some h => if sameB h.ty t = true then some h.cls else none
    else if k = 1 ∧ subs.length = 1 then
      match provesOne l insts have_ subs t with
      | none => none
      | some name => match findC l name with
        | none => none
        | some c => if 0 ≤ n ∧ n < (c.super.length : Int) then c.super[n.toNat]? else none
    else if k = 2 ∧ 0 ≤ n ∧ n < (insts.length : Int) then
      match insts[n.toNat]? with
      | none => none
      | some x => match instanceP ⟨x.cls, t⟩ 0 insts with
        | none => none
        | some (i, needs) => if (i : Int) = n ∧ needs.length = subs.length ∧ provesAll l insts have_ subs needs = true then some x.cls else none
    else none
def provesOne (l : List ClassSig) (insts : List InstSig) (have_ : List Pred) : List Pf → Ty → Option ByteArray
  | [], _ => none
  | s :: _, t => provesP l insts have_ s t
def provesAll (l : List ClassSig) (insts : List InstSig) (have_ : List Pred) : List Pf → List Pred → Bool
  | s :: r, n :: m => if provesP l insts have_ s n.ty = some n.cls then provesAll l insts have_ r m else false
  | [], [] => true
  | _, _ => false
end
def provesS (l : List ClassSig) (insts : List InstSig) (have_ : List Pred) (want : Pred) (p : Pf) : Bool := if instC l insts ≠ 0 then false else decide (provesP l insts have_ p want.ty = some want.cls)
def reduceL (f : Pred → List Pred → Int → Option (Int × List Pred × Int)) : List Pred → List Pred → Int → Option (Int × List Pred × Int)
  | [], out, left => some (0, out, left)
  | n :: r, out, left => match f n out left with
    | none => none
    | some (e, out', left') => if e ≠ 0 then some (e, out', left') else reduceL f r out' left'
def reduceP (insts : List InstSig) : Nat → Pred → Int → List Pred → Int → Option (Int × List Pred × Int)
  | 0, _, _, _, _ => none
  | q + 1, p, depth, out, left => if 400 < depth ∨ left - 1 < 0 then some (2, out, left - 1)
    else if p.ty.kind = 0 then some (0, if out.any (fun x => decide (x.cls = p.cls) && decide (x.ty.var = p.ty.var)) = true then out else out ++ [p], left - 1)
    else match instanceP p 0 insts with
      | none => some (11, out, left - 1)
      | some (_, needs) => reduceL (fun n out left => reduceP insts q n (depth + 1) out left) needs out (left - 1)
def reducesP (insts : List InstSig) (q : Nat) : List Pred → List Pred → Int → Option (Int × List Pred)
  | [], out, _ => some (0, out)
  | p :: r, out, left => if (chk p.ty 4096 false 1).1 ≠ 0 then some ((chk p.ty 4096 false 1).1, []) else match reduceP insts q p 1 out left with
    | none => none
    | some (e, out', left') => if e ≠ 0 then some (e, []) else reducesP insts q r out' left'
def reduceS (l : List ClassSig) (insts : List InstSig) (preds : List Pred) (q : Nat) : Option (Int × List Pred) := if instC l insts ≠ 0 then some (instC l insts, []) else reducesP insts q preds [] 4096
end Go.Proofs.YtdljlpogljjldaaDoor
