/- The layout in plain words: contexts, the marker, Mark. No program in sight. -/
import Derived.Test.YtnkbpjmijeeddaaGreatDoorLayT
namespace Go.Proofs.YtnkbpjmijeeddaaGreatDoor

structure Mk where
  st : List Ctx
  out : List Tok
def sWhere : ByteArray := ⟨#[119, 104, 101, 114, 101]⟩
def sOf : ByteArray := ⟨#[111, 102]⟩
def sLet : ByteArray := ⟨#[108, 101, 116]⟩
def sWith : ByteArray := ⟨#[119, 105, 116, 104]⟩
def sIn : ByteArray := ⟨#[105, 110]⟩
def sOpB : ByteArray := ⟨#[123]⟩
def sClB : ByteArray := ⟨#[125]⟩
def sOpP : ByteArray := ⟨#[40]⟩
def sClP : ByteArray := ⟨#[41]⟩
def sCom : ByteArray := ⟨#[44]⟩
/-- Check at one token: the one before it, whether it is the last one. -/
def okTok (p : Option Tok) (t : Tok) (last : Bool) : Int :=
  if t.line < 1 ∨ t.col < 1 then 4
  else if t.kind < 0 ∨ 9 < t.kind ∨ (6 ≤ t.kind ∧ t.kind ≤ 8) ∨ decide (t.kind = 9) ≠ last then 3
  else match p with
    | none => 0
    | some q => if t.line < q.line ∨ (t.line = q.line ∧ t.col < q.col) then 3 else 0
def okL : Option Tok → List Tok → Int
  | _, [] => 0
  | p, t :: r => if okTok p t r.isEmpty ≠ 0 then okTok p t r.isEmpty else okL (some t) r
def layChk (l : List Tok) : Int := if 8193 < l.length then 2 else match l.getLast? with
  | none => 3
  | some e => if e.kind ≠ 9 then 3 else okL none l
def opensP (t : Tok) : Bool := decide (t.kind = 4) && (decide (t.text = sWhere) || decide (t.text = sOf) || decide (t.text = sLet) || decide (t.text = sWith))
def isP (t : Tok) (k : Int) (s : ByteArray) : Bool := decide (t.kind = k) && decide (t.text = s)
def zCtx : Ctx := ⟨0, ⟨#[]⟩⟩
def topP (s : List Ctx) : Ctx := s.getLast?.getD zCtx
def tokAt (k : Int) (t : Tok) : Tok := ⟨k, ⟨#[]⟩, 0, t.line, t.col⟩
def Mk.put (m : Mk) (k : Int) (t : Tok) : Mk := ⟨m.st, m.out ++ [tokAt k t]⟩
def Mk.pop (m : Mk) : Mk := ⟨m.st.dropLast, m.out⟩
def Mk.push (m : Mk) (c : Ctx) : Mk := ⟨m.st ++ [c], m.out⟩
def Mk.close (m : Mk) (t : Tok) : Mk := (m.put 7 t).pop
def shutL (t : Tok) : Nat → Mk → Mk
  | 0, m => m
  | n + 1, m => if 0 < (topP m.st).col then shutL t n (m.close t) else m
def shutP (t : Tok) (m : Mk) : Mk := shutL t m.st.length m
def lineL (t : Tok) : Nat → Mk → Mk
  | 0, m => m
  | n + 1, m => if t.col < (topP m.st).col then lineL t n (m.close t) else m
def lineP (t : Tok) (m : Mk) : Mk := let m' := lineL t m.st.length m; if (topP m'.st).col = t.col then m'.put 8 t else m'
/-- The contexts above the innermost bracket. -/
def innerN (s : List Ctx) : Nat → Nat
  | 0 => 0
  | k + 1 => match s[k]? with
    | none => k + 1
    | some c => if 0 < c.col then innerN s k else k + 1
def innerP (s : List Ctx) : List Ctx := s.drop (innerN s s.length)
def letsP (s : List Ctx) : Bool := (innerP s).any fun c => decide (c.op = sLet)
def inL (t : Tok) : Nat → Mk → Mk
  | 0, m => m
  | n + 1, m => if (topP m.st).op = sLet then m.close t else inL t n (m.close t)
def beforeP (t : Tok) (m : Mk) : Mk :=
  if (isP t 5 sClP || isP t 5 sClB) = true then (let m' := shutP t m; if 0 < m'.st.length then m'.pop else m')
  else if isP t 5 sCom = true then (if m.st.any (fun c => decide (c.col = 0)) = true then shutP t m else m)
  else if isP t 4 sIn = true then (if letsP m.st = true then inL t m.st.length m else m)
  else m
/-- The column of the blocks: that of the innermost one. -/
def enclL : List Ctx → Int
  | [] => 0
  | c :: r => if 0 < c.col then c.col else enclL r
def enclP (s : List Ctx) : Int := enclL s.reverse
/-- What happens to the marker at a token, ahead of the token; and whether it is taken as the first of its line. -/
def blockP (p : Option Tok) (t : Tok) (m : Mk) : Mk × Bool :=
  let first : Bool := match p with
    | none => true
    | some q => decide (q.line < t.line)
  let opened : Bool := match p with
    | none => false
    | some q => opensP q
  let op : ByteArray := match p with
    | none => ⟨#[]⟩
    | some q => q.text
  if opened = false then (m, first)
  else if isP t 5 sOpB = true then (m, false)
  else if t.kind ≠ 9 ∧ enclP m.st < t.col then ((m.put 6 t).push ⟨t.col, op⟩, false)
  else ((m.put 6 t).put 7 t, first)
def stepP (p : Option Tok) (t : Tok) (m : Mk) : Mk :=
  let b := blockP p t m
  if t.kind = 9 then b.1
  else
    let m1 := if b.2 = true then lineP t b.1 else b.1
    let m2 := beforeP t m1
    let m3 : Mk := ⟨m2.st, m2.out ++ [t]⟩
    if (isP t 5 sOpP || isP t 5 sOpB) = true then m3.push zCtx else m3
def goM : Option Tok → List Tok → Mk → Mk
  | _, [], m => m
  | p, t :: r, m => goM (some t) r (stepP p t m)
def endL (t : Tok) : Nat → Mk → Mk
  | 0, m => m
  | n + 1, m => endL t n (if 0 < (topP m.st).col then m.close t else m.pop)
def markP (l : List Tok) (e : Tok) : List Tok := let m := goM none l ⟨[], []⟩; (endL e m.st.length m).out ++ [e]
end Go.Proofs.YtnkbpjmijeeddaaGreatDoor
