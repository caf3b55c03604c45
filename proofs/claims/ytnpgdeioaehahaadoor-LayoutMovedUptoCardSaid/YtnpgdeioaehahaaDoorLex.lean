/- What the scanner computes, in plain Lean: tokens of a list of bytes. -/
import Derived.Test.YtnpgdeioaehahaaDoorBase
import Derived.Lib.Bytealg
namespace Go.Proofs.YtnpgdeioaehahaaDoor
open Go

abbrev Bs := List UInt8
def small (c : UInt8) : Bool := (decide (97 ≤ c.toNat) && decide (c.toNat ≤ 122)) || decide (c.toNat = 95)
def large (c : UInt8) : Bool := decide (65 ≤ c.toNat) && decide (c.toNat ≤ 90)
def digit (c : UInt8) : Bool := decide (48 ≤ c.toNat) && decide (c.toNat ≤ 57)
def inner (c : UInt8) : Bool := small c || large c || digit c || decide (c.toNat = 39)
def symbols : Bs := [33, 35, 36, 37, 38, 42, 43, 47, 60, 61, 62, 63, 64, 94, 124, 45, 126, 58, 46, 92]
def mark (c : UInt8) : Bool := decide (0 ≤ Lib.indexByte symbols c)
def puncts : Bs := [40, 41, 123, 125, 44, 59]
def punct (c : UInt8) : Bool := decide (0 ≤ Lib.indexByte puncts c)

/-- The value of digits, no greater than one more than the greatest word. -/
def numFrom (n : Int) : Bs → Int
  | [] => n
  | c :: t => numFrom (min (n * 10 + ((c.toNat : Int) - 48)) 1073741824) t

structure Tk where
  kind : Int
  text : Bs
  n : Int
  line : Int
  col : Int

/-- What stands at the beginning of a text that is not empty: how many bytes it takes, the token if it is one, and whether there is an error. -/
structure It where
  len : Nat
  tok : Option (Int × Bs × Int)
  bad : Bool

variable (kw dash : Bs → Bool)

def item (c : UInt8) (t : Bs) : It :=
  if c = 32 then ⟨1, none, false⟩
  else if small c then let u := (c :: t).takeWhile inner; ⟨u.length, some (if kw u then 4 else 0, u, 0), false⟩
  else if large c then let u := (c :: t).takeWhile inner; ⟨u.length, some (1, u, 0), false⟩
  else if digit c then let u := (c :: t).takeWhile digit; let n := numFrom 0 u
    if 1073741823 < n then ⟨u.length, some (2, u, 0), true⟩ else ⟨u.length, some (2, u, n), false⟩
  else if punct c then ⟨1, some (5, [c], 0), false⟩
  else if mark c then let u := (c :: t).takeWhile mark
    if 1 < u.length ∧ dash u = true then ⟨((c :: t).takeWhile (fun b => b != 10)).length, none, false⟩
    else ⟨u.length, some (if kw u then 4 else 3, u, 0), false⟩
  else ⟨1, none, true⟩

def put? (o : Option (Int × Bs × Int)) (ln cl : Int) (l : List Tk) : List Tk := match o with
  | none => l
  | some (k, u, n) => ⟨k, u, n, ln, cl⟩ :: l

/-- The tokens, the one at the end among them; and whether there is an error. -/
def lex : Nat → Bs → Int → Int → List Tk × Bool
  | 0, _, _, _ => ([], false)
  | _ + 1, [], ln, cl => ([⟨9, [], 0, ln, cl⟩], false)
  | f + 1, c :: t, ln, cl =>
    if c = 10 then lex f t (ln + 1) 1
    else
      let it := item kw dash c t
      let r := lex f ((c :: t).drop it.len) ln (cl + it.len)
      (put? it.tok ln cl r.1, it.bad || r.2)
end Go.Proofs.YtnpgdeioaehahaaDoor
