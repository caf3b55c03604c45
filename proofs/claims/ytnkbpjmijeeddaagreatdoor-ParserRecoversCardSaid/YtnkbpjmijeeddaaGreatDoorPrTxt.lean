/- The text that ParserRecovers parses, in plain words. No conditions. -/
import Derived.Test.YtnkbpjmijeeddaaGreatDoorEvBad
import Derived.Test.YtnkbpjmijeeddaaGreatDoorEvPrims
import Derived.KernelRfl
namespace Go.Proofs.YtnkbpjmijeeddaaGreatDoor.pr
open Go Go.RowKit Go.Proofs.YtnkbpjmijeeddaaGreatDoor.Ev
def goodL : List Nat := [103, 111, 111, 100, 32, 61, 32, 102, 32, 49]
def wrongL : List (List Nat) := [[61, 32, 49], [120, 32, 61, 32, 61, 32, 49], [120, 32, 61, 32, 99, 97, 115, 101, 32, 49, 32, 111, 102, 32, 123, 32, 50, 32, 45, 62, 32, 125], [120, 32, 61, 32, 108, 101, 116, 32, 121, 32, 61, 32, 105, 110, 32, 50], [100, 97, 116, 97, 32, 61, 32, 65], [120, 32, 44, 32, 49]]
def headL : List Nat := [109, 111, 100, 117, 108, 101, 32, 65, 32, 119, 104, 101, 114, 101, 10]
def firstL : List Nat := [109, 111, 100, 117, 108, 101, 32, 65, 32, 119, 104, 101, 114, 101, 10, 32, 120, 32, 61, 32, 61, 10, 32, 121, 32, 61, 32, 61]
def lineL (m f s i : Nat) : List Nat := if i = s then wrongL.getD (s % 6) [] else if i = f then wrongL.getD (m % 6) [] else goodL
/-- The first k lines. -/
def linesL (m f s : Nat) : Nat → List Nat
  | 0 => headL
  | k + 1 => linesL m f s k ++ (32 :: 32 :: (lineL m f s k ++ [10]))
def ltN (n : Nat) (l : List Nat) : Bool := l.all fun x => Nat.blt x n
/-- The evaluator's run of Parse at a text. -/
noncomputable def runAt (l : List Nat) (a b : Int) : Bool :=
  frcNs l fun l => ltN 256 l && evC Tryz.prog (prs []) 1 1000 200 4 (.cons (.str l) .eol) (mem0 0) 1 (badsAt 5 a b) (fun _ _ _ => false)
noncomputable def runOf (m f s : Nat) : Bool := runAt (linesL m f s m) ((f : Int) + 2) ((s : Int) + 2)
end Go.Proofs.YtnkbpjmijeeddaaGreatDoor.pr
