/- unify.check: what it answers, and that it writes its counter alone. -/
import Derived.Test.YthchnabhbpdfgaaDoorTy
import Derived.Deep.QuietTactic
import Derived.BigQuiet
import Derived.RegionTactic
namespace Go.Proofs.YthchnabhbpdfgaaDoor
open Go.RowKit

def sz (k : Int) : Int := if k = 1 then -1 else if k = 2 then 3 else if k = 3 then 1 else if k = 5 then 2 else 0
/-- Whether an argument is to be a row. -/
def rowed (k : Int) (i : Nat) (ak : Int) : Bool := if k = 1 then decide (4 ≤ ak) else (decide (k = 2) && decide (i = 1)) || decide (k = 3) || (decide (k = 5) && decide (i = 1))
mutual
def chk : Ty → Int → Bool → Int → Int × Int
  | .mk k n v l, left, row, depth =>
    if left - 1 < 0 ∨ 400 < depth then (2, left - 1)
    else if k < 0 ∨ 5 < k then (9, left - 1)
    else if (0 ≤ sz k ∧ (l.length : Int) ≠ sz k) ∨ (k ≠ 0 ∧ v ≠ 0) ∨ (k ≠ 1 ∧ k ≠ 5 ∧ n.toList.isEmpty = false) then (3, left - 1)
    else if k ≠ 0 ∧ row ≠ decide (4 ≤ k) then (9, left - 1)
    else if k = 0 ∧ (v < 0 ∨ 4096 ≤ v) then (4, left - 1)
    else chks k l 0 (left - 1) (depth + 1)
def chks (k : Int) : List Ty → Nat → Int → Int → Int × Int
  | [], _, left, _ => (0, left)
  | a :: r, i, left, depth =>
    if (chk a left (rowed k i a.kind) depth).1 = 0 then chks k r (i + 1) (chk a left (rowed k i a.kind) depth).2 depth else chk a left (rowed k i a.kind) depth
end
/-- The table of the numbers of arguments, as its initialiser lays it. -/
structure Szs (w : World) : Prop where
  c0 : w.cell? ⟨0, 0, none⟩ = some (.int .i64 0)
  c1 : w.cell? ⟨0, 1, none⟩ = some (.int .i64 (-1))
  c2 : w.cell? ⟨0, 2, none⟩ = some (.int .i64 3)
  c3 : w.cell? ⟨0, 3, none⟩ = some (.int .i64 1)
  c4 : w.cell? ⟨0, 4, none⟩ = some (.int .i64 0)
  c5 : w.cell? ⟨0, 5, none⟩ = some (.int .i64 2)
theorem Szs.keeps {X : Nat → Prop} {w w' : World} (h : Szs w) (hk : Keeps X w w') (h0 : ¬ X 0) : Szs w' :=
  ⟨hk.cell h.c0 h0, hk.cell h.c1 h0, hk.cell h.c2 h0, hk.cell h.c3 h0, hk.cell h.c4 h0, hk.cell h.c5 h0⟩

/-- What the answer is, the counter behind it, and what is left alone. -/
def Chkd (p : Nat) (r : Int × Int) (W : World) (e : Ending) (w' : World) : Prop := e = .returned (.int .i64 r.1) ∧ Blk w' p 43 [.int .i64 r.2] ∧ Keeps (· = p) W w'
def ChkAt (t : Ty) : Prop := ∀ (W : World) (B p : Nat) (av : Value) (left depth : Int) (row : Bool), TyC W (· < B) t av → Blk W p 43 [.int .i64 left] → 0 < B → B ≤ p → Szs W → 0 ≤ left → left ≤ 4096 → 0 ≤ depth → depth ≤ 401 →
  Calls Tryd.prog 15 #[.pointer (some ⟨p, 0, none⟩), .agg #[.int .i64 t.kind, .string t.name, .int .i64 t.var, av], .bool row, .int .i64 depth] W (Chkd p (chk t left row depth) W)
mutual
theorem chk_bound : ∀ (t : Ty) (left : Int) (row : Bool) (depth : Int), (chk t left row depth).2 ≤ left - 1 ∧ ((chk t left row depth).1 = 0 → 0 ≤ (chk t left row depth).2)
  | .mk k n v l, left, row, depth => by
    rw [chk]
    split
    · exact ⟨Int.le_refl _, fun h => absurd (show (2 : Int) = 0 from h) (by decide)⟩
    split
    · exact ⟨Int.le_refl _, fun h => absurd (show (9 : Int) = 0 from h) (by decide)⟩
    split
    · exact ⟨Int.le_refl _, fun h => absurd (show (3 : Int) = 0 from h) (by decide)⟩
    split
    · exact ⟨Int.le_refl _, fun h => absurd (show (9 : Int) = 0 from h) (by decide)⟩
    split
    · exact ⟨Int.le_refl _, fun h => absurd (show (4 : Int) = 0 from h) (by decide)⟩
    · rename_i h1 _ _ _ _
      exact chks_bound k l 0 (left - 1) (depth + 1) (by omega)
theorem chks_bound (k : Int) : ∀ (l : List Ty) (i : Nat) (left depth : Int), 0 ≤ left → (chks k l i left depth).2 ≤ left ∧ ((chks k l i left depth).1 = 0 → 0 ≤ (chks k l i left depth).2)
  | [], _, left, _, h => by rw [chks]; exact ⟨Int.le_refl _, fun _ => h⟩
  | a :: r, i, left, depth, h => by
    have h1 := chk_bound a left (rowed k i a.kind) depth
    rw [chks]
    split
    · rename_i hz
      have h2 := chks_bound k r (i + 1) _ depth (h1.2 hz)
      exact ⟨by omega, h2.2⟩
    · exact ⟨by omega, h1.2⟩
end
end Go.Proofs.YthchnabhbpdfgaaDoor
