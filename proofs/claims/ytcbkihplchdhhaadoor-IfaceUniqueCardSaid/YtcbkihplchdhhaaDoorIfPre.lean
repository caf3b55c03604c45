/- modules.Prelude: what it answers, found by the evaluator. -/
import Derived.Test.YtcbkihplchdhhaaDoorEvG4
import Derived.Test.YtcbkihplchdhhaaDoorIfEn
import Derived.KernelRfl
namespace Go.Proofs.YtcbkihplchdhhaaDoor
open Go Go.RowKit Go.Proofs.YtcbkihplchdhhaaDoor.Ev

namespace If
def S8 (l : List UInt8) : ByteArray := ⟨l.toArray⟩
/-- 'Prelude.' ahead of a name. -/
def pn (l : List UInt8) : ByteArray := ⟨([80, 114, 101, 108, 117, 100, 101, 46] ++ l).toArray⟩
def e0 : ByteArray := ⟨#[]⟩
def conT (l : List UInt8) (args : List Ty) : Ty := .mk 1 (pn l) 0 args
def funT (a b : Ty) : Ty := .mk 2 e0 0 [a, .mk 4 e0 0 [], b]
def tInt : Ty := conT [73, 110, 116] []
def tBool : Ty := conT [66, 111, 111, 108] []
def tUnit : Ty := conT [85, 110, 105, 116] []
def tElem : Ty := .mk 0 e0 0 []
def tArr : Ty := conT [65, 114, 114, 97, 121] [tElem]
def tCalc : Ty := funT tInt (funT tInt tInt)
def tTest : Ty := funT tInt (funT tInt tBool)
def vS (l : List UInt8) (n : Int) (t : Ty) : ValSig := ⟨pn l, n, [], t⟩
def preF : Iface := {
  module := S8 [80, 114, 101, 108, 117, 100, 101]
  imports := []
  fixes := [⟨pn [37], 0, 7⟩, ⟨pn [42], 0, 7⟩, ⟨pn [43], 0, 6⟩, ⟨pn [45], 0, 6⟩, ⟨pn [47], 0, 7⟩, ⟨pn [60], 2, 4⟩, ⟨pn [61, 61], 2, 4⟩]
  datas := [⟨pn [65, 114, 114, 97, 121], 1, []⟩, ⟨pn [66, 111, 111, 108], 0, [⟨pn [70, 97, 108, 115, 101], []⟩, ⟨pn [84, 114, 117, 101], []⟩]⟩, ⟨pn [73, 110, 116], 0, []⟩, ⟨pn [85, 110, 105, 116], 0, [⟨pn [85, 110, 105, 116], []⟩]⟩]
  classes := []
  insts := []
  ops := []
  vals := [vS [37] 0 tCalc, vS [42] 0 tCalc, vS [43] 0 tCalc, vS [45] 0 tCalc, vS [47] 0 tCalc, vS [60] 0 tTest, vS [61, 61] 0 tTest,
    vS [110, 101, 119, 65, 114, 114, 97, 121] 1 (funT tInt (funT tElem tArr)), vS [112, 114, 105, 110, 116] 0 (funT tInt tUnit), vS [114, 101, 97, 100, 65, 116] 1 (funT tArr (funT tInt tElem)),
    vS [115, 105, 122, 101, 79, 102] 1 (funT tArr tInt), vS [119, 114, 105, 116, 101, 65, 116] 1 (funT tArr (funT tInt (funT tElem tUnit)))] }
theorem enters_run {f : FuncId} {fn : Func} (hf : Tryd.prog.funcs[f]? = some fn) (hb : fn.body.isSome = true) (hn : (fn.name == "runtime.NumGoroutine") = false) (args : Array Value) (W : World) : (callFunc f args).run Tryd.prog W = .ok (.enter f args) W := by
  obtain ⟨b, hb⟩ := Option.isSome_iff_exists.1 hb
  exact invoke_enter hf hb hn
def noPr : Prims := fun _ => none
theorem noPr_ok {P : Program} {sy : Nat → Value} {G : Nat} : PrimOk P sy G noPr := fun _ _ _ _ h => by cases h
set_option maxRecDepth 100000 in
theorem pre_run : evC Tryd.prog noPr 1 1000 50 5 .eol (mem0 0) 1 (readsAs preF.d) (fun _ _ _ => false) = true := by kernel_rfl
theorem Prelude_any (W : World) (hz : Szs W) : Calls Tryd.prog 5 #[] W fun e w' => (∃ cs, e = .returned (.agg cs.toArray) ∧ Rp w' (fun b => b < w'.heap.size) preF.d cs) ∧ Below W.heap.size W w' :=
  reads_ok (sy := fun _ => .int .i64 0) noPr_ok (k := 0) (G := 1) (nx := 1) (L := 1000) (n := 50) (args := []) (Nat.lt_succ_self 0) (Nat.le_refl 1) (by unfold top; omega) pre_run (World.block_lt_of_cell? _ _ hz.c0) rfl hz.c0 .eol (enters_run Tryd.func5 (by kernel_rfl) (by kernel_rfl) _ W)
/-! ### It passes the checks -/
mutual
def chkD : Ty → Int → Bool → Int → Int × Int
  | .mk k n v l, left, row, depth =>
    if left - 1 < 0 ∨ 400 < depth then (2, left - 1)
    else if k < 0 ∨ 5 < k then (9, left - 1)
    else if (0 ≤ sz k ∧ (l.length : Int) ≠ sz k) ∨ (k ≠ 0 ∧ v ≠ 0) ∨ (k ≠ 1 ∧ k ≠ 5 ∧ n.data.toList.isEmpty = false) then (3, left - 1)
    else if k ≠ 0 ∧ row ≠ decide (4 ≤ k) then (9, left - 1)
    else if k = 0 ∧ (v < 0 ∨ 4096 ≤ v) then (4, left - 1)
    else chksD k l 0 (left - 1) (depth + 1)
def chksD (k : Int) : List Ty → Nat → Int → Int → Int × Int
  | [], _, left, _ => (0, left)
  | a :: r, i, left, depth =>
    if (chkD a left (rowed k i a.kind) depth).1 = 0 then chksD k r (i + 1) (chkD a left (rowed k i a.kind) depth).2 depth else chkD a left (rowed k i a.kind) depth
end
mutual
theorem chk_D : ∀ (t : Ty) (left : Int) (row : Bool) (depth : Int), chk t left row depth = chkD t left row depth
  | .mk k n v l, left, row, depth => by
    rw [chk, chkD, ByteArray.toList_eq, chks_D k l 0 (left - 1) (depth + 1)]
theorem chks_D (k : Int) : ∀ (l : List Ty) (i : Nat) (left depth : Int), chks k l i left depth = chksD k l i left depth
  | [], _, _, _ => by rw [chks, chksD]
  | a :: r, i, left, depth => by
    rw [chks, chksD, chk_D a left _ depth, chks_D k r (i + 1) _ depth]
end
def firstD : List Ty → Int
  | [] => 0
  | t :: l => if (chkD t 4096 false 1).1 = 0 then firstD l else (chkD t 4096 false 1).1
theorem first_D : ∀ l, firstBad l = firstD l
  | [] => rfl
  | t :: l => by rw [firstBad, firstD, chk_D, first_D l]
def cmpD (a b : ByteArray) : Int := if Op.bytesLess a.data.toList b.data.toList = true then -1 else if (a.data.toList == b.data.toList) = true then 0 else 1
theorem cmp_D (a b : ByteArray) : cmpS a b = cmpD a b := by unfold cmpS cmpD; rw [ByteArray.toList_eq, ByteArray.toList_eq]
set_option maxRecDepth 100000 in
theorem pre_types : firstD (typesP preF) = 0 := by kernel_rfl
theorem pre_ranges : rangesP preF = true := by kernel_rfl
def ordD (f : Iface) : Bool := incr cmpB f.imports && incr (fun x y => cmpD x.op y.op) f.fixes && incr (fun x y => cmpD x.name y.name) f.datas && incr (fun x y => cmpD x.name y.name) f.classes && incr (fun x y => orI (cmpD x.cls y.cls) (cmpD x.head.name y.head.name)) f.insts && incr (fun x y => cmpD x.name y.name) f.ops && incr (fun x y => cmpD x.name y.name) f.vals
theorem ord_D (f : Iface) : orderedP f = ordD f := by
  have h1 : cmpFix = fun x y => cmpD x.op y.op := by funext x y; exact cmp_D _ _
  have h2 : cmpData = fun x y => cmpD x.name y.name := by funext x y; exact cmp_D _ _
  have h3 : cmpClass = fun x y => cmpD x.name y.name := by funext x y; exact cmp_D _ _
  have h4 : cmpInst = fun x y => orI (cmpD x.cls y.cls) (cmpD x.head.name y.head.name) := by funext x y; unfold cmpInst; rw [cmp_D, cmp_D]
  have h5 : cmpOp = fun x y => cmpD x.name y.name := by funext x y; exact cmp_D _ _
  have h6 : cmpVal = fun x y => cmpD x.name y.name := by funext x y; exact cmp_D _ _
  unfold orderedP ordD
  rw [h1, h2, h3, h4, h5, h6]
set_option maxRecDepth 100000 in
theorem pre_ord : ordD preF = true := by kernel_rfl
set_option maxRecDepth 100000 in
theorem pre_len : (Nat.ble 100 (faceW preF).length && Nat.ble (faceW preF).length 100000) = true := by kernel_rfl
theorem pre_size : 100 ≤ (faceW preF).length ∧ (faceW preF).length ≤ 100000 := by
  have h := pre_len
  generalize (faceW preF).length = n at h ⊢
  rw [Bool.and_eq_true] at h
  exact ⟨Nat.le_of_ble_eq_true h.1, Nat.le_of_ble_eq_true h.2⟩
theorem pre_check : checkP preF = 0 := by
  have h0 := pre_size
  unfold checkP
  generalize (faceW preF).length = n at h0 ⊢
  rw [first_D, pre_types, pre_ranges, ord_D, pre_ord, if_pos rfl, if_pos rfl, if_pos rfl, if_neg (by omega)]
end If
end Go.Proofs.YtcbkihplchdhhaaDoor
