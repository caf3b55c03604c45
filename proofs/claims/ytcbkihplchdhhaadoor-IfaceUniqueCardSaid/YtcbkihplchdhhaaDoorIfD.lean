/- The encoding of an interface in plain words, and its law: what is read without fault is what is written. No program. -/
import Derived.Test.YtcbkihplchdhhaaDoorITypes
namespace Go.Proofs.YtcbkihplchdhhaaDoor
open Go.RowKit

namespace If
abbrev Bs := List UInt8
def b8 (x : Int) : UInt8 := UInt8.ofNat (x % 256).toNat
def enc4 (n : Int) : Bs := [b8 (n / 16777216), b8 (n / 65536), b8 (n / 256), b8 n]
def u4 (a b c d : UInt8) : Int := (a.toNat * 16777216 + b.toNat * 65536 + c.toNat * 256 + d.toNat : Nat)
def dec4 (a b c d : UInt8) : Int := if u4 a b c d < 2147483648 then u4 a b c d else u4 a b c d - 4294967296
theorem b8_eq {x : Int} {a : UInt8} (h : x % 256 = a.toNat) : b8 x = a := by
  unfold b8
  rw [h]
  apply UInt8.toNat_inj.1
  simp
theorem enc_dec (a b c d : UInt8) : enc4 (dec4 a b c d) = [a, b, c, d] := by
  have ha := a.toNat_lt
  have hb := b.toNat_lt
  have hc := c.toNat_lt
  have hd := d.toNat_lt
  have h : ∃ k : Int, dec4 a b c d = u4 a b c d + k * 4294967296 := by
    unfold dec4
    split
    · exact ⟨0, by omega⟩
    · exact ⟨-1, by omega⟩
  obtain ⟨k, hk⟩ := h
  rw [hk]
  unfold enc4 u4
  rw [b8_eq (a := a) (by omega), b8_eq (a := b) (by omega), b8_eq (a := c) (by omega), b8_eq (a := d) (by omega)]
theorem dec4_lo (a b c d : UInt8) : -2147483648 ≤ dec4 a b c d ∧ dec4 a b c d ≤ 2147483647 := by
  have ha := a.toNat_lt
  have hb := b.toNat_lt
  have hc := c.toNat_lt
  have hd := d.toNat_lt
  unfold dec4
  split <;> rename_i h <;> unfold u4 at * <;> omega

/-- A reader's state: what is left, and whether it is bad. -/
structure R where
  s : Bs
  bad : Bool
def numR (r : R) : Int × R := match r.s with
  | a :: b :: c :: d :: t => (dec4 a b c d, ⟨t, r.bad⟩)
  | _ => (0, ⟨[], true⟩)
def manyR (size : Nat) (r : R) : Nat × R :=
  let x := numR r
  if x.1 < 0 ∨ ((x.2.s.length / size : Nat) : Int) < x.1 then (0, ⟨x.2.s, true⟩) else (x.1.toNat, x.2)
def textR (r : R) : ByteArray × R :=
  let x := manyR 1 r
  (⟨(x.2.s.take x.1).toArray⟩, ⟨x.2.s.drop x.1, x.2.bad⟩)
def loopR {α : Type} (f : R → α × R) : Nat → R → List α × R
  | 0, r => ([], r)
  | n + 1, r => if r.bad = true then ([], r) else
    let x := f r
    let y := loopR f n x.2
    (x.1 :: y.1, y.2)
def allR {α : Type} (f : R → α × R) (r : R) : List α × R :=
  let x := manyR 4 r
  loopR f x.1 x.2
def zTy : Ty := .mk 0 ⟨#[]⟩ 0 []
def typR : Nat → R → Ty × R
  | 0, r => (zTy, ⟨r.s, true⟩)
  | k + 1, r => if r.bad = true then (zTy, r) else
    let a := numR r
    let b := textR a.2
    let c := numR b.2
    let d := allR (typR k) c.2
    (.mk a.1 b.1 c.1 d.1, d.2)
/-- api.MaxDepth. -/
def deepest : Nat := 400
def typ0 (r : R) : Ty × R := typR deepest r
def predR (r : R) : Pred × R :=
  let a := textR r
  let b := typ0 a.2
  (⟨a.1, b.1⟩, b.2)
def valR (r : R) : ValSig × R :=
  let a := textR r
  let b := numR a.2
  let c := allR predR b.2
  let d := typ0 c.2
  (⟨a.1, b.1, c.1, d.1⟩, d.2)
def conR (r : R) : ConSig × R :=
  let a := textR r
  let b := allR typ0 a.2
  (⟨a.1, b.1⟩, b.2)
def dataR (r : R) : DataSig × R :=
  let a := textR r
  let b := numR a.2
  let c := allR conR b.2
  (⟨a.1, b.1, c.1⟩, c.2)
def fixR (r : R) : FixSig × R :=
  let a := textR r
  let b := numR a.2
  let c := numR b.2
  (⟨a.1, b.1, c.1⟩, c.2)
def classR (r : R) : ClassSig × R :=
  let a := textR r
  let b := allR textR a.2
  let c := allR valR b.2
  (⟨a.1, b.1, c.1⟩, c.2)
def instR (r : R) : InstSig × R :=
  let a := textR r
  let b := typ0 a.2
  let c := allR predR b.2
  (⟨a.1, b.1, c.1⟩, c.2)
def opR (r : R) : OpSig × R :=
  let a := textR r
  let b := textR a.2
  let c := typ0 b.2
  let d := typ0 c.2
  (⟨a.1, b.1, c.1, d.1⟩, d.2)
def faceR (r : R) : Iface × R :=
  let a := textR r
  let b := allR textR a.2
  let c := allR fixR b.2
  let d := allR dataR c.2
  let e := allR classR d.2
  let f := allR instR e.2
  let g := allR opR f.2
  let h := allR valR g.2
  (⟨a.1, b.1, c.1, d.1, e.1, f.1, g.1, h.1⟩, h.2)

/-! ### Writing -/
def textW (s : ByteArray) : Bs := enc4 s.size ++ s.data.toList
def eachW {α : Type} (f : α → Bs) (l : List α) : Bs := enc4 l.length ++ l.flatMap f
mutual
def typW : Ty → Bs
  | .mk k n v l => enc4 k ++ textW n ++ enc4 v ++ enc4 l.length ++ typsW l
def typsW : List Ty → Bs
  | [] => []
  | t :: l => typW t ++ typsW l
end
theorem typsW_flat : ∀ l : List Ty, typsW l = l.flatMap typW
  | [] => by simp [typsW]
  | t :: l => by rw [typsW, typsW_flat l, List.flatMap_cons]
def predW (p : Pred) : Bs := textW p.cls ++ typW p.ty
def valW (v : ValSig) : Bs := textW v.name ++ enc4 v.vars ++ eachW predW v.preds ++ typW v.ty
def conW (c : ConSig) : Bs := textW c.name ++ eachW typW c.args
def dataW (d : DataSig) : Bs := textW d.name ++ enc4 d.params ++ eachW conW d.cons
def fixW (x : FixSig) : Bs := textW x.op ++ enc4 x.side ++ enc4 x.level
def classW (c : ClassSig) : Bs := textW c.name ++ eachW textW c.super ++ eachW valW c.ops
def instW (x : InstSig) : Bs := textW x.cls ++ typW x.head ++ eachW predW x.preds
def opW (o : OpSig) : Bs := textW o.name ++ textW o.effect ++ typW o.arg ++ typW o.res
def faceW (f : Iface) : Bs := textW f.module ++ eachW textW f.imports ++ eachW fixW f.fixes ++ eachW dataW f.datas ++ eachW classW f.classes ++ eachW instW f.insts ++ eachW opW f.ops ++ eachW valW f.vals

/-! ### What is read without fault is what is written -/
def Acc {α : Type} (f : R → α × R) (W : α → Bs) : Prop := ∀ r, (f r).2.bad = false → r.bad = false ∧ r.s = W (f r).1 ++ (f r).2.s
theorem acc_num : Acc numR enc4 := by
  intro r h
  unfold numR at h ⊢
  split at h
  · rename_i a b c d t hs
    simp only [hs]
    rw [enc_dec]
    exact ⟨h, rfl⟩
  · cases h
theorem many_spec {k : Nat} (r : R) (h : (manyR k r).2.bad = false) : r.bad = false ∧ r.s = enc4 ((manyR k r).1 : Nat) ++ (manyR k r).2.s ∧ (manyR k r).1 ≤ (manyR k r).2.s.length / k := by
  unfold manyR at h ⊢
  dsimp only at h ⊢
  split at h
  · cases h
  · rename_i hn
    rw [if_neg hn]
    dsimp only
    obtain ⟨h1, h2⟩ := acc_num r h
    have h0 : 0 ≤ (numR r).1 ∧ (numR r).1 ≤ (((numR r).2.s.length / k : Nat) : Int) := by omega
    refine ⟨h1, ?_, by omega⟩
    rw [Int.toNat_of_nonneg h0.1]
    exact h2
theorem acc_text : Acc textR textW := by
  intro r h
  unfold textR at h ⊢
  dsimp only at h ⊢
  obtain ⟨h1, h2, h3⟩ := many_spec r h
  rw [Nat.div_one] at h3
  refine ⟨h1, ?_⟩
  unfold textW
  have hz : (⟨((manyR 1 r).2.s.take (manyR 1 r).1).toArray⟩ : ByteArray).size = (manyR 1 r).1 := by
    show (List.toArray _).size = _
    rw [List.size_toArray, List.length_take]; omega
  rw [hz, List.append_assoc]
  show r.s = enc4 _ ++ ((manyR 1 r).2.s.take (manyR 1 r).1 ++ (manyR 1 r).2.s.drop (manyR 1 r).1)
  rw [List.take_append_drop]
  exact h2
theorem acc_loop {α : Type} {f : R → α × R} {W : α → Bs} (hf : Acc f W) : ∀ n r, (loopR f n r).2.bad = false → r.bad = false ∧ r.s = (loopR f n r).1.flatMap W ++ (loopR f n r).2.s ∧ (loopR f n r).1.length = n
  | 0, r, h => ⟨h, by simp [loopR], rfl⟩
  | n + 1, r, h => by
    rw [loopR] at h ⊢
    split at h
    · rename_i hb; rw [hb] at h; cases h
    · rename_i hb
      rw [if_neg hb]
      dsimp only at h ⊢
      obtain ⟨h1, h2, h3⟩ := acc_loop hf n _ h
      obtain ⟨g1, g2⟩ := hf r h1
      refine ⟨g1, ?_, by rw [List.length_cons, h3]⟩
      rw [List.flatMap_cons, List.append_assoc, ← h2]
      exact g2
theorem acc_all {α : Type} {f : R → α × R} {W : α → Bs} (hf : Acc f W) : Acc (allR f) (eachW W) := by
  intro r h
  unfold allR at h ⊢
  dsimp only at h ⊢
  obtain ⟨h1, h2, h3⟩ := acc_loop hf _ _ h
  obtain ⟨g1, g2, g3⟩ := many_spec r h1
  refine ⟨g1, ?_⟩
  unfold eachW
  rw [h3, List.append_assoc, ← h2]
  exact g2
theorem acc_typ : ∀ k, Acc (typR k) typW
  | 0 => by intro r h; rw [typR] at h; cases h
  | k + 1 => by
    intro r h
    rw [typR] at h ⊢
    split at h
    · rename_i hb; rw [hb] at h; cases h
    · rename_i hb
      rw [if_neg hb]
      dsimp only at h ⊢
      obtain ⟨h1, h2⟩ := acc_all (acc_typ k) _ h
      obtain ⟨h3, h4⟩ := acc_num _ h1
      obtain ⟨h5, h6⟩ := acc_text _ h3
      obtain ⟨h7, h8⟩ := acc_num _ h5
      refine ⟨h7, ?_⟩
      rw [typW, typsW_flat]
      unfold eachW at h2
      rw [h8, h6, h4, h2]
      simp only [List.append_assoc]
theorem acc_typ0 : Acc typ0 typW := acc_typ _
theorem acc_pred : Acc predR predW := by
  intro r h
  obtain ⟨h1, h2⟩ := acc_typ0 _ h
  obtain ⟨h3, h4⟩ := acc_text _ h1
  exact ⟨h3, by rw [h4, h2]; simp only [predR, predW, List.append_assoc]⟩
theorem acc_val : Acc valR valW := by
  intro r h
  obtain ⟨h1, h2⟩ := acc_typ0 _ h
  obtain ⟨h3, h4⟩ := acc_all acc_pred _ h1
  obtain ⟨h5, h6⟩ := acc_num _ h3
  obtain ⟨h7, h8⟩ := acc_text _ h5
  exact ⟨h7, by rw [h8, h6, h4, h2]; simp only [valR, valW, List.append_assoc]⟩
theorem acc_con : Acc conR conW := by
  intro r h
  obtain ⟨h1, h2⟩ := acc_all acc_typ0 _ h
  obtain ⟨h3, h4⟩ := acc_text _ h1
  exact ⟨h3, by rw [h4, h2]; simp only [conR, conW, List.append_assoc]⟩
theorem acc_data : Acc dataR dataW := by
  intro r h
  obtain ⟨h1, h2⟩ := acc_all acc_con _ h
  obtain ⟨h3, h4⟩ := acc_num _ h1
  obtain ⟨h5, h6⟩ := acc_text _ h3
  exact ⟨h5, by rw [h6, h4, h2]; simp only [dataR, dataW, List.append_assoc]⟩
theorem acc_fix : Acc fixR fixW := by
  intro r h
  obtain ⟨h1, h2⟩ := acc_num _ h
  obtain ⟨h3, h4⟩ := acc_num _ h1
  obtain ⟨h5, h6⟩ := acc_text _ h3
  exact ⟨h5, by rw [h6, h4, h2]; simp only [fixR, fixW, List.append_assoc]⟩
theorem acc_class : Acc classR classW := by
  intro r h
  obtain ⟨h1, h2⟩ := acc_all acc_val _ h
  obtain ⟨h3, h4⟩ := acc_all acc_text _ h1
  obtain ⟨h5, h6⟩ := acc_text _ h3
  exact ⟨h5, by rw [h6, h4, h2]; simp only [classR, classW, List.append_assoc]⟩
theorem acc_inst : Acc instR instW := by
  intro r h
  obtain ⟨h1, h2⟩ := acc_all acc_pred _ h
  obtain ⟨h3, h4⟩ := acc_typ0 _ h1
  obtain ⟨h5, h6⟩ := acc_text _ h3
  exact ⟨h5, by rw [h6, h4, h2]; simp only [instR, instW, List.append_assoc]⟩
theorem acc_op : Acc opR opW := by
  intro r h
  obtain ⟨h1, h2⟩ := acc_typ0 _ h
  obtain ⟨h3, h4⟩ := acc_typ0 _ h1
  obtain ⟨h5, h6⟩ := acc_text _ h3
  obtain ⟨h7, h8⟩ := acc_text _ h5
  exact ⟨h7, by rw [h8, h6, h4, h2]; simp only [opR, opW, List.append_assoc]⟩
theorem Acc.at {α : Type} {f : R → α × R} {W : α → Bs} (hf : Acc f W) {r : R} {x : α × R} (hx : f r = x) (h : x.2.bad = false) : r.bad = false ∧ r.s = W x.1 ++ x.2.s := by subst hx; exact hf r h
theorem acc_face : Acc faceR faceW := by
  intro r h
  unfold faceR at h ⊢
  dsimp only at h ⊢
  generalize hA : textR r = A at h ⊢
  generalize hB : allR textR A.2 = B at h ⊢
  generalize hC : allR fixR B.2 = C at h ⊢
  generalize hD : allR dataR C.2 = D at h ⊢
  generalize hE : allR classR D.2 = E at h ⊢
  generalize hF : allR instR E.2 = F at h ⊢
  generalize hG : allR opR F.2 = G at h ⊢
  generalize hH : allR valR G.2 = H at h ⊢
  obtain ⟨iH, eH⟩ := (acc_all acc_val).at hH h
  obtain ⟨iG, eG⟩ := (acc_all acc_op).at hG iH
  obtain ⟨iF, eF⟩ := (acc_all acc_inst).at hF iG
  obtain ⟨iE, eE⟩ := (acc_all acc_class).at hE iF
  obtain ⟨iD, eD⟩ := (acc_all acc_data).at hD iE
  obtain ⟨iC, eC⟩ := (acc_all acc_fix).at hC iD
  obtain ⟨iB, eB⟩ := (acc_all acc_text).at hB iC
  obtain ⟨iA, eA⟩ := (acc_text).at hA iB
  exact ⟨iA, by rw [eA, eB, eC, eD, eE, eF, eG, eH]; simp only [faceW, List.append_assoc]⟩
/-- The whole. -/
theorem read_written (s : ByteArray) (h : (faceR ⟨s.data.toList, false⟩).2.bad = false) (he : (faceR ⟨s.data.toList, false⟩).2.s = []) : faceW (faceR ⟨s.data.toList, false⟩).1 = s.data.toList := by
  have h1 := (acc_face _ h).2
  rw [he, List.append_nil] at h1
  exact h1.symm
end If
end Go.Proofs.YtcbkihplchdhhaaDoor
