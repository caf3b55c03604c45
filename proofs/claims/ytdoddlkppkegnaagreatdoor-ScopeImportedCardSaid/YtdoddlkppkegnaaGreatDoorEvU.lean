/- The evaluator's operations that touch no memory, loads and allocations have one outcome. No conditions. -/
import Derived.Test.YtdoddlkppkegnaaGreatDoorEvM
namespace Go.Proofs.YtdoddlkppkegnaaGreatDoor.Ev
open Go Go.RowKit
set_option linter.unusedSimpArgs false
set_option linter.unusedVariables false
def Det {α : Type} (g : (α → Bool) → Bool) : Prop := (∃ v, ∀ K, g K = K v) ∨ ∀ K, g K = false
section
variable {α β : Type}
theorem Det.ret (v : α) : Det (fun K => K v) := .inl ⟨v, fun _ => rfl⟩
theorem Det.no : Det (fun _ : α → Bool => false) := .inr fun _ => rfl
theorem Det.bind {g : (α → Bool) → Bool} (hg : Det g) {h : α → (β → Bool) → Bool} (hh : ∀ v, Det (h v)) : Det (fun K => g (fun v => h v K)) := by
  rcases hg with ⟨v, hv⟩ | hn
  · rcases hh v with ⟨w, hw⟩ | hn
    · exact .inl ⟨w, fun K => (hv _).trans (hw K)⟩
    · exact .inr fun K => (hv _).trans (hn K)
  · exact .inr fun K => hn _
theorem Det.eq {g g' : (α → Bool) → Bool} (h : ∀ K, g K = g' K) (hg : Det g') : Det g := by
  rcases hg with ⟨v, hv⟩ | hn
  · exact .inl ⟨v, fun K => by rw [h, hv]⟩
  · exact .inr fun K => by rw [h, hn]
theorem Det.ifB {b : Bool} {x y : (α → Bool) → Bool} (hx : Det x) (hy : Det y) : Det (fun K => ifB b (x K) (y K)) := by cases b; exact hy; exact hx
theorem Det.ifO {o : Option β} {x : β → (α → Bool) → Bool} {y : (α → Bool) → Bool} (hx : ∀ v, Det (x v)) (hy : Det y) : Det (fun K => ifO o (fun v => x v K) (y K)) := by
  cases o with
  | none => exact hy
  | some v => exact hx v
theorem Det.frcN {n : Nat} {h : Nat → (α → Bool) → Bool} (hh : ∀ n, Det (h n)) : Det (fun K => frcN n fun n => h n K) := Det.eq (fun K => frcN_eq n _) (hh n)
theorem Det.frcI {n : Int} {h : Int → (α → Bool) → Bool} (hh : ∀ n, Det (h n)) : Det (fun K => frcI n fun n => h n K) := Det.eq (fun K => frcI_eq n _) (hh n)
theorem Det.frcB {n : Bool} {h : Bool → (α → Bool) → Bool} (hh : ∀ n, Det (h n)) : Det (fun K => frcB n fun n => h n K) := Det.eq (fun K => frcB_eq n _) (hh n)
theorem Det.wrapK {k : IntKind} {n : Int} {h : Int → (α → Bool) → Bool} (hh : ∀ n, Det (h n)) : Det (fun K => wrapK k n fun n => h n K) := Det.eq (fun K => wrapK_eq k n _) (hh _)
theorem Det.appNs {x y : List Nat} {h : List Nat → (α → Bool) → Bool} (hh : ∀ n, Det (h n)) : Det (fun K => appNs x y fun n => h n K) := Det.eq (fun K => appNs_eq x y _) (hh _)
theorem Det.lenK {x : List Nat} {h : Nat → (α → Bool) → Bool} (hh : ∀ n, Det (h n)) : Det (fun K => lenK x fun n => h n K) := Det.eq (fun K => lenK_eq x _) (hh _)
theorem Det.dropNs {n : Nat} {x : List Nat} {h : List Nat → (α → Bool) → Bool} (hh : ∀ n, Det (h n)) : Det (fun K => dropNs n x fun n => h n K) := Det.eq (fun K => dropNs_eq n x _) (hh _)
theorem Det.takeNs {n : Nat} {x : List Nat} {h : List Nat → (α → Bool) → Bool} (hh : ∀ n, Det (h n)) : Det (fun K => takeNs n x fun n => h n K) := Det.eq (fun K => takeNs_eq n x _) (hh _)
theorem Det.getP {τ : Type} {d : τ} {t : T τ} {p : Nat} {h : τ → (α → Bool) → Bool} (hh : ∀ n, Det (h n)) : Det (fun K => T.getP d t p fun v => h v K) := Det.eq (fun K => T.getP_eq d _ t p) (hh _)
theorem Det.asInt {v : AV} {h : IntKind → Int → (α → Bool) → Bool} (hh : ∀ k n, Det (h k n)) : Det (fun K => asInt v fun k n => h k n K) := by cases v <;> first | exact hh _ _ | exact Det.no
theorem Det.asBool {v : AV} {h : Bool → (α → Bool) → Bool} (hh : ∀ k, Det (h k)) : Det (fun K => asBool v fun k => h k K) := by cases v <;> first | exact hh _ | exact Det.no
theorem Det.asStr {v : AV} {h : List Nat → (α → Bool) → Bool} (hh : ∀ k, Det (h k)) : Det (fun K => asStr v fun k => h k K) := by cases v <;> first | exact hh _ | exact Det.no
theorem Det.asRef {v : AV} {h : Nat → Nat → (α → Bool) → Bool} (hh : ∀ k n, Det (h k n)) : Det (fun K => asRef v fun k n => h k n K) := by cases v <;> first | exact hh _ _ | exact Det.no
theorem Det.asSlc {v : AV} {h : Nat → Nat → Nat → Nat → Option Nat → (α → Bool) → Bool} {y : (α → Bool) → Bool} (hh : ∀ p o e n c, Det (h p o e n c)) (hy : Det y) : Det (fun K => asSlc v (fun p o e n c => h p o e n c K) (y K)) := by
  cases v with
  | slc p o e n c => exact hh _ _ _ _ _
  | nil k => cases k <;> first | exact hy | exact Det.no
  | _ => exact Det.no
theorem Det.asFn {v : AV} {h : FuncId → AV → AV → (α → Bool) → Bool} (hh : ∀ f x c, Det (h f x c)) : Det (fun K => asFn v fun f x c => h f x c K) := by cases v <;> first | exact hh _ _ _ | exact Det.no
theorem Det.asIfc {v : AV} {h : Nat → AV → (α → Bool) → Bool} {y : (α → Bool) → Bool} (hh : ∀ t w, Det (h t w)) (hy : Det y) : Det (fun K => asIfc v (fun t w => h t w K) (y K)) := by
  cases v with
  | ifc t w => exact hh _ _
  | nil k => cases k <;> first | exact hy | exact Det.no
  | _ => exact Det.no
theorem Det.asAgg {v : AV} {h : AV → (α → Bool) → Bool} (hh : ∀ k, Det (h k)) : Det (fun K => asAgg v fun k => h k K) := by cases v <;> first | exact hh _ | exact Det.no
theorem Det.asTup {v : AV} {h : AV → (α → Bool) → Bool} (hh : ∀ k, Det (h k)) : Det (fun K => asTup v fun k => h k K) := by cases v <;> first | exact hh _ | exact Det.no
theorem Det.asCons {v : AV} {h : AV → AV → (α → Bool) → Bool} (hh : ∀ x l, Det (h x l)) : Det (fun K => asCons v fun x l => h x l K) := by cases v <;> first | exact hh _ _ | exact Det.no
theorem Det.asCell {v : AV} {y : (α → Bool) → Bool} (hy : Det y) : Det (fun K => asCell v (y K)) := by cases v <;> first | exact hy | exact Det.no
theorem Det.asNat {v : Int} {h : Nat → (α → Bool) → Bool} (hh : ∀ k, Det (h k)) : Det (fun K => asNat v fun k => h k K) := by cases v <;> first | exact hh _ | exact Det.no
theorem Det.opd {G : Nat} {x : Operand} {a : T AV} {h : AV → (α → Bool) → Bool} (hh : ∀ k, Det (h k)) : Det (fun K => (cOpd G x).k a fun k => h k K) := by
  refine Det.bind ?_ hh
  cases x with
  | tmp t => cases hb : Nat.blt t top with
    | true => simp only [cOpd, hb, BO.k]; exact Det.getP fun v => Det.ret v
    | false => simp only [cOpd, hb, BO.k]; exact Det.no
  | const v => cases hv : absF 8 v with
    | none => simp only [cOpd, hv, BO.k]; exact Det.no
    | some w => simp only [cOpd, hv, BO.k]; exact Det.ret w
  | global g => cases hb : Nat.blt g G with
    | true => simp only [cOpd, hb, BO.k]; exact Det.ret _
    | false => simp only [cOpd, hb, BO.k]; exact Det.no
  | func f => exact Det.ret _
theorem Det.opds {G : Nat} {a : T AV} : ∀ (xs : List Operand) {h : AV → (α → Bool) → Bool} (hh : ∀ k, Det (h k)), Det (fun K => (cOpds G xs).k a fun k => h k K)
  | [], h, hh => hh _
  | x :: xs, h, hh => by
    show Det (fun K => (cOpd G x).k a fun v => (cOpds G xs).k a fun w => h (.cons v w) K)
    exact Det.opd fun v => Det.opds xs fun w => hh _
theorem Det.dropA : ∀ (n : Nat) (l : AV) {h : AV → (α → Bool) → Bool} (hh : ∀ k, Det (h k)), Det (fun K => dropA n l fun k => h k K)
  | 0, l, h, hh => hh l
  | n + 1, l, h, hh => by
    show Det (fun K => Ev.asCons l fun _ l => Ev.dropA n l fun k => h k K)
    exact Det.asCons fun _ l => Det.dropA n l hh
theorem Det.takeA : ∀ (n : Nat) (l : AV) {h : AV → (α → Bool) → Bool} (hh : ∀ k, Det (h k)), Det (fun K => takeA n l fun k => h k K)
  | 0, l, h, hh => hh _
  | n + 1, l, h, hh => by
    show Det (fun K => Ev.asCons l fun x l => Ev.takeA n l fun l => h (.cons x l) K)
    exact Det.asCons fun x l => Det.takeA n l fun l => hh _
theorem Det.setA : ∀ (n : Nat) (x l : AV) {h : AV → (α → Bool) → Bool} (hh : ∀ k, Det (h k)), Det (fun K => setA n x l fun k => h k K)
  | 0, x, l, h, hh => by
    show Det (fun K => Ev.asCons l fun _ l => h (.cons x l) K)
    exact Det.asCons fun _ l => hh _
  | n + 1, x, l, h, hh => by
    show Det (fun K => Ev.asCons l fun y l => Ev.setA n x l fun l => h (.cons y l) K)
    exact Det.asCons fun y l => Det.setA n x l fun l => hh _
theorem foldAV_cons {γ : Type} (e : γ) (c : AV → γ → γ) (x l : AV) : foldAV e c (.cons x l) = c x (foldAV e c l) := rfl
/-- By the list's form. -/
theorem av_list (P : AV → Prop) (hc : ∀ x l, P l → P (.cons x l)) (ho : ∀ v, (∀ x l, v ≠ .cons x l) → P v) : ∀ v, P v := by
  intro v
  induction v with
  | cons x l _ ih => exact hc x l ih
  | _ => exact ho _ (fun _ _ h => by cases h)
theorem foldAV_end {γ : Type} (e : γ) (c : AV → γ → γ) (v : AV) (h : ∀ x l, v ≠ .cons x l) : foldAV e c v = e := by
  cases v <;> first | rfl | exact absurd rfl (h _ _)
theorem Det.pourA (w : AV) : ∀ (o : Nat) (l : AV) {h : AV → (α → Bool) → Bool} (hh : ∀ k, Det (h k)), Det (fun K => pourA w o l fun k => h k K) := by
  induction w using av_list with
  | hc x w ih =>
    intro o l h hh
    show Det (fun K => Ev.setA o x l fun l => Ev.frcN (Nat.succ o) fun o => Ev.pourA w o l fun k => h k K)
    exact Det.setA o x l fun l => Det.frcN fun o => ih o l hh
  | ho v hv =>
    intro o l h hh
    refine Det.eq (g' := h l) (fun K => ?_) (hh l)
    have e0 := foldAV_end (γ := Nat → AV → (AV → Bool) → Bool) (fun _ l K => K l) (fun x r o l K => Ev.setA o x l fun l => Ev.frcN (Nat.succ o) fun o => r o l K) v hv
    exact congrFun (congrFun (congrFun e0 o) l) _
theorem Det.part {P : Program} {t : TypeId} {off : Nat} {l : AV} {h : AV → (α → Bool) → Bool} (hh : ∀ k, Det (h k)) : Det (fun K => (cPart P t off).f l fun k => h k K) := by
  refine Det.bind ?_ hh
  unfold cPart
  split
  · exact Det.dropA _ _ fun l => Det.takeA _ _ fun l => Det.ret _
  · exact Det.dropA _ _ fun l => Det.asCons fun x _ => Det.ret x
  · exact Det.no
theorem Det.cells {P : Program} {t : TypeId} {v : AV} {h : AV → (α → Bool) → Bool} (hh : ∀ k, Det (h k)) : Det (fun K => (cCells P t).f v fun k => h k K) := by
  refine Det.bind ?_ hh
  unfold cCells
  split
  · exact Det.asAgg fun l => Det.ifB (Det.ret _) Det.no
  · split
    · exact Det.asCell (Det.ret _)
    · exact Det.no
  · exact Det.no
theorem Det.cbuild {P : Program} {G : Nat} {place : Nat → Option (Nat × Nat)} {ty : Nat → Option TypeId} {n : Nat} {a : T AV} : ∀ (ps : List (Nat × Operand)) (l : AV), Det ((cBuild P G place ty n ps).f a l)
  | [], l => Det.ret l
  | (i, x) :: r, l => by
    unfold cBuild
    split
    · split
      · split
        · exact Det.no
        · exact Det.opd fun v => Det.cells fun w => Det.pourA w _ _ fun l => Det.cbuild r l
      · exact Det.no
    · exact Det.no
/-- The same with an outcome of two parts. -/
def Det2 {α β : Type} (g : (α → β → Bool) → Bool) : Prop := (∃ v w, ∀ K, g K = K v w) ∨ ∀ K, g K = false
theorem Det2.bind {γ δ : Type} {g : (γ → δ → Bool) → Bool} (hg : Det2 g) {h : γ → δ → (α → Bool) → Bool} (hh : ∀ v w, Det (h v w)) : Det (fun K => g (fun v w => h v w K)) := by
  rcases hg with ⟨v, w, hv⟩ | hn
  · rcases hh v w with ⟨u, hu⟩ | hn
    · exact .inl ⟨u, fun K => (hv _).trans (hu K)⟩
    · exact .inr fun K => (hv _).trans (hn K)
  · exact .inr fun K => hn _
theorem Det2.fill (w : AV) : ∀ (o : Nat) (c : T AV), Det2 (fun K => fillK w o c K) := by
  induction w using av_list with
  | hc x w ih =>
    intro o c
    rcases ih (o + 1) (T.set und x o c) with ⟨v, u, hv⟩ | hn
    · cases hx : x.cell with
      | true =>
        refine .inl ⟨v, u, fun K => ?_⟩
        show fillK (.cons x w) o c K = K v u
        have hv' : fillK w (o + 1) (T.set und x o c) K = K v u := hv K
        rw [fillK_cons, hv']
        revert hx; cases x <;> intro hx <;> first | rfl | cases hx
      | false =>
        refine .inr fun K => ?_
        show fillK (.cons x w) o c K = false
        rw [fillK_cons]
        revert hx; cases x <;> intro hx <;> first | rfl | cases hx
    · refine .inr fun K => ?_
      show fillK (.cons x w) o c K = false
      have hn' : fillK w (o + 1) (T.set und x o c) K = false := hn K
      rw [fillK_cons, hn']
      cases x <;> rfl
  | ho v hv =>
    intro o c
    refine .inl ⟨o, c, fun K => ?_⟩
    have e0 := foldAV_end (γ := Nat → T AV → (Nat → T AV → Bool) → Bool) (fun o c K => K o c) (fun x r o c K => Ev.asCell x (setN c o x fun c => Ev.frcN (Nat.succ o) fun o => r o c K)) v hv
    exact congrFun (congrFun (congrFun e0 o) c) K
theorem Det.cfill {P : Program} {G : Nat} {e : TypeId} {s n : Nat} {a : T AV} : ∀ (ps : List (Nat × Operand)) (c : T AV), Det ((cFill P G e s n ps).f a c)
  | [], c => Det.ret c
  | (i, x) :: r, c => by
    unfold cFill
    split
    · exact Det.no
    · exact Det.opd fun v => Det.cells fun w => Det2.bind (Det2.fill w _ _) fun _ c => Det.cfill r c
theorem Det2.rep (z : AV) : ∀ (n o : Nat) (c : T AV), Det2 (fun K => repK z n o c K)
  | 0, o, c => .inl ⟨o, c, fun _ => rfl⟩
  | n + 1, o, c => by
    rcases Det2.fill z o c with ⟨v, w, hv⟩ | hn
    · rcases Det2.rep z n v w with ⟨v', w', hv'⟩ | hn'
      · exact .inl ⟨v', w', fun K => (hv (fun o c => repK z n o c K)).trans (hv' K)⟩
      · exact .inr fun K => (hv (fun o c => repK z n o c K)).trans (hn' K)
    · exact .inr fun K => hn (fun o c => repK z n o c K)
theorem Det.rd {c : T AV} : ∀ (n o : Nat) {h : AV → (α → Bool) → Bool} (hh : ∀ k, Det (h k)), Det (fun K => rdK c n o fun k => h k K)
  | 0, o, h, hh => hh _
  | n + 1, o, h, hh => by
    show Det (fun K => getN c o fun v => Ev.frcN (Nat.succ o) fun o => rdK c n o fun l => h (.cons v l) K)
    exact Det.getP fun v => Det.frcN fun o => Det.rd n o fun l => hh _
theorem Det.blk {m : M} {p : Nat} {h : T AV → Nat → Nat → Bool → (α → Bool) → Bool} (hh : ∀ c n f r, Det (h c n f r)) : Det (fun K => blkK m p fun c n f r => h c n f r K) := by
  refine Det.getP fun B => ?_
  cases B with
  | none => exact Det.no
  | some B => exact hh _ _ _ _
theorem Det.load {P : Program} {t : TypeId} {m : M} {v : AV} : Det ((cLoad P t).f m v) := by
  unfold cLoad
  split
  · exact Det.asRef fun p o => Det.blk fun c n f r => Det.ifB (Det.rd _ _ fun l => Det.ret _) Det.no
  · exact Det.asRef fun p o => Det.blk fun c n f r => Det.ifB (Det.getP fun v => Det.ret v) Det.no
  · exact Det.no
theorem Det.cmp {g : Int → Int → Bool} {f : List Nat → List Nat → Bool} {u v : AV} : Det ((b2Cmp g f).f u v) := by
  cases u with
  | int k a => exact Det.asInt (v := v) fun j b => Det.ifB (Det.frcB fun r => Det.ret _) Det.no
  | str s => exact Det.asStr (v := v) fun t => Det.frcB fun r => Det.ret _
  | _ => exact Det.no
theorem Det.b2int {g : IntKind → Int → Int → (AV → Bool) → Bool} (h : ∀ k a b, Det (g k a b)) {u v : AV} : Det ((b2Int g).f u v) := Det.asInt fun k a => Det.asInt fun j b => Det.ifB (h k a b) Det.no
theorem Det.b2cls {g : IntKind → Int → Int → (AV → Bool) → Bool} {h : Nat → Int → Nat → (AV → Bool) → Bool} (hg : ∀ k a b, Det (g k a b)) (hh : ∀ m r b, Det (h m r b)) {u v : AV} : Det ((b2Cls g h).f u v) := by
  cases u with
  | int k a => exact Det.asInt (v := v) fun j b => Det.ifB (hg k a b) Det.no
  | sym i => exact Det.asInt (v := v) fun j b => Det.asNat fun b => Det.ifB (hh _ _ b) Det.no
  | _ => exact Det.no
theorem det_quoG (k : IntKind) (a b : Int) : Det (quoG k a b) := by
  show Det (fun K => quoG k a b K)
  unfold quoG
  exact Det.ifB Det.no (Det.wrapK fun r => Det.ret _)
theorem det_quoH (m : Nat) (r : Int) (b : Nat) : Det (quoH m r b) := by
  show Det (fun K => quoH m r b K)
  unfold quoH
  generalize symC (Nat.div m b) (Int.tdiv r (Int.ofNat b)) = j
  exact Det.ifB (Det.frcN fun j => Det.ret _) Det.no
theorem det_remG (k : IntKind) (a b : Int) : Det (remG k a b) := by
  show Det (fun K => remG k a b K)
  unfold remG
  exact Det.ifB Det.no (Det.frcI fun r => Det.ret _)
theorem det_remH (m : Nat) (r : Int) (b : Nat) : Det (remH m r b) := by
  show Det (fun K => remH m r b K)
  unfold remH
  exact Det.frcI fun r => Det.ret _
theorem Det.bin {P : Program} {c : Bool} {t : TypeId} (op : BinOp) (u v : AV) : Det ((cBin P c t op).f u v) := by
  have heq : ∀ neg, Det ((b2Eq P c t neg).f u v) := fun neg => by
    unfold b2Eq
    split
    · split
      · exact Det.no
      · exact Det.ifO (fun r => Det.frcB fun r => Det.ret _) Det.no
    · exact Det.ifO (fun r => Det.frcB fun r => Det.ret _) Det.no
    · exact Det.no
  cases op with
  | add =>
    cases u with
    | int k a => exact Det.asInt (v := v) fun j b => Det.ifB (Det.wrapK fun r => Det.ret _) Det.no
    | str s => exact Det.asStr (v := v) fun t => Det.ifB (Det.appNs fun r => Det.ret _) Det.no
    | _ => exact Det.no
  | sub => exact Det.b2int fun k a b => Det.wrapK fun r => Det.ret _
  | mul => exact Det.b2int fun k a b => Det.wrapK fun r => Det.ret _
  | quo => exact Det.b2cls (g := quoG) (h := quoH) det_quoG det_quoH
  | rem => exact Det.b2cls (g := remG) (h := remH) det_remG det_remH
  | and => exact Det.b2int fun k a b => Det.ifO (fun r => Det.frcI fun r => Det.ret _) Det.no
  | or => exact Det.b2int fun k a b => Det.ifO (fun r => Det.frcI fun r => Det.ret _) Det.no
  | xor => exact Det.b2int fun k a b => Det.ifO (fun r => Det.frcI fun r => Det.ret _) Det.no
  | andNot => exact Det.b2int fun k a b => Det.ifO (fun r => Det.frcI fun r => Det.ret _) Det.no
  | shl => exact Det.asInt fun k a => Det.asInt fun _ b => Det.ifB Det.no (Det.frcI fun r => Det.ret _)
  | shr => exact Det.asInt fun k a => Det.asInt fun _ b => Det.ifB Det.no (Det.frcI fun r => Det.ret _)
  | eql => exact heq false
  | neq => exact heq true
  | lss => exact Det.cmp
  | leq => exact Det.cmp
  | gtr => exact Det.cmp
  | geq => exact Det.cmp
theorem Det.nat {G : Nat} {lo : Option Operand} {a : T AV} {d : Nat} {h : Nat → (α → Bool) → Bool} (hh : ∀ k, Det (h k)) : Det (fun K => natK (cBound G lo) a d fun k => h k K) := by
  cases lo with
  | none => exact hh d
  | some x => exact Det.opd (x := x) fun v => Det.asInt fun _ n => Det.asNat hh
theorem Det.cut {G : Nat} {lo hi mx : Option Operand} {a : T AV} {es : Nat} {v : AV} : Det (cutV a (cBound G lo) (cBound G hi) (cBound G mx) es v) := by
  unfold cutV
  refine Det.asSlc (h := fun p o es' n c K => _) (fun p o es' n c => Det.ifB (Det.nat (h := fun l K => _) fun l => Det.nat (h := fun q K => _) fun q => Det.ifB (x := fun K => _) ?_ Det.no) Det.no) (Det.nat fun l => Det.nat fun h => Det.nat fun g => Det.ifB (Det.ret _) Det.no)
  cases mx with
  | none =>
    cases c with
    | none => exact Det.ifB (Det.ifB (Det.frcN fun o => Det.frcN fun n => Det.ret _) Det.no) Det.no
    | some c => exact Det.ifB (Det.ifB (Det.ret _) (Det.frcN fun o => Det.frcN fun n => Det.frcN fun c => Det.ret _)) Det.no
  | some x => exact Det.opd (x := x) fun v => Det.asInt fun _ g => Det.asNat fun g => Det.ifB (Det.ifB (Det.ret _) (Det.frcN fun o => Det.frcN fun n => Det.frcN fun c => Det.ret _)) Det.no
/-- An operation of which memory knows nothing has one outcome. -/
theorem pure_form {P : Program} {G : Nat} : ∀ op : Op, kindOf op = 0 → ∃ g, cOp P G op = xP g ∧ ∀ a, Det (g a) := by
  have no : ∀ op : Op, cOp P G op = xNo → ∃ g, cOp P G op = xP g ∧ ∀ a, Det (g a) := fun op h => ⟨fun _ _ => false, h, fun _ => Det.no⟩
  intro op h
  cases op with
  | move x => simp only [cOp, BX.f, undF_eq, infoF_eq, funF_eq]; exact ⟨_, rfl, fun a => Det.opd fun v => Det.ret v⟩
  | assign x => simp only [cOp, BX.f, undF_eq, infoF_eq, funF_eq]; exact ⟨_, rfl, fun a => Det.opd fun v => Det.ret v⟩
  | pick c x y => simp only [cOp, BX.f, undF_eq, infoF_eq, funF_eq]; exact ⟨_, rfl, fun a => Det.opd fun v => Det.asBool fun b => Det.ifB (Det.opd fun v => Det.ret v) (Det.opd fun v => Det.ret v)⟩
  | nilCheck x =>
    simp only [cOp, BX.f, undF_eq, infoF_eq, funF_eq]
    refine ⟨_, rfl, fun a => Det.opd (h := fun v K => _) fun v => ?_⟩
    cases v <;> first | exact Det.ret _ | exact Det.no
  | extract x i => simp only [cOp, BX.f, undF_eq, infoF_eq, funF_eq]; exact ⟨_, rfl, fun a => Det.opd fun v => Det.asTup fun l => Det.dropA _ _ fun l => Det.asCons fun x _ => Det.ret x⟩
  | field t x i =>
    simp only [cOp, BX.f, undF_eq, infoF_eq, funF_eq]
    split
    · split
      · exact ⟨_, rfl, fun a => Det.opd fun v => Det.asAgg fun l => Det.part fun x => Det.ret x⟩
      · exact ⟨_, rfl, fun _ => Det.no⟩
    · exact ⟨_, rfl, fun _ => Det.no⟩
  | makeInterface t x =>
    simp only [cOp, BX.f, undF_eq, infoF_eq, funF_eq]
    split
    · exact ⟨_, rfl, fun _ => Det.no⟩
    · exact ⟨_, rfl, fun _ => Det.no⟩
    · exact ⟨_, rfl, fun a => Det.opd fun v => Det.ret _⟩
  | makeFunc f x c =>
    cases f with
    | func f => simp only [cOp, BX.f, undF_eq, infoF_eq, funF_eq]; exact ⟨_, rfl, fun a => Det.opds _ fun x => Det.opds _ fun c => Det.ret _⟩
    | _ => exact no _ (by simp only [cOp, BX.f, undF_eq, infoF_eq, funF_eq])
  | build t ps =>
    simp only [cOp, BX.f, undF_eq, infoF_eq, funF_eq]
    split
    · split
      · exact ⟨_, rfl, fun a => Det.bind (Det.cbuild _ _) fun l => Det.ret _⟩
      · exact ⟨_, rfl, fun _ => Det.no⟩
    · split
      · exact ⟨_, rfl, fun a => Det.bind (Det.cbuild _ _) fun l => Det.ret _⟩
      · exact ⟨_, rfl, fun _ => Det.no⟩
    · exact ⟨_, rfl, fun _ => Det.no⟩
  | typeAssert x s t ok =>
    simp only [cOp, BX.f, undF_eq, infoF_eq, funF_eq]
    split
    · exact ⟨_, rfl, fun _ => Det.no⟩
    · split
      · exact ⟨_, rfl, fun a => Det.opd fun v => Det.asIfc (fun t w => Det.ifB (Det.ret _) (Det.ret _)) (Det.ret _)⟩
      · exact ⟨_, rfl, fun a => Det.opd fun v => Det.asIfc (fun t w => Det.ifB (Det.ret _) Det.no) Det.no⟩
    · exact ⟨_, rfl, fun _ => Det.no⟩
  | binOp op t x y yt => simp only [cOp, BX.f, undF_eq, infoF_eq, funF_eq]; exact ⟨_, rfl, fun a => Det.opd fun v => Det.opd fun w => Det.bin op v w⟩
  | unOp op t x =>
    cases op with
    | neg => simp only [cOp, BX.f, undF_eq, infoF_eq, funF_eq]; exact ⟨_, rfl, fun a => Det.opd fun v => Det.asInt fun k n => Det.wrapK fun n => Det.ret _⟩
    | not => simp only [cOp, BX.f, undF_eq, infoF_eq, funF_eq]; exact ⟨_, rfl, fun a => Det.opd fun v => Det.asBool fun b => Det.frcB fun b => Det.ret _⟩
    | _ => exact no _ (by simp only [cOp, BX.f, undF_eq, infoF_eq, funF_eq])
  | convert s d x =>
    simp only [cOp, BX.f, undF_eq, infoF_eq, funF_eq]
    split
    · exact ⟨_, rfl, fun a => Det.opd fun v => Det.asInt fun k n => Det.wrapK fun n => Det.ret _⟩
    · exact ⟨_, rfl, fun a => Det.opd fun v => Det.asInt fun k n => Det.asNat fun n => Det.ifB (Det.ret _) Det.no⟩
    · exact ⟨_, rfl, fun a => Det.opd fun v => Det.asStr fun s => Det.ret _⟩
    · exact ⟨_, rfl, fun _ => Det.no⟩
  | fieldAddr t x i =>
    simp only [cOp, BX.f, undF_eq, infoF_eq, funF_eq]
    split
    · split
      · split
        · exact ⟨_, rfl, fun a => Det.opd fun v => Det.asRef fun p o => Det.frcN fun o => Det.ret _⟩
        · exact ⟨_, rfl, fun _ => Det.no⟩
      · exact ⟨_, rfl, fun _ => Det.no⟩
    · exact ⟨_, rfl, fun _ => Det.no⟩
  | indexAddr t x i =>
    simp only [cOp, BX.f, undF_eq, infoF_eq, funF_eq]
    split
    · split
      · exact ⟨_, rfl, fun a => Det.opd fun v => Det.opd fun w => Det.asInt fun _ k => Det.asNat fun k => Det.asSlc (fun p o e n c => Det.ifB (Det.frcN fun o => Det.ret _) Det.no) Det.no⟩
      · exact ⟨_, rfl, fun _ => Det.no⟩
    · split
      · exact ⟨_, rfl, fun a => Det.opd fun v => Det.opd fun w => Det.asInt fun _ k => Det.asNat fun k => Det.asRef fun p o => Det.ifB (Det.frcN fun o => Det.ret _) Det.no⟩
      · exact ⟨_, rfl, fun _ => Det.no⟩
    · exact ⟨_, rfl, fun _ => Det.no⟩
  | index t x i =>
    simp only [cOp, BX.f, undF_eq, infoF_eq, funF_eq]
    split
    · refine ⟨_, rfl, fun a => Det.opd fun v => Det.opd fun w => Det.asStr fun s => Det.asInt fun _ k => Det.asNat fun k => Det.dropNs (h := fun s K => _) fun s => ?_⟩
      cases s with
      | nil => exact Det.no
      | cons c s => exact Det.ret _
    · split
      · exact ⟨_, rfl, fun a => Det.opd fun v => Det.opd fun w => Det.asAgg fun l => Det.asInt fun _ k => Det.asNat fun k => Det.ifB (Det.part fun x => Det.ret x) Det.no⟩
      · exact ⟨_, rfl, fun _ => Det.no⟩
    · exact ⟨_, rfl, fun _ => Det.no⟩
  | slice t x lo hi mx =>
    simp only [cOp, BX.f, undF_eq, infoF_eq, funF_eq]
    split
    · exact ⟨_, rfl, fun a => Det.opd fun v => Det.asStr fun s => Det.lenK fun n => Det.nat fun l => Det.nat fun q => Det.ifB (Det.takeNs fun s => Det.dropNs fun s => Det.ret _) Det.no⟩
    · split
      · split
        · exact ⟨_, rfl, fun a => Det.opd fun v => Det.cut⟩
        · exact ⟨_, rfl, fun _ => Det.no⟩
      · exact ⟨_, rfl, fun _ => Det.no⟩
    · exact ⟨_, rfl, fun _ => Det.no⟩
  | call c =>
    obtain ⟨cal, args, ts⟩ := c
    cases cal with
    | builtin b =>
      cases b <;> first | (cases h; done) | skip
      · simp only [cOp, BX.f, undF_eq, infoF_eq, funF_eq]
        split
        · split
          · exact ⟨_, rfl, fun a => Det.opd fun v => Det.asStr fun s => Det.lenK fun n => Det.ret _⟩
          · exact ⟨_, rfl, fun a => Det.opd fun v => Det.asSlc (fun p o e n c => Det.ret _) (Det.ret _)⟩
          · exact ⟨_, rfl, fun _ => Det.no⟩
        · exact ⟨_, rfl, fun _ => Det.no⟩
      · simp only [cOp, BX.f, undF_eq, infoF_eq, funF_eq]
        split
        · exact ⟨_, rfl, fun a => Det.opd fun v => Det.opd fun w => Det.asInt fun k m => Det.asInt fun j n => Det.ifB (Det.ifB (Det.ret _) (Det.ret _)) Det.no⟩
        · exact ⟨_, rfl, fun _ => Det.no⟩
      · simp only [cOp, BX.f, undF_eq, infoF_eq, funF_eq]
        split
        · exact ⟨_, rfl, fun a => Det.opd fun v => Det.opd fun w => Det.asInt fun k m => Det.asInt fun j n => Det.ifB (Det.ifB (Det.ret _) (Det.ret _)) Det.no⟩
        · exact ⟨_, rfl, fun _ => Det.no⟩
    | _ => cases h
  | _ => cases h
/-- An allocation has one outcome. -/
def Det3 {α β γ : Type} (g : (α → β → γ → Bool) → Bool) : Prop := (∃ v w u, ∀ K, g K = K v w u) ∨ ∀ K, g K = false
theorem Det3.ret {α β γ : Type} (v : α) (w : β) (u : γ) : Det3 (fun K => K v w u) := .inl ⟨v, w, u, fun _ => rfl⟩
theorem Det3.no {α β γ : Type} : Det3 (fun _ : α → β → γ → Bool => false) := .inr fun _ => rfl
theorem Det3.of {α β γ : Type} {g : (α → β → γ → Bool) → Bool} (h : Det (fun K : α × β × γ → Bool => g fun v w u => K (v, w, u))) : Det3 g := by
  rcases h with ⟨⟨v, w, u⟩, hv⟩ | hn
  · exact .inl ⟨v, w, u, fun K => hv fun x => K x.1 x.2.1 x.2.2⟩
  · exact .inr fun K => hn fun x => K x.1 x.2.1 x.2.2
end
end Go.Proofs.YtdoddlkppkegnaaGreatDoor.Ev
