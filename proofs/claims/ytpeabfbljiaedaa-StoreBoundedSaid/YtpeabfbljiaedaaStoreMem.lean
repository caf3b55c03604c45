/- store: the words for a store's memory (a ring of nodes, a map from keys to nodes), and the ring's plain law. -/
import Derived.Test.YtpeabfbljiaedaaRows
import Derived.Test.YtpeabfbljiaedaaBase
import Derived.Maps.Own
import Derived.Maps.OwnOps
import Derived.Maps.OwnSet
import Derived.Maps.Views
import Derived.Deep.RegionLaw
namespace Go.Proofs.Ytpeabfbljiaedaa
open Go.RowKit Go.Maps Go.WideMaps

/-! ### A map from strings to blocks -/
def ptrR : Value → Option (DataW Nat × List MemPlace)
  | .pointer none => some (.nil, [])
  | .pointer (some ⟨b, 0, none⟩) => some (.ptr (.held b), [])
  | _ => none
def ptrV : Option Nat → Value
  | none => .pointer none
  | some b => .pointer (some ⟨b, 0, none⟩)
def ptrD : Option Nat → DataW Nat
  | none => .nil
  | some b => .ptr (.held b)
theorem ptrR_inv {v : Value} {o : Option Nat} {ps : List MemPlace} (h : ptrR v = some (ptrD o, ps)) : v = ptrV o := by
  unfold ptrR at h
  split at h
  · cases o with
    | none => rfl
    | some b => simp [ptrD] at h
  · cases o with
    | none => simp [ptrD] at h
    | some b => simp [ptrD] at h; rw [h.1]; rfl
  · cases h
def setKey (F : ByteArray → Option Nat) (k : ByteArray) (x : Option Nat) : ByteArray → Option Nat := fun i => if i = k then x else F i
theorem setKey_same (F : ByteArray → Option Nat) (k : ByteArray) (x : Option Nat) : setKey F k x k = x := by simp [setKey]
theorem setKey_other (F : ByteArray → Option Nat) {k i : ByteArray} (h : i ≠ k) (x : Option Nat) : setKey F k x i = F i := by simp [setKey, h]

def MapIs (w : World) (m n : Nat) (F : ByteArray → Option Nat) : Prop :=
  ∃ D : DataW Nat, w.ownsMap Try.prog 9 ptrR m n D ∧ ∀ k : ByteArray, D.atKey (.string k.data.toList) .nil = ptrD (F k)
theorem keyLaw : Keyed Try.prog 9 := string_keyed Try.underlying9
theorem zeroPtr (w : World) : (zeroValue 76).run Try.prog w = .ok (.pointer none) w := by kernel_rfl
theorem strKey_ne {a b : ByteArray} (h : a ≠ b) : (Lit.string a.data.toList) ≠ .string b.data.toList := by
  intro e
  injection e with e
  exact h (ByteArray.ext (Array.toList_inj.1 e))

section
variable {w w' : World} {m n : Nat} {F : ByteArray → Option Nat}
theorem MapIs.lt (h : MapIs w m n F) : m < w.heap.size := by obtain ⟨D, h, _⟩ := h; exact h.lt
theorem MapIs.drewN (h : MapIs w m n F) (k : Nat) : MapIs (w.drewN k) m n F := h
theorem MapIs.drew (h : MapIs w m n F) : MapIs w.drew m n F := h
theorem MapIs.mono (h : MapIs w m n F) {n' : Nat} (hn : n ≤ n') : MapIs w m n' F := by obtain ⟨D, h, h2⟩ := h; exact ⟨D, h.mono hn, h2⟩
theorem MapIs.kept {row : Option Nat} (h : MapIs w m n F) (hg : w.grownBy w' row) (hne : some m ≠ row) : MapIs w' m n F := by obtain ⟨D, h, h2⟩ := h; exact ⟨D, h.kept hg hne, h2⟩
theorem MapIs.alloc (h : MapIs w m n F) (o : Obj) : MapIs (w.alloc o) m n F := by obtain ⟨D, h, h2⟩ := h; exact ⟨D, h.alloc o, h2⟩
theorem MapIs.setCell (h : MapIs w m n F) {a : Addr} (ha : m ≠ a.block) (u : Value) : MapIs (w.setCell a u) m n F := by obtain ⟨D, h, h2⟩ := h; exact ⟨D, h.setCell ha u, h2⟩
theorem MapIs.made (w : World) : MapIs (w.alloc (.map #[] 0)) w.heap.size 0 (fun _ => none) := ⟨_, World.ownsMap_made _ _ _ _, fun _ => rfl⟩
theorem MapIs.keeps {X : Nat → Prop} (h : MapIs w m n F) (hk : Keeps X w w') (hm : ¬ X m) : MapIs w' m n F := by
  obtain ⟨D, ⟨es, clock, hb, h3⟩, h2⟩ := h
  exact ⟨D, ⟨es, clock, (hk.block m (Array.getElem?_eq_some_iff.1 hb).1 hm).trans hb, h3⟩, h2⟩
theorem MapIs.ne_blk {g : Nat} {t : TypeId} {cs : List Value} (h : MapIs w m n F) (hg : Blk w g t cs) : m ≠ g := by
  rintro rfl
  obtain ⟨D, ⟨es, clock, hb, _⟩, _⟩ := h
  unfold Blk at hg
  rw [hg] at hb
  cases hb
theorem MapIs.ne_own {base : Nat} {e : TypeId} {size k : Nat} {v : Value} {xs : List Value} (h : MapIs w m n F) (hv : w.ownsRow base e size v k xs) : v.ownBlock ≠ some m := by
  intro e
  obtain ⟨D, ⟨es, clock, hb, _⟩, _⟩ := h
  rcases hv.2 with ⟨h1, _⟩ | ⟨g, cap, cur, rfl, _, hg, _⟩
  · rw [h1] at e; cases e
  · have e : g = m := by simpa [Value.ownBlock] using e
    subst e
    rw [hg] at hb
    cases hb
theorem MapIs.look (h : MapIs w m n F) (k : ByteArray) (hk : k.size ≤ maxLen) : (Instr.lookup 79 (.map (some m)) (.string k) false).run Try.prog w = .ok (ptrV (F k)) w := by
  obtain ⟨D, h, h2⟩ := h
  obtain ⟨v, ps, hrun, hv⟩ := h.lookup keyLaw Try.underlying79 (zeroPtr w) (z := .pointer none) (zd := .nil) (zp := []) rfl (keyOf_string_mk Try.underlying9 hk)
  rw [h2] at hv
  rw [hrun, ptrR_inv hv]
theorem MapIs.put (h : MapIs w m n F) (k : ByteArray) (hk : k.size ≤ maxLen) (hn : n < maxLen) (x : Nat) :
    ∃ w', (Instr.mapUpdate 79 (.map (some m)) (.string k) (.pointer (some ⟨x, 0, none⟩))).run Try.prog w = .ok () w' ∧ MapIs w' m (n + 1) (setKey F k (some x)) ∧ w.grownBy w' (some m) := by
  obtain ⟨D, h, h2⟩ := h
  obtain ⟨w', hrun, r1, r2⟩ := h.update keyLaw Try.underlying79 hn (keyOf_string_mk Try.underlying9 hk) (val := .pointer (some ⟨x, 0, none⟩)) (d := .ptr (.held x)) (ps := []) rfl
  refine ⟨w', hrun, ⟨_, r1, fun i => ?_⟩, r2⟩
  by_cases e : i = k
  · subst e
    rw [setKey_same, atKey_put_same (k := .string i.data.toList) (World.ownsMap.isMap h) trivial]; rfl
  · rw [setKey_other F e, atKey_put_other (strKey_ne e), h2]
theorem MapIs.del (h : MapIs w m n F) (k : ByteArray) (hk : k.size ≤ maxLen) (ty : TypeId) :
    ∃ w', (Builtin.delete_ #[79, 9] ty #[.map (some m), .string k]).run Try.prog w = .ok (.tuple #[]) w' ∧ MapIs w' m n (setKey F k none) ∧ w.grownBy w' (some m) := by
  obtain ⟨D, h, h2⟩ := h
  obtain ⟨w', hrun, r1, r2⟩ := h.drop keyLaw Try.underlying79 (keyOf_string_mk Try.underlying9 hk) ty
  refine ⟨w', hrun, ⟨_, r1, fun i => ?_⟩, r2.grown⟩
  by_cases e : i = k
  · subst e
    rw [setKey_same, atKey_del_same]; rfl
  · rw [setKey_other F e, atKey_del_other (strKey_ne e), h2]

theorem step_put {ops : Array Oper} {o : Oper} {a : Act} {K : Act → World → Prop} {Q : Exit → Act → World → Prop} {E : Prop} (hgd : o.guard = none) (mo x v : Operand)
    (hop : o.op = Op.mapUpdate 79 mo x v) (h : MapIs w m n F) (hm : a.eval mo = .map (some m)) (k : ByteArray) (hx : a.eval x = .string k) (b : Nat) (hv : a.eval v = .pointer (some ⟨b, 0, none⟩)) (hk : k.size ≤ maxLen) (hn : n < maxLen)
    (hK : ∀ w', MapIs w' m (n + 1) (setKey F k (some b)) → w.grownBy w' (some m) → K (a.put o.dst undef) w') :
    if Region.wanted o (yielded ops a.tmps) = true then Oper.wp Try.prog o a w K Q else E := by
  have hw : Region.wanted o (yielded ops a.tmps) = true := by simp [Region.wanted, hgd]
  rw [if_pos hw]
  obtain ⟨w', hrun, r1, r2⟩ := h.put k hk hn b
  unfold Oper.wp
  simp [execOp, hop, hm, hx, hv, hrun, Result.andThen]
  exact hK w' r1 r2
theorem step_del {ops : Array Oper} {o : Oper} {a : Act} {K : Act → World → Prop} {Q : Exit → Act → World → Prop} {E : Prop} (hgd : o.guard = none) (mo x : Operand)
    (hop : o.op = Op.call { callee := Callee.builtin Builtin.delete, args := #[mo, x], argTypes := #[79, 9] }) (h : MapIs w m n F) (hm : a.eval mo = .map (some m)) (k : ByteArray) (hx : a.eval x = .string k) (hk : k.size ≤ maxLen)
    (hK : ∀ w', MapIs w' m n (setKey F k none) → w.grownBy w' (some m) → K (a.put o.dst (.tuple #[])) w') :
    if Region.wanted o (yielded ops a.tmps) = true then Oper.wp Try.prog o a w K Q else E := by
  have hw : Region.wanted o (yielded ops a.tmps) = true := by simp [Region.wanted, hgd]
  rw [if_pos hw]
  obtain ⟨w', hrun, r1, r2⟩ := h.del k hk o.type
  unfold Oper.wp
  simp [execOp, hop, resolve, invoke, builtin, hm, hx, hrun, Result.andThen]
  exact hK w' r1 r2
end

/-! ### The nodes -/
structure Rg where
  key : Nat → ByteArray
  val : Nat → ByteArray
  lat : Nat → Nat
  old : Nat → Nat
def upd {α : Type} (f : Nat → α) (b : Nat) (x : α) : Nat → α := fun i => if i = b then x else f i
theorem upd_same {α : Type} (f : Nat → α) (b : Nat) (x : α) : upd f b x b = x := by simp [upd]
theorem upd_other {α : Type} (f : Nat → α) {b i : Nat} (h : i ≠ b) (x : α) : upd f b x i = f i := by simp [upd, h]
def Rg.cells (r : Rg) (b : Nat) : List Value := [.string (r.key b), .string (r.val b), .pointer (some ⟨r.lat b, 0, none⟩), .pointer (some ⟨r.old b, 0, none⟩)]
def Rg.setLat (r : Rg) (b x : Nat) : Rg := { r with lat := upd r.lat b x }
def Rg.setOld (r : Rg) (b x : Nat) : Rg := { r with old := upd r.old b x }
def Rg.out (r : Rg) (b : Nat) : Rg := (r.setOld (r.lat b) (r.old b)).setLat (r.old b) (r.lat b)
def Rg.front (r : Rg) (g b : Nat) : Rg := (((r.setLat b g).setOld b (r.old g)).setLat (r.old g) b).setOld g b
def Rg.add (r : Rg) (b : Nat) (k v : ByteArray) : Rg := { r with key := upd r.key b k, val := upd r.val b v }

def Nodes (w : World) (S : List Nat) (r : Rg) : Prop := ∀ b ∈ S, Blk w b 78 (r.cells b)
section
variable {w w' : World} {S : List Nat} {r : Rg}
theorem Nodes.setLat (h : Nodes w S r) (y x : Nat) : Nodes (w.setCell ⟨y, 2, none⟩ (.pointer (some ⟨x, 0, none⟩))) S (r.setLat y x) := by
  intro b hb
  by_cases e : b = y
  · subst e
    have := Blk.set_ (h b hb) 2 (.pointer (some ⟨x, 0, none⟩))
    simpa [Rg.cells, Rg.setLat, upd] using this
  · have := Blk.far (h b hb) (p := ⟨y, 2, none⟩) e (.pointer (some ⟨x, 0, none⟩))
    simpa [Rg.cells, Rg.setLat, upd, e] using this
theorem Nodes.setOld (h : Nodes w S r) (y x : Nat) : Nodes (w.setCell ⟨y, 3, none⟩ (.pointer (some ⟨x, 0, none⟩))) S (r.setOld y x) := by
  intro b hb
  by_cases e : b = y
  · subst e
    have := Blk.set_ (h b hb) 3 (.pointer (some ⟨x, 0, none⟩))
    simpa [Rg.cells, Rg.setOld, upd] using this
  · have := Blk.far (h b hb) (p := ⟨y, 3, none⟩) e (.pointer (some ⟨x, 0, none⟩))
    simpa [Rg.cells, Rg.setOld, upd, e] using this
theorem Nodes.drewN (h : Nodes w S r) (k : Nat) : Nodes (w.drewN k) S r := h
theorem Nodes.keeps {X : Nat → Prop} (h : Nodes w S r) (hk : Keeps X w w') (hX : ∀ b ∈ S, ¬ X b) : Nodes w' S r := fun b hb => (h b hb).keeps hk (hX b hb)
theorem Nodes.sub {S' : List Nat} (h : Nodes w S r) (hs : ∀ b ∈ S', b ∈ S) : Nodes w S' r := fun b hb => h b (hs b hb)
end

/-! ### The ring -/
def Chain (r : Rg) : List Nat → Prop
  | a :: b :: t => (r.old a = b ∧ r.lat b = a) ∧ Chain r (b :: t)
  | _ => True
theorem chain_two {r : Rg} {a b : Nat} {t : List Nat} : Chain r (a :: b :: t) ↔ (r.old a = b ∧ r.lat b = a) ∧ Chain r (b :: t) := by simp only [Chain]
theorem chain_split {r : Rg} : ∀ (p : List Nat) (x : Nat) (q : List Nat), Chain r (p ++ x :: q) ↔ Chain r (p ++ [x]) ∧ Chain r (x :: q)
  | [], x, q => by simp [Chain]
  | [a], x, q => by simp [Chain]
  | a :: b :: p, x, q => by
    have := chain_split (r := r) (b :: p) x q
    simp only [List.cons_append] at this ⊢
    rw [chain_two, chain_two, this]
    constructor
    · rintro ⟨h1, h2, h3⟩; exact ⟨⟨h1, h2⟩, h3⟩
    · rintro ⟨⟨h1, h2⟩, h3⟩; exact ⟨h1, h2, h3⟩
theorem chain_same {r r' : Rg} : ∀ (l : List Nat), Chain r l → (∀ u ∈ l.dropLast, r'.old u = r.old u) → (∀ v ∈ l.tail, r'.lat v = r.lat v) → Chain r' l
  | [], _, _, _ => by simp [Chain]
  | [a], _, _, _ => by simp [Chain]
  | a :: b :: t, h, h1, h2 => by
    rw [chain_two] at h ⊢
    refine ⟨⟨(h1 a (by simp)).trans h.1.1, (h2 b (by simp)).trans h.1.2⟩, chain_same (b :: t) h.2 (fun u hu => h1 u ?_) (fun v hv => h2 v ?_)⟩
    · rw [List.dropLast_cons_cons]; exact List.mem_cons_of_mem _ hu
    · simp at hv ⊢; exact .inr hv
def Ringed (r : Rg) (g : Nat) (L : List Nat) : Prop := Chain r (g :: L ++ [g]) ∧ (g :: L).Nodup

theorem ring_near {r : Rg} {g x : Nat} {P Q : List Nat} (h : Ringed r g (P ++ x :: Q)) :
    ∃ A a c C, g :: P = A ++ [a] ∧ Q ++ [g] = c :: C ∧ r.lat x = a ∧ r.old x = c := by
  obtain ⟨A, a, hA⟩ : ∃ A a, g :: P = A ++ [a] := ⟨_, _, (List.dropLast_concat_getLast (by simp)).symm⟩
  obtain ⟨c, C, hC⟩ : ∃ c C, Q ++ [g] = c :: C := by cases Q <;> exact ⟨_, _, rfl⟩
  refine ⟨A, a, c, C, hA, hC, ?_⟩
  have h1 := h.1
  rw [show g :: (P ++ x :: Q) ++ [g] = (g :: P) ++ x :: (Q ++ [g]) by simp, hA, hC, List.append_assoc, List.singleton_append, chain_split, chain_two, chain_two] at h1
  exact ⟨h1.2.1.2, h1.2.2.1.1⟩
theorem ring_out {r : Rg} {g x : Nat} {P Q : List Nat} (h : Ringed r g (P ++ x :: Q)) : Ringed (r.out x) g (P ++ Q) := by
  obtain ⟨A, a, c, C, hA, hC, ha, hc⟩ := ring_near h
  have hn := h.2
  refine ⟨?_, ?_⟩
  · have h1 := h.1
    rw [show g :: (P ++ x :: Q) ++ [g] = (g :: P) ++ x :: (Q ++ [g]) by simp, hA, hC, List.append_assoc, List.singleton_append, chain_split, chain_two, chain_two] at h1
    obtain ⟨h1, _, _, h2⟩ := h1
    rw [show g :: (P ++ Q) ++ [g] = (g :: P) ++ (Q ++ [g]) by simp, hA, hC, List.append_assoc, List.singleton_append, chain_split, chain_two]
    have hgP : ∀ v ∈ P, v ≠ g ∧ v ∉ Q := by
      intro v hv
      simp only [List.nodup_cons, List.mem_append, List.mem_cons, not_or, List.nodup_append] at hn
      exact ⟨fun e => hn.1.1 (e ▸ hv), fun hq => hn.2.2.2 v hv v (.inr hq) rfl⟩
    have hcm : c ∈ Q ∨ c = g := by
      cases Q with
      | nil => simp at hC; exact .inr hC.1.symm
      | cons y Q => simp at hC; exact .inl (by simp [hC.1])
    have ham : a ∈ g :: P := by rw [hA]; simp
    have hnd1 : (g :: P).Nodup := by
      rw [show g :: (P ++ x :: Q) = (g :: P) ++ x :: Q by simp] at hn
      exact (List.nodup_append.1 hn).1
    have hnd2 : (Q ++ [g]).Nodup := by
      simp only [List.nodup_cons, List.mem_append, List.mem_cons, not_or, List.nodup_append] at hn ⊢
      refine ⟨hn.2.2.1.2, by simp, fun y hy z hz => ?_⟩
      simp at hz; subst hz
      rintro rfl
      exact hn.1.2.2 hy
    refine ⟨chain_same _ h1 ?_ ?_, ⟨?_, ?_⟩, chain_same _ h2 ?_ ?_⟩
    · intro u hu
      rw [List.dropLast_concat] at hu
      have : u ≠ a := by
        rintro rfl
        rw [hA] at hnd1
        exact (List.nodup_append.1 hnd1).2.2 u hu u (by simp) rfl
      show upd r.old (r.lat x) (r.old x) u = r.old u
      rw [upd_other]; rw [ha]; exact this
    · intro v hv
      rw [← hA, List.tail_cons] at hv
      have h3 := hgP v hv
      show upd r.lat (r.old x) (r.lat x) v = r.lat v
      rw [upd_other]
      rw [hc]
      rintro rfl
      rcases hcm with h4 | h4
      · exact h3.2 h4
      · exact h3.1 h4
    · show upd r.old (r.lat x) (r.old x) a = c
      rw [ha, upd_same, hc]
    · show upd r.lat (r.old x) (r.lat x) c = a
      rw [hc, upd_same, ha]
    · intro u hu
      rw [← hC, List.dropLast_concat] at hu
      show upd r.old (r.lat x) (r.old x) u = r.old u
      rw [upd_other]
      rw [ha]
      rintro rfl
      rcases List.mem_cons.1 ham with h4 | h4
      · subst h4
        simp only [List.nodup_cons, List.mem_append, List.mem_cons, not_or] at hn
        exact hn.1.2.2 hu
      · exact (hgP u h4).2 hu
    · intro v hv
      rw [List.tail_cons] at hv
      show upd r.lat (r.old x) (r.lat x) v = r.lat v
      rw [upd_other]
      rw [hc]
      rintro rfl
      rw [hC] at hnd2
      exact (List.nodup_cons.1 hnd2).1 hv
  · simp only [List.nodup_cons, List.mem_append, List.mem_cons, not_or, List.nodup_append] at hn ⊢
    exact ⟨⟨hn.1.1, hn.1.2.2⟩, hn.2.1, hn.2.2.1.2, fun y hy z hz => hn.2.2.2 y hy z (.inr hz)⟩
theorem ring_front {r : Rg} {g x : Nat} {L : List Nat} (h : Ringed r g L) (hx : x ∉ g :: L) : Ringed (r.front g x) g (x :: L) := by
  obtain ⟨h1, hn⟩ := h
  have hxg : x ≠ g := fun e => hx (by simp [e])
  obtain ⟨c, C, hC⟩ : ∃ c C, L ++ [g] = c :: C := by cases L <;> exact ⟨_, _, rfl⟩
  have hcm : c ∈ g :: L := by
    cases L with
    | nil => simp at hC; simp [hC.1]
    | cons y L => simp at hC; simp [hC.1]
  have hxc : x ≠ c := fun e => hx (e ▸ hcm)
  refine ⟨?_, ?_⟩
  · rw [show g :: L ++ [g] = g :: (L ++ [g]) by simp, hC, chain_two] at h1
    obtain ⟨⟨h2, _⟩, h3⟩ := h1
    rw [show g :: (x :: L) ++ [g] = g :: x :: (L ++ [g]) by simp, hC, chain_two, chain_two]
    have hnd : (L ++ [g]).Nodup := by
      rw [List.nodup_cons] at hn
      rw [List.nodup_append]
      exact ⟨hn.2, by simp, fun y hy z hz => by simp at hz; subst hz; rintro rfl; exact hn.1 hy⟩
    refine ⟨⟨?_, ?_⟩, ⟨?_, ?_⟩, chain_same _ h3 ?_ ?_⟩
    · show upd (upd r.old x (r.old g)) g x g = x
      rw [upd_same]
    · show upd (upd r.lat x g) (r.old g) x x = g
      rw [h2, upd_other _ hxc, upd_same]
    · show upd (upd r.old x (r.old g)) g x x = c
      rw [upd_other _ hxg, upd_same, h2]
    · show upd (upd r.lat x g) (r.old g) x c = x
      rw [h2, upd_same]
    · intro u hu
      rw [← hC, List.dropLast_concat] at hu
      show upd (upd r.old x (r.old g)) g x u = r.old u
      rw [upd_other, upd_other]
      · rintro rfl; exact hx (by simp [hu])
      · rintro rfl; exact (List.nodup_cons.1 hn).1 hu
    · intro v hv
      rw [List.tail_cons] at hv
      show upd (upd r.lat x g) (r.old g) x v = r.lat v
      have hv2 : v ∈ L ++ [g] := by rw [hC]; simp [hv]
      rw [h2, upd_other, upd_other]
      · rintro rfl; exact hx (by simp at hv2 ⊢; exact hv2.symm)
      · rintro rfl
        rw [hC] at hnd
        exact (List.nodup_cons.1 hnd).1 hv
  · rw [List.nodup_cons] at hn ⊢
    simp only [List.mem_cons, not_or] at hx
    refine ⟨by simp only [List.mem_cons, not_or]; exact ⟨hxg.symm, hn.1⟩, List.nodup_cons.2 ⟨hx.2, hn.2⟩⟩
end Go.Proofs.Ytpeabfbljiaedaa
