/- The words for memory that all proofs of this seat share: data that read the same as long as their blocks are unchanged. No conditions. -/
import Derived.WalkKit
import Derived.WalkSpells
import Derived.ProofKit
import Derived.OpenShut
import Derived.Lib.Hide
import Derived.Carry
import Derived.Deep.AppendLies
import Derived.Deep.Draws
import Derived.Deep.Slices
import Derived.Shelf.Abstract
namespace Go.Proofs.YtcjoapmodaioiaaGreatDoor
open Go.RowKit Go.ChangeShapes Go.WideShapes

/-! ### Small equations between endings -/
theorem ret_int {k : IntKind} {a b : Int} (h : a = b) : Ending.returned (.int k a) = .returned (.int k b) := by rw [h]
theorem ret_bool {a b : Bool} (h : a = b) : Ending.returned (.bool a) = .returned (.bool b) := by rw [h]

theorem str_inj {a b : ByteArray} (h : a.toList = b.toList) : a = b := by
  rw [ByteArray.toList_eq, ByteArray.toList_eq] at h
  exact Go.WideShapes.bytes_inj h
theorem str_yes {a b : ByteArray} (h : a = b) : (a.toList == b.toList) = true := by rw [h]; simp
theorem str_no {a b : ByteArray} (h : a ≠ b) : (a.toList == b.toList) = false := by
  rw [beq_eq_false_iff_ne]; exact fun e => h (str_inj e)

/-! ### Data: what Go's plain values say, memory left out -/
inductive D where
  | int (k : IntKind) (n : Int)
  | bool (b : Bool)
  | str (s : ByteArray)
  | agg (l : List D)
  | sl (l : List D)

mutual
def Rp (w : World) (F : Nat → Prop) : D → List Value → Prop
  | .int k n, cs => cs = [.int k n] ∧ (Lit.int k n).wf = true
  | .bool b, cs => cs = [.bool b]
  | .str s, cs => cs = [.string s] ∧ s.size ≤ maxLen
  | .agg l, cs => RpAll w F l cs
  | .sl l, cs => ∃ A c, cs = [.slice A l.length c] ∧ l.length ≤ c ∧ c ≤ maxLen ∧ (A = none → c = 0) ∧
      (l ≠ [] → ∃ g off xs, A = some ⟨g, off, none⟩ ∧ F g ∧ RpAll w F l xs ∧ ∀ j u, xs[j]? = some u → w.cell? ⟨g, off + j, none⟩ = some u)
def RpAll (w : World) (F : Nat → Prop) : List D → List Value → Prop
  | [], cs => cs = []
  | d :: l, cs => ∃ a b, cs = a ++ b ∧ Rp w F d a ∧ RpAll w F l b
end

mutual
theorem Rp.frame {w w' : World} {F G : Nat → Prop} (hF : ∀ b, F b → G b) (hag : ∀ g off u, F g → w.cell? ⟨g, off, none⟩ = some u → w'.cell? ⟨g, off, none⟩ = some u) :
    ∀ (d : D) (cs : List Value), Rp w F d cs → Rp w' G d cs
  | .int _ _, _, h => by simpa only [Rp] using h
  | .bool _, _, h => by simpa only [Rp] using h
  | .str _, _, h => by simpa only [Rp] using h
  | .agg l, cs, h => by
    simp only [Rp] at h ⊢
    exact RpAll.frame hF hag l cs h
  | .sl l, cs, h => by
    simp only [Rp] at h ⊢
    obtain ⟨A, c, e, h1, h2, h3, h4⟩ := h
    refine ⟨A, c, e, h1, h2, h3, fun hne => ?_⟩
    obtain ⟨g, off, xs, ha, hg, hx, hc⟩ := h4 hne
    exact ⟨g, off, xs, ha, hF g hg, RpAll.frame hF hag l xs hx, fun j u hj => hag g _ u hg (hc j u hj)⟩
theorem RpAll.frame {w w' : World} {F G : Nat → Prop} (hF : ∀ b, F b → G b) (hag : ∀ g off u, F g → w.cell? ⟨g, off, none⟩ = some u → w'.cell? ⟨g, off, none⟩ = some u) :
    ∀ (l : List D) (cs : List Value), RpAll w F l cs → RpAll w' G l cs
  | [], _, h => by simpa only [RpAll] using h
  | d :: l, cs, h => by
    simp only [RpAll] at h ⊢
    obtain ⟨a, b, e, h1, h2⟩ := h
    exact ⟨a, b, e, Rp.frame hF hag d a h1, RpAll.frame hF hag l b h2⟩
end

theorem Rp.below {w w' : World} {B : Nat} {F : Nat → Prop} {d : D} {cs : List Value} (h : Rp w F d cs) (hF : ∀ b, F b → b < B) (hb : Below B w w') : Rp w' F d cs :=
  h.frame (fun _ h => h) (fun g off _ hg hc => (hb.cell (p := ⟨g, off, none⟩) (hF g hg)).trans hc)
theorem Rp.mono {w : World} {F G : Nat → Prop} {d : D} {cs : List Value} (h : Rp w F d cs) (hF : ∀ b, F b → G b) : Rp w G d cs :=
  h.frame hF (fun _ _ _ _ hc => hc)
theorem Rp.later {w w' : World} {F : Nat → Prop} {d : D} {cs : List Value} (h : Rp w F d cs) (hb : Below w.heap.size w w') : Rp w' F d cs :=
  h.frame (fun _ h => h) (fun _ _ _ _ hc => (hb.cell (block_lt_of_cell hc)).trans hc)
theorem Rp.grown {w w' : World} {F : Nat → Prop} {d : D} {cs : List Value} {r : Option Nat} (h : Rp w F d cs) (hg : w.grownBy w' r) (hr : ∀ b, F b → some b ≠ r) : Rp w' F d cs :=
  h.frame (fun _ h => h) (fun _ _ _ hF hc => (World.cell?_of_block (hg.block _ (block_lt_of_cell hc) (hr _ hF))).trans hc)
theorem RpAll.below {w w' : World} {B : Nat} {F : Nat → Prop} {l : List D} {cs : List Value} (h : RpAll w F l cs) (hF : ∀ b, F b → b < B) (hb : Below B w w') : RpAll w' F l cs :=
  h.frame (fun _ h => h) (fun g off _ hg hc => (hb.cell (p := ⟨g, off, none⟩) (hF g hg)).trans hc)
theorem RpAll.mono {w : World} {F G : Nat → Prop} {l : List D} {cs : List Value} (h : RpAll w F l cs) (hF : ∀ b, F b → G b) : RpAll w G l cs :=
  h.frame hF (fun _ _ _ _ hc => hc)
theorem RpAll.later {w w' : World} {F : Nat → Prop} {l : List D} {cs : List Value} (h : RpAll w F l cs) (hb : Below w.heap.size w w') : RpAll w' F l cs :=
  h.frame (fun _ h => h) (fun _ _ _ _ hc => (hb.cell (block_lt_of_cell hc)).trans hc)
theorem RpAll.grown {w w' : World} {F : Nat → Prop} {l : List D} {cs : List Value} {r : Option Nat} (h : RpAll w F l cs) (hg : w.grownBy w' r) (hr : ∀ b, F b → some b ≠ r) : RpAll w' F l cs :=
  h.frame (fun _ h => h) (fun _ _ _ hF hc => (World.cell?_of_block (hg.block _ (block_lt_of_cell hc) (hr _ hF))).trans hc)

theorem RpAll.append {w : World} {F : Nat → Prop} : ∀ {l l' : List D} {cs cs' : List Value}, RpAll w F l cs → RpAll w F l' cs' → RpAll w F (l ++ l') (cs ++ cs')
  | [], _, _, _, h, h' => by simp only [RpAll] at h; subst h; simpa using h'
  | d :: l, _, _, _, h, h' => by
    simp only [RpAll, List.cons_append] at h ⊢
    obtain ⟨a, b, e, h1, h2⟩ := h
    subst e
    exact ⟨a, b ++ _, by simp, h1, RpAll.append h2 h'⟩
theorem RpAll.one {w : World} {F : Nat → Prop} {d : D} {cs : List Value} (h : Rp w F d cs) : RpAll w F [d] cs := by
  simp only [RpAll]; exact ⟨cs, [], by simp, h, rfl⟩
theorem RpAll.split {w : World} {F : Nat → Prop} : ∀ {l l' : List D} {cs : List Value}, RpAll w F (l ++ l') cs → ∃ a b, cs = a ++ b ∧ RpAll w F l a ∧ RpAll w F l' b
  | [], _, cs, h => ⟨[], cs, by simp, by simp [RpAll], by simpa using h⟩
  | d :: l, _, cs, h => by
    simp only [RpAll, List.cons_append] at h ⊢
    obtain ⟨a, b, e, h1, h2⟩ := h
    obtain ⟨a', b', e', h3, h4⟩ := RpAll.split h2
    exact ⟨a ++ a', b', by rw [e, e', List.append_assoc], ⟨a, a', rfl, h1, h3⟩, h4⟩

theorem rpAll_nil {w : World} {F : Nat → Prop} {cs : List Value} : RpAll w F [] cs ↔ cs = [] := by simp only [RpAll]
theorem rpAll_cons {w : World} {F : Nat → Prop} {d : D} {l : List D} {cs : List Value} : RpAll w F (d :: l) cs ↔ ∃ a b, cs = a ++ b ∧ Rp w F d a ∧ RpAll w F l b := by simp only [RpAll]
theorem rp_agg {w : World} {F : Nat → Prop} {l : List D} {cs : List Value} : Rp w F (.agg l) cs ↔ RpAll w F l cs := by simp only [Rp]
theorem rp_int {w : World} {F : Nat → Prop} {k : IntKind} {n : Int} {cs : List Value} : Rp w F (.int k n) cs ↔ cs = [.int k n] ∧ (Lit.int k n).wf = true := by simp only [Rp]
theorem rp_str {w : World} {F : Nat → Prop} {s : ByteArray} {cs : List Value} : Rp w F (.str s) cs ↔ cs = [.string s] ∧ s.size ≤ maxLen := by simp only [Rp]

/-! ### Slices of data: 'Sl w F f l v': the slice value v holds the list l, each element as the datum 'f x' -/
def Sl {α : Type} (w : World) (F : Nat → Prop) (f : α → D) (l : List α) (v : Value) : Prop := Rp w F (.sl (l.map f)) [v]
def Wide {α : Type} (f : α → D) (k : Nat) : Prop := ∀ (w : World) (F : Nat → Prop) (x : α) (cs : List Value), Rp w F (f x) cs → cs.length = k

section
variable {α : Type} {f : α → D} {k : Nat} {w w' : World} {F G : Nat → Prop} {l : List α} {v : Value}

theorem RpAll.length (hk : Wide f k) : ∀ (l : List α) (cs : List Value), RpAll w F (l.map f) cs → cs.length = l.length * k
  | [], cs, h => by simp only [List.map_nil, RpAll] at h; simp [h]
  | x :: l, cs, h => by
    simp only [List.map_cons, RpAll] at h
    obtain ⟨a, b, rfl, h1, h2⟩ := h
    rw [List.length_append, hk _ _ _ _ h1, RpAll.length hk l b h2, List.length_cons, Nat.succ_mul, Nat.add_comm]

theorem RpAll.get (hk : Wide f k) : ∀ (l : List α) (cs : List Value), RpAll w F (l.map f) cs → ∀ i (hi : i < l.length), ∃ c, Rp w F (f l[i]) c ∧ c.length = k ∧ ∀ j u, c[j]? = some u → cs[i * k + j]? = some u
  | [], _, _, i, hi => absurd hi (by simp)
  | x :: l, cs, h, i, hi => by
    simp only [List.map_cons, RpAll] at h
    obtain ⟨a, b, rfl, h1, h2⟩ := h
    have ha := hk _ _ _ _ h1
    cases i with
    | zero => exact ⟨a, h1, ha, fun j u hj => by rw [Nat.zero_mul, Nat.zero_add, List.getElem?_append_left (by have := (List.getElem?_eq_some_iff.1 hj).1; omega)]; exact hj⟩
    | succ i =>
      obtain ⟨c, hc, hlen, hat⟩ := RpAll.get hk l b h2 i (by simpa using hi)
      refine ⟨c, by simpa using hc, hlen, fun j u hj => ?_⟩
      rw [List.getElem?_append_right (by rw [ha, Nat.succ_mul]; omega), ← hat j u hj]
      congr 1
      rw [ha, Nat.succ_mul]; omega

theorem Sl.form (h : Sl w F f l v) : ∃ A c, v = .slice A l.length c ∧ l.length ≤ c ∧ c ≤ maxLen ∧ (A = none → c = 0) := by
  unfold Sl at h
  simp only [Rp] at h
  obtain ⟨A, c, e, h1, h2, h3, _⟩ := h
  rw [List.length_map] at e h1
  exact ⟨A, c, by simpa using e, h1, h2, h3⟩

theorem Sl.get {A : Option Addr} {n c : Nat} (h : Sl w F f l (.slice A n c)) (hk : Wide f k) {i : Nat} (hi : i < l.length) :
    ∃ g off cs, A = some ⟨g, off, none⟩ ∧ F g ∧ Rp w F (f l[i]) cs ∧ cs.length = k ∧ ∀ j u, cs[j]? = some u → w.cell? ⟨g, off + i * k + j, none⟩ = some u := by
  unfold Sl at h
  simp only [Rp] at h
  obtain ⟨A', c', e, h1, h2, h3, h4⟩ := h
  have hne : l.map f ≠ [] := by intro h0; rw [List.map_eq_nil_iff] at h0; subst h0; simp at hi
  obtain ⟨g, off, xs, hA, hg, hx, hc⟩ := h4 hne
  obtain ⟨cs, hcs, hlen, hat⟩ := RpAll.get hk l xs hx i hi
  have e' : A = A' := by simp at e; exact e.1
  exact ⟨g, off, cs, e'.trans hA, hg, hcs, hlen, fun j u hj => by rw [Nat.add_assoc]; exact hc _ _ (hat j u hj)⟩

theorem Sl.nil_ : Sl w F f [] (.slice none 0 0) := by
  unfold Sl; simp only [Rp]
  exact ⟨none, 0, by simp, by simp, by unfold maxLen; omega, fun _ => rfl, fun h => absurd rfl h⟩

theorem Sl.below {B : Nat} (h : Sl w F f l v) (hF : ∀ b, F b → b < B) (hb : Below B w w') : Sl w' F f l v := Rp.below h hF hb
theorem Sl.mono (h : Sl w F f l v) (hF : ∀ b, F b → G b) : Sl w G f l v := Rp.mono h hF
theorem Sl.later (h : Sl w F f l v) (hb : Below w.heap.size w w') : Sl w' F f l v := Rp.later h hb

theorem Sl.of_own {base : Nat} {e : TypeId} {n : Nat} {xs : List Value} (h : w.ownsRow base e k v n xs) (hn : n = l.length) (hx : RpAll w F (l.map f) xs) (hG : ∀ b, F b → G b) (hv : ∀ b, v.ownBlock = some b → G b) : Sl w G f l v := by
  unfold Sl
  simp only [Rp, List.length_map]
  subst hn
  rcases h.2 with ⟨e1, e2⟩ | ⟨g, cap, cur, e1, e2, e3, e4, e5, e6, e7⟩
  · exact ⟨none, 0, by rw [e1, e2], by omega, by unfold maxLen; omega, fun _ => rfl, fun hne => absurd (List.map_eq_nil_iff.2 (List.eq_nil_of_length_eq_zero e2)) hne⟩
  · refine ⟨some ⟨g, 0, none⟩, cap, by rw [e1], e4, e5, (fun h => nomatch h), fun _ => ⟨g, 0, xs, rfl, hv g (by rw [e1]; rfl), RpAll.mono hx hG, fun j u hj => ?_⟩⟩
    have := h.cells (g := g) (by rw [e1]; rfl) j u hj
    rwa [Go.WideShapes.add_plain] at this

theorem Sl.take {A : Option Addr} {n c : Nat} (h : Sl w F f l (.slice A n c)) {i : Nat} (hi : i ≤ l.length) : Sl w F f (l.take i) (.slice A i c) := by
  unfold Sl at h ⊢
  simp only [Rp] at h ⊢
  obtain ⟨A', c', e, h1, h2, h3, h4⟩ := h
  simp only [List.cons.injEq, Value.slice.injEq, and_true, List.length_map] at e
  obtain ⟨rfl, rfl, rfl⟩ := e
  rw [List.length_map] at h1
  refine ⟨A, c, by simp [Nat.min_eq_left hi], by simp; omega, h2, h3, fun hne => ?_⟩
  have hne' : l.map f ≠ [] := by intro h0; rw [List.map_eq_nil_iff] at h0; subst h0; simp at hne
  obtain ⟨g, off, xs, hA, hg, hx, hc⟩ := h4 hne'
  have hs : l.map f = (l.take i).map f ++ (l.drop i).map f := by rw [← List.map_append, List.take_append_drop]
  rw [hs] at hx
  obtain ⟨a, b, rfl, hx1, _⟩ := RpAll.split hx
  exact ⟨g, off, a, hA, hg, hx1, fun j u hj => hc j u (by rw [List.getElem?_append_left (List.getElem?_eq_some_iff.1 hj).1]; exact hj)⟩

theorem Sl.drop {A : Option Addr} {n c : Nat} (h : Sl w F f l (.slice A n c)) (hk : Wide f k) {i : Nat} (hi : i ≤ l.length) :
    Sl w F f (l.drop i) (.slice (if c = i then A else A.map (·.add (i * k))) (n - i) (c - i)) := by
  unfold Sl at h ⊢
  simp only [Rp] at h ⊢
  obtain ⟨A', c', e, h1, h2, h3, h4⟩ := h
  simp only [List.cons.injEq, Value.slice.injEq, and_true, List.length_map] at e
  obtain ⟨rfl, rfl, rfl⟩ := e
  rw [List.length_map] at h1
  refine ⟨_, c - i, by rw [List.length_map, List.length_drop], by simp; omega, by omega, fun hn => ?_, fun hne => ?_⟩
  · split at hn
    · have := h3 hn; omega
    · have := h3 (by simpa using hn); omega
  · have hne' : l.map f ≠ [] := by intro h0; rw [List.map_eq_nil_iff] at h0; subst h0; simp at hne
    have hlt : i < l.length := by
      rcases Nat.lt_or_ge i l.length with h0 | h0
      · exact h0
      · exfalso; exact hne (by rw [List.drop_eq_nil_of_le h0]; rfl)
    obtain ⟨g, off, xs, hA, hg, hx, hc⟩ := h4 hne'
    have hs : l.map f = (l.take i).map f ++ (l.drop i).map f := by rw [← List.map_append, List.take_append_drop]
    rw [hs] at hx
    obtain ⟨a, b, rfl, hx1, hx2⟩ := RpAll.split hx
    have hla := RpAll.length hk _ _ hx1
    rw [List.length_take, Nat.min_eq_left hi] at hla
    refine ⟨g, off + i * k, b, ?_, hg, hx2, fun j u hj => ?_⟩
    · rw [if_neg (by omega), hA]; simp [Go.WideShapes.add_plain]
    · have := hc (i * k + j) u (by rw [List.getElem?_append_right (by omega), ← hj]; congr 1; omega)
      rwa [← Nat.add_assoc] at this
end

/-! ### From the model's own readings -/
section
variable {H : Type} {enc : TypeId × Value → H} {P : Program} {w : World} {base : Nat} {sp : Nat → Bool} {held : Bool}

end

theorem uncons {α : Type} {l : List α} {n : Nat} (h : l.length = n + 1) : ∃ x t, l = x :: t ∧ t.length = n := by
  cases l with
  | nil => simp at h
  | cons x t => exact ⟨x, t, rfl, by simpa using h⟩

/-! ### One-cell elements: integers and strings -/
def dInt (n : Int) : D := .int .i64 n
def dStr (s : ByteArray) : D := .str s
theorem dInt.wide : Wide dInt 1 := fun _ _ _ _ h => by unfold dInt at h; rw [rp_int] at h; rw [h.1]; rfl
theorem dStr.wide : Wide dStr 1 := fun _ _ _ _ h => by unfold dStr at h; rw [rp_str] at h; rw [h.1]; rfl
theorem dInt.get {w : World} {F : Nat → Prop} {l : List Int} {A : Option Addr} {n c : Nat} (h : Sl w F dInt l (.slice A n c)) {i : Nat} (hi : i < l.length) :
    ∃ g off, A = some ⟨g, off, none⟩ ∧ F g ∧ w.cell? ⟨g, off + i, none⟩ = some (.int .i64 l[i]) ∧ (Lit.int .i64 l[i]).wf = true := by
  obtain ⟨g, off, cs, hA, hg, hr, _, hc⟩ := Sl.get h dInt.wide hi
  unfold dInt at hr; rw [rp_int] at hr
  obtain ⟨rfl, h1⟩ := hr
  exact ⟨g, off, hA, hg, by simpa using hc 0 _ rfl, h1⟩
theorem dStr.get {w : World} {F : Nat → Prop} {l : List ByteArray} {A : Option Addr} {n c : Nat} (h : Sl w F dStr l (.slice A n c)) {i : Nat} (hi : i < l.length) :
    ∃ g off, A = some ⟨g, off, none⟩ ∧ F g ∧ w.cell? ⟨g, off + i, none⟩ = some (.string l[i]) ∧ l[i].size ≤ maxLen := by
  obtain ⟨g, off, cs, hA, hg, hr, _, hc⟩ := Sl.get h dStr.wide hi
  unfold dStr at hr; rw [rp_str] at hr
  obtain ⟨rfl, h1⟩ := hr
  exact ⟨g, off, hA, hg, by simpa using hc 0 _ rfl, h1⟩
section
variable {H : Type} {enc : TypeId × Value → H} {P : Program} {w : World} {base : Nat} {sp : Nat → Bool} {held : Bool}
theorem dInt.of_trod {t : TypeId} (ht : P.underlying t = some (.int .i64)) {n : Nat} {cs : List Value} {y : DataW H × List MemPlace} (h : DataW.trod enc P w base sp held n t cs = some y) : ∃ x : Int, Rp w (· < w.heap.size) (dInt x) cs := by
  obtain ⟨z, e, _, u⟩ := DataW.trod_int ht h
  exact ⟨z, rp_int.2 ⟨e, u⟩⟩
theorem dStr.of_trod {t : TypeId} (ht : P.underlying t = some .string) {n : Nat} {cs : List Value} {y : DataW H × List MemPlace} (h : DataW.trod enc P w base sp held n t cs = some y) : ∃ x : ByteArray, Rp w (· < w.heap.size) (dStr x) cs := by
  obtain ⟨z, e, _, u⟩ := DataW.trod_string ht h
  exact ⟨z, rp_str.2 ⟨e, u⟩⟩
end

/-! ### A block of the call's own that is known whole -/
def Blk (w : World) (g : Nat) (t : TypeId) (cs : List Value) : Prop := w.heap[g]? = some (.cells cs.toArray t (0, 0))
section
variable {w w' : World} {g : Nat} {t : TypeId} {cs : List Value}
theorem Blk.lt (h : Blk w g t cs) : g < w.heap.size := (Array.getElem?_eq_some_iff.1 h).1
theorem Blk.cell (h : Blk w g t cs) {i : Nat} {u : Value} (hi : cs[i]? = some u) : w.cell? ⟨g, i, none⟩ = some u := by
  rw [cell_of_row w g i cs.toArray t (0, 0) h]; simpa using hi
theorem Blk.free (h : Blk w g t cs) (i : Nat) : w.frozen? ⟨g, i, none⟩ = false := by
  unfold Blk at h
  simp [World.frozen?, h]
theorem Blk.new (w : World) (t : TypeId) (cs : List Value) : Blk (w.alloc (.cells cs.toArray t)) w.heap.size t cs := heap_alloc_new w _
theorem Blk.alloc (h : Blk w g t cs) (o : Obj) : Blk (w.alloc o) g t cs := (Below.heap_alloc w o g h.lt).trans h
theorem Blk.drew (h : Blk w g t cs) : Blk w.drew g t cs := h
theorem Blk.drewN (h : Blk w g t cs) (n : Nat) : Blk (w.drewN n) g t cs := h
theorem Blk.set_ (h : Blk w g t cs) (i : Nat) (u : Value) : Blk (w.setCell ⟨g, i, none⟩ u) g t (cs.set i u) := by
  unfold Blk at h ⊢
  simp [World.setCell, Array.getElem?_modify, h]
theorem Blk.far (h : Blk w g t cs) {p : Addr} (hp : g ≠ p.block) (u : Value) : Blk (w.setCell p u) g t cs := (Below.heap_setCell w p u g hp).trans h
theorem Blk.below {B : Nat} (h : Blk w g t cs) (hb : Below B w w') (hg : g < B) : Blk w' g t cs := (hb.block g hg).trans h
theorem Blk.later (h : Blk w g t cs) (hb : Below w.heap.size w w') : Blk w' g t cs := (hb.block g h.lt).trans h
theorem Blk.grown {r : Option Nat} (h : Blk w g t cs) (hb : w.grownBy w' r) (hg : some g ≠ r) : Blk w' g t cs := (hb.block g h.lt hg).trans h
end
theorem own_ne_blk {w : World} {base : Nat} {e : TypeId} {size n : Nat} {v : Value} {xs : List Value} {g : Nat} {t : TypeId} {cs : List Value} (h : w.ownsRow base e size v n xs) (hg : Blk w g t cs) (hne : e ≠ t) : v.ownBlock ≠ some g := by
  rcases h.2 with ⟨rfl, _⟩ | ⟨g', cap, cur, rfl, _, hh, _⟩
  · simp [Value.ownBlock]
  · intro he
    have : g' = g := by simpa [Value.ownBlock] using he
    subst this
    unfold Blk at hg
    rw [hg] at hh
    simp only [Option.some.injEq, Obj.cells.injEq] at hh
    exact hne hh.2.1.symm
theorem Below.drewN {B : Nat} {a w : World} (h : Below B a w) (n : Nat) : Below B a (w.drewN n) := ⟨h.os, h.tape, h.output, h.size, h.block⟩

/-! ### What was there is as it was, but for the blocks that X names -/
structure Keeps (X : Nat → Prop) (w w' : World) : Prop where
  os : w'.os = w.os
  tape : w'.tape = w.tape
  output : w'.output = w.output
  size : w.heap.size ≤ w'.heap.size
  block : ∀ k, k < w.heap.size → ¬ X k → w'.heap[k]? = w.heap[k]?
section
variable {X Y : Nat → Prop} {a b c w w' : World}
theorem Keeps.refl (X : Nat → Prop) (w : World) : Keeps X w w := ⟨rfl, rfl, rfl, Nat.le_refl _, fun _ _ _ => rfl⟩
theorem Keeps.trans (h : Keeps X a b) (k : Keeps Y b c) (hXY : ∀ i, i < a.heap.size → Y i → X i) : Keeps X a c :=
  ⟨k.os.trans h.os, k.tape.trans h.tape, k.output.trans h.output, Nat.le_trans h.size k.size, fun i hi hn => (k.block i (Nat.lt_of_lt_of_le hi h.size) (fun hy => hn (hXY i hi hy))).trans (h.block i hi hn)⟩
theorem Keeps.of_below (h : Below a.heap.size a b) : Keeps X a b := ⟨h.os, h.tape, h.output, h.size, fun i hi _ => h.block i hi⟩
theorem Keeps.below {B : Nat} (h : Keeps X a b) (hX : ∀ i, X i → B ≤ i) (hB : B ≤ a.heap.size) : Below B a b :=
  ⟨h.os, h.tape, h.output, h.size, fun i hi => h.block i (Nat.lt_of_lt_of_le hi hB) (fun hx => by have := hX i hx; omega)⟩
theorem Keeps.grown {r : Option Nat} (h : Keeps X a w) (hg : w.grownBy w' r) (hr : ∀ i, r = some i → i < a.heap.size → X i) : Keeps X a w' :=
  ⟨hg.os.trans h.os, hg.tape.trans h.tape, hg.output.trans h.output, Nat.le_trans h.size hg.size, fun i hi hn => (hg.block i (Nat.lt_of_lt_of_le hi h.size) (fun e => hn (hr i e.symm hi))).trans (h.block i hi hn)⟩
theorem Keeps.alloc (h : Keeps X a w) (o : Obj) : Keeps X a (w.alloc o) :=
  ⟨h.os, h.tape, h.output, Nat.le_trans h.size (by simp), fun i hi hn => (Below.heap_alloc w o i (Nat.lt_of_lt_of_le hi h.size)).trans (h.block i hi hn)⟩
theorem Keeps.drew (h : Keeps X a w) : Keeps X a w.drew := ⟨h.os, h.tape, h.output, h.size, h.block⟩
theorem Keeps.drewN (h : Keeps X a w) (n : Nat) : Keeps X a (w.drewN n) := ⟨h.os, h.tape, h.output, h.size, h.block⟩
theorem Keeps.setCell (h : Keeps X a w) {p : Addr} (hp : p.block < a.heap.size → X p.block) (u : Value) : Keeps X a (w.setCell p u) :=
  ⟨h.os, h.tape, h.output, by simpa [World.setCell] using h.size, fun i hi hn => (Below.heap_setCell w p u i (by rintro rfl; exact hn (hp hi))).trans (h.block i hi hn)⟩
theorem Keeps.mono (h : Keeps X a b) (hX : ∀ i, i < a.heap.size → X i → Y i) : Keeps Y a b := ⟨h.os, h.tape, h.output, h.size, fun i hi hn => h.block i hi (fun hx => hn (hX i hi hx))⟩
theorem Blk.keeps {g : Nat} {t : TypeId} {cs : List Value} (h : Blk a g t cs) (hk : Keeps X a b) (hg : ¬ X g) : Blk b g t cs := (hk.block g h.lt hg).trans h
theorem Keeps.cell (hk : Keeps X a b) {p : Addr} {u : Value} (h : a.cell? p = some u) (hp : ¬ X p.block) : b.cell? p = some u :=
  (World.cell?_of_block (hk.block _ (block_lt_of_cell h) hp)).trans h
theorem Rp.keeps {F : Nat → Prop} {d : D} {cs : List Value} (h : Rp a F d cs) (hk : Keeps X a b) (hF : ∀ i, F i → ¬ X i) : Rp b F d cs :=
  h.frame (fun _ h => h) (fun _ _ _ hg hc => hk.cell hc (hF _ hg))
theorem Sl.keeps {α : Type} {f : α → D} {l : List α} {v : Value} {F : Nat → Prop} (h : Sl a F f l v) (hk : Keeps X a b) (hF : ∀ i, F i → ¬ X i) : Sl b F f l v := Rp.keeps h hk hF
theorem own_keeps {base : Nat} {e : TypeId} {size n : Nat} {v : Value} {xs : List Value} (h : a.ownsRow base e size v n xs) (hk : Keeps X a b) (hv : ∀ i, v.ownBlock = some i → ¬ X i) : b.ownsRow base e size v n xs := by
  obtain ⟨h1, h2⟩ := h
  refine ⟨h1, ?_⟩
  rcases h2 with h2 | ⟨g, cap, cur, rfl, hb, hg, h4⟩
  · exact .inl h2
  · exact .inr ⟨g, cap, cur, rfl, hb, (hk.block g (Array.getElem?_eq_some_iff.1 hg).1 (hv g rfl)).trans hg, h4⟩
end

theorem ret_row {P : Program} {fn : Func} {R : Ending → World → Prop} {a : Act} {w : World} {p : Tmp} {ty : TypeId} {g : Nat} {t : TypeId} {cs : List Value} {fs : Array Field}
    (hr : fn.results = #[.cell p ty]) (hp : a.tmps.getD p undef = .pointer (some ⟨g, 0, none⟩)) (hb : Blk w g t cs) (hu : P.underlying ty = some (.struct fs))
    (hi : (P.info? ty).map (·.size) = some cs.length) (hd : a.defers = []) (hR : R (.returned (.agg cs.toArray)) w) : bodyPost P fn R .ret a w :=
  bodyPost_ret (v := .agg cs.toArray) (results_cell_row hr _ _ g t cs.toArray (0, 0) _ hp hb hu rfl (by simpa using hi)) hd hR

/-! ### The index of the first element that a predicate accepts; -1: there is none -/
def idxFrom {α : Type} (p : α → Bool) : List α → Nat → Int
  | [], _ => -1
  | x :: l, k => if p x = true then (k : Int) else idxFrom p l (k + 1)
def idxInt {α : Type} (p : α → Bool) (l : List α) : Int := idxFrom p l 0
theorem idxFrom_step {α : Type} (p : α → Bool) (l : List α) (k : Nat) (hk : k < l.length) :
    (p l[k] = false → idxFrom p (l.drop k) k = idxFrom p (l.drop (k + 1)) (k + 1)) ∧ (p l[k] = true → idxFrom p (l.drop k) k = k) := by
  rw [List.drop_eq_getElem_cons hk, idxFrom]
  exact ⟨fun h => by simp [h], fun h => by simp [h]⟩
theorem idxFrom_end {α : Type} (p : α → Bool) (l : List α) (k : Nat) (hk : l.length ≤ k) : idxFrom p (l.drop k) k = -1 := by
  rw [List.drop_eq_nil_of_le hk]; rfl
theorem idxFrom_any {α : Type} (p : α → Bool) : ∀ (l : List α) (k : Nat), decide (0 ≤ idxFrom p l k) = l.any p
  | [], _ => rfl
  | x :: l, k => by
    rw [idxFrom, List.any_cons]
    cases h : p x
    · simpa using idxFrom_any p l (k + 1)
    · simp
theorem idxInt_any {α : Type} (p : α → Bool) (l : List α) : decide (0 ≤ idxInt p l) = l.any p := idxFrom_any p l 0

/-! ### A law's last step: it returned true, and all that was there is as it was -/
section
variable {H : Type} {enc : TypeId × Value → H} {P : Program}
theorem trodAll_stays (hl : laidOutB P = true) {W W' : World} (hb : Below W.heap.size W W') {sp : Nat → Bool} : ∀ {ts : List TypeId} {vs : List Value} {ds : List (DataW H)} {ps : List MemPlace},
    ts.all (fun t => P.readableRec t && decide (t < P.types.size)) = true → DataW.TrodAll enc P W 0 (fun _ => true) true ts vs ds ps → (∀ p ∈ ps, p.block < W.heap.size) → (∀ p ∈ ps, sp p.block = true) → DataW.TrodAll enc P W' 0 sp true ts vs ds ps
  | [], [], [], _, _, h, _, _ => h
  | t :: ts, _ :: _, _ :: _, _, hr, ⟨p, q, h1, h2, e⟩, hlt, hs => by
    simp only [List.all_cons, Bool.and_eq_true, decide_eq_true_eq] at hr
    refine ⟨p, q, WideElems.Trod_stays hl hr.1.1 hr.1.2 h1 (fun x hx => hb.same (hlt x ?_)) (fun x hx => hs x ?_), trodAll_stays hl hb hr.2 h2 (fun x hx => hlt x ?_) (fun x hx => hs x ?_), e⟩ <;> rw [e] <;> simp [hx]

theorem law_post {f : Func} {s : ChangeSpec} {tb : TypeId} {W W' : World} {args : Array Value} {ds : List (DataW H)} {before : List MemPlace}
    (hl : laidOutB P = true) (hr : f.params.toList.all (fun t => P.readableRec t && decide (t < P.types.size)) = true)
    (hrt : f.resultTypes = #[tb]) (htb : P.underlying tb = some .bool) (hvars : s.vars = [])
    (hsr : (s.fn H ds).results = [.lit (.bool true)]) (hsa : (s.fn H ds).args = ds) (hsv : (s.fn H ds).vars = [])
    (hW : DataW.Whole enc P f.params.toList s.vars false W args.toList ds [] before) (hb : Below W.heap.size W W') :
    s.post enc P f false true false false W args (.bool true) W' := by
  have hlt : ∀ p ∈ before, p.block < W.heap.size := fun p hp => hW.lt p hp
  have hW' := hW
  obtain ⟨pa, pv, hA, hV, hbef, _, _⟩ := hW
  have hpv : pv = [] := by
    rw [hvars] at hV
    exact hV
  subst hpv
  rw [List.append_nil] at hbef
  subst hbef
  have hold : ∀ p ∈ before, (fun b => decide (b < W.heap.size)) p.block = true := fun p hp => by simpa using hlt p hp
  refine ⟨ds, [], before, [], before, [], hW', ?_, ?_, ?_, World.keptBut_mono (fun p hp => ⟨hp, .inr (.inl hp)⟩) (hb.frame (· ∈ before)), fun h => by cases h⟩
  · rw [List.append_nil, hsr, hrt]
    exact trodAll_cons_mk (shut_bool htb _) trodAll_mk0
  · rw [List.append_nil, hsa]
    exact trodAll_stays hl hb hr hA hlt hold
  · rw [List.append_nil, hsv, hvars]
    rfl
end
end Go.Proofs.YtcjoapmodaioiaaGreatDoor
