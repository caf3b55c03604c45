/- The parser: PaFr, PaN, PaK. -/
import Derived.Test.YtcjoapmodaioiaaGreatDoorMPaA
section
namespace Go.Proofs.YtcjoapmodaioiaaGreatDoor
open Go.RowKit Go.Shelf Pa

inductive Loc where
  | box (k : Nat) (b : Nat) (t : TypeId) (cs : List Value)
  | row (k : Nat) (v : Value) (l : List Nat)
def Loc.at_ : Loc → Nat → Prop
  | .box _ b _ _, i => i = b
  | .row _ v _, i => v.ownBlock = some i
def Loc.key : Loc → Nat
  | .box k _ _ _ => k
  | .row k _ _ => k
def Loc.ok (B : Nat) (w : World) : Loc → Prop
  | .box _ b t cs => Blk w b t cs
  | .row _ v l => w.ownsRow B 3 1 v l.length (l.map kidC) ∧ ∀ i ∈ l, i < 4096
structure EnP where
  W : World
  nv : Value
  bv : Value
  G : Nat → Prop
  lo : Int
  bad : Nat
structure Co (c : Cx) (E : EnP) (r : Nat) (L : List Loc) (s : Ps) (w : World) (nv bv : Value) (G : Nat → Prop) (ns : List Nv) : Prop where
  pa : PaAt c w nv bv G ns s
  keep : Keeps (OwnT c.bp E.nv E.bv) E.W w
  sub : ∀ i, E.G i → G i
  own : ∀ i, OwnP c nv bv G i → OwnP c E.nv E.bv E.G i ∨ E.W.heap.size ≤ i
  far : ∀ i, c.F i → i < E.W.heap.size
  low : E.lo ≤ s.deep
  cap : s.deep ≤ 100 + (r : Int)
  room : s.bad.length ≤ E.bad + r
  base : c.B ≤ E.W.heap.size
  ok : ∀ x ∈ L, x.ok E.W.heap.size w
  new : ∀ x ∈ L, ∀ i, x.at_ i → E.W.heap.size ≤ i ∧ i < w.heap.size ∧ ¬ OwnP c nv bv G i
  apart : ∀ x ∈ L, ∀ y ∈ L, ∀ i, x.at_ i → y.at_ i → x.key = y.key
def Fr (c : Cx) (E : EnP) (r : Nat) (L : List Loc) (s : Ps) (w : World) : Prop := ∃ nv bv G ns, Co c E r L s w nv bv G ns
section
variable {c : Cx} {E : EnP} {r : Nat} {L L' : List Loc} {s : Ps} {w w' : World}
theorem Fr.start {W : World} {nv bv : Value} {G : Nat → Prop} {ns : List Nv} {s : Ps} (h : PaAt c W nv bv G ns s) (hB : c.B ≤ c.bp) (hc : s.deep ≤ 100) : Fr c ⟨W, nv, bv, G, s.deep, s.bad.length⟩ 0 [] s W :=
  ⟨nv, bv, G, ns, h, Keeps.refl _ _, fun _ h => h, fun _ h => .inl h, fun i hi => (h.far i hi).1, Int.le_refl _, by show _ ≤ (100 : Int) + 0; omega, Nat.le_refl _, Nat.le_trans hB (Nat.le_of_lt h.box.lt), fun _ hx => (nomatch hx), fun _ hx => (nomatch hx), fun _ hx => (nomatch hx)⟩
theorem Fr.sub (h : Fr c E r L s w) (hL : ∀ x ∈ L', x ∈ L) : Fr c E r L' s w := by
  obtain ⟨nv, bv, G, ns, h⟩ := h
  exact ⟨nv, bv, G, ns, h.pa, h.keep, h.sub, h.own, h.far, h.low, h.cap, h.room, h.base, fun x hx => h.ok x (hL x hx), fun x hx => h.new x (hL x hx), fun x hx y hy => h.apart x (hL x hx) y (hL y hy)⟩
theorem Loc.ok_keeps {X : Nat → Prop} {B : Nat} {x : Loc} (h : x.ok B w) (hk : Keeps X w w') (hx : ∀ i, x.at_ i → ¬ X i) : x.ok B w' := by
  cases x with
  | box k b t cs => exact Blk.keeps h hk (hx b rfl)
  | row k v l => exact ⟨own_keeps h.1 hk hx, h.2⟩
theorem Loc.ok_base {B B' : Nat} {x : Loc} (h : x.ok B w) (hB : B' ≤ B) : x.ok B' w := by
  cases x with
  | box k b t cs => exact h
  | row k v l =>
    refine ⟨⟨h.1.1, h.1.2.imp id ?_⟩, h.2⟩
    rintro ⟨g, cap, cur, e1, e2, e3⟩
    exact ⟨g, cap, cur, e1, Nat.le_trans hB e2, e3⟩
theorem Fr.same (h : Fr c E r L s w) (hk : Keeps (fun _ => False) w w') : Fr c E r L s w' := by
  obtain ⟨nv, bv, G, ns, h⟩ := h
  exact ⟨nv, bv, G, ns, h.pa.same hk, h.keep.trans hk (fun _ _ h => h.elim), h.sub, h.own, h.far, h.low, h.cap, h.room, h.base, fun x hx => Loc.ok_keeps (h.ok x hx) hk (fun _ _ h => h), fun x hx i hi => ⟨(h.new x hx i hi).1, Nat.lt_of_lt_of_le (h.new x hx i hi).2.1 hk.size, (h.new x hx i hi).2.2⟩, h.apart⟩
theorem Fr.alloc (h : Fr c E r L s w) (o : Obj) : Fr c E r L s (w.alloc o) := h.same ((Keeps.refl _ _).alloc o)
theorem Fr.drew (h : Fr c E r L s w) : Fr c E r L s w.drew := h.same (Keeps.refl _ _).drew
theorem Fr.size (h : Fr c E r L s w) : E.W.heap.size ≤ w.heap.size := by obtain ⟨nv, bv, G, ns, h⟩ := h; exact h.keep.size
theorem Fr.more (h : Fr c E r L s w) (hk : Keeps (fun _ => False) w w') (x : Loc) (hx : x.ok E.W.heap.size w') (hn : ∀ i, x.at_ i → w.heap.size ≤ i ∧ i < w'.heap.size) : Fr c E r (x :: L) s w' := by
  have h' := h.same hk
  have hz := h.size
  obtain ⟨nv, bv, G, ns, h⟩ := h
  have hp := h.pa.same hk
  refine ⟨nv, bv, G, ns, hp, h.keep.trans hk (fun _ _ h => h.elim), h.sub, h.own, h.far, h.low, h.cap, h.room, h.base, fun y hy => ?_, fun y hy i hi => ?_, fun y hy z hz i h1 h2 => ?_⟩
  · rcases List.mem_cons.1 hy with rfl | hy
    · exact hx
    · exact Loc.ok_keeps (h.ok y hy) hk (fun _ _ h => h)
  · rcases List.mem_cons.1 hy with rfl | hy
    · have := hn i hi
      exact ⟨by omega, this.2, fun ho => by have := h.pa.lt i ho; omega⟩
    · exact ⟨(h.new y hy i hi).1, Nat.lt_of_lt_of_le (h.new y hy i hi).2.1 hk.size, (h.new y hy i hi).2.2⟩
  · rcases List.mem_cons.1 hy with e1 | hy <;> rcases List.mem_cons.1 hz with e2 | hz
    · rw [e1, e2]
    · have := hn i (e1 ▸ h1); have := (h.new z hz i h2).2.1; omega
    · have := hn i (e2 ▸ h2); have := (h.new y hy i h1).2.1; omega
    · exact h.apart y hy z hz i h1 h2
theorem Fr.box (h : Fr c E r L s w) (k : Nat) (t : TypeId) (cs : List Value) : Fr c E r (.box k w.heap.size t cs :: L) s (w.alloc (.cells cs.toArray t)) :=
  h.more ((Keeps.refl _ _).alloc _) (.box k w.heap.size t cs) (Blk.new w t cs) (fun i hi => by have : i = w.heap.size := hi; subst this; exact ⟨Nat.le_refl _, by simp⟩)
theorem Fr.nil (h : Fr c E r L s w) (k : Nat) : Fr c E r (.row k (.slice none 0 0) [] :: L) s w :=
  h.more (Keeps.refl _ _) _ ⟨⟨rfl, .inl ⟨rfl, rfl⟩⟩, fun _ h => (nomatch h)⟩ (fun i hi => by simp [Loc.at_, Value.ownBlock] at hi)
theorem own_fresh {B : Nat} (g : Nat) (l : List Nat) (hB : B ≤ g) (h : Blk w g 3 (l.map kidC)) (hl : l.length ≤ maxLen) : w.ownsRow B 3 1 (.slice (some ⟨g, 0, none⟩) l.length l.length) l.length (l.map kidC) := by
  refine ⟨by simp, .inr ⟨g, l.length, _, rfl, hB, h, Nat.le_refl _, hl, by simp, by rw [Nat.mul_one]; exact List.take_of_length_le (by simp)⟩⟩
theorem Fr.kids (h : Fr c E r L s w) (k : Nat) (l : List Nat) (hl : l.length ≤ maxLen) (hq : ∀ i ∈ l, i < 4096) : Fr c E r (.row k (.slice (some ⟨w.heap.size, 0, none⟩) l.length l.length) l :: L) s (w.alloc (.cells (l.map kidC).toArray 3)) :=
  h.more ((Keeps.refl _ _).alloc _) _ ⟨own_fresh _ l h.size (Blk.new w _ _) hl, hq⟩ (fun i hi => by
    have : w.heap.size = i := by simpa [Loc.at_, Value.ownBlock] using hi
    subst this; exact ⟨Nat.le_refl _, by simp⟩)
theorem Fr.blk {k b : Nat} {t : TypeId} {cs : List Value} (h : Fr c E r L s w) (hx : Loc.box k b t cs ∈ L) : Blk w b t cs := by
  obtain ⟨nv, bv, G, ns, h⟩ := h
  exact h.ok _ hx
theorem Fr.r0 {k : Nat} {v : Value} {l : List Nat} (h : Fr c E r (.row k v l :: L) s w) : w.ownsRow E.W.heap.size 3 1 v l.length (l.map kidC) := by
  obtain ⟨nv, bv, G, ns, h⟩ := h
  exact (h.ok (.row k v l) (by simp)).1
theorem Fr.row {k : Nat} {v : Value} {l : List Nat} (h : Fr c E r L s w) (hx : Loc.row k v l ∈ L) : w.ownsRow E.W.heap.size 3 1 v l.length (l.map kidC) ∧ ∀ i ∈ l, i < 4096 := by
  obtain ⟨nv, bv, G, ns, h⟩ := h
  exact h.ok _ hx
theorem own_formP {B n : Nat} {v : Value} {xs : List Value} (h : w.ownsRow B 3 1 v n xs) : ∃ A cap, v = .slice A n cap ∧ n ≤ cap ∧ cap ≤ maxLen := by
  rcases h.2 with ⟨h1, h2⟩ | ⟨g, cap, _, h1, _, _, h2, h3, _⟩
  · exact ⟨none, 0, by rw [h1, h2], by omega, by unfold maxLen; omega⟩
  · exact ⟨_, _, h1, h2, h3⟩
theorem Fr.form {k : Nat} {v : Value} {l : List Nat} (h : Fr c E r L s w) (hx : Loc.row k v l ∈ L) : ∃ A cap, v = .slice A l.length cap ∧ l.length ≤ cap ∧ cap ≤ maxLen := own_formP (h.row hx).1
theorem Fr.turn (h : Fr c E r L s w) {X : Nat → Prop} (hk : Keeps X w w') (k : Nat) (x : Loc) (hX : ∀ i, X i → ∃ y ∈ L, y.key = k ∧ y.at_ i) (hx : x.ok E.W.heap.size w') (hkey : x.key = k)
    (hn : ∀ i, x.at_ i → (∃ y ∈ L, y.key = k ∧ y.at_ i) ∨ (w.heap.size ≤ i ∧ i < w'.heap.size)) (hL : ∀ y ∈ L', y = x ∨ y ∈ L ∧ y.key ≠ k) : Fr c E r L' s w' := by
  have hz := h.size
  obtain ⟨nv, bv, G, ns, h⟩ := h
  have hs := hk.size
  have hnX : ∀ i, OwnP c nv bv G i ∨ c.F i → ¬ X i := fun i hi hx => by
    obtain ⟨y, hy, _, hya⟩ := hX i hx
    have h1 := h.new y hy i hya
    rcases hi with hi | hi
    · exact h1.2.2 hi
    · have := h.far i hi; omega
  have hold : ∀ y ∈ L, y.key ≠ k → ∀ i, y.at_ i → ¬ X i := fun y hy hyk i hi hx => by
    obtain ⟨z, hz, hzk, hza⟩ := hX i hx
    exact hyk ((h.apart y hy z hz i hi hza).trans hzk)
  refine ⟨nv, bv, G, ns, h.pa.keeps hk hnX, h.keep.trans hk (fun i hi hx => ?_), h.sub, h.own, h.far, h.low, h.cap, h.room, h.base, fun y hy => ?_, fun y hy i hi => ?_, fun y hy z hzm i h1 h2 => ?_⟩
  · obtain ⟨y, hy, _, hya⟩ := hX i hx
    have h1 := h.new y hy i hya; omega
  · rcases hL y hy with rfl | ⟨hy, hyk⟩
    · exact hx
    · exact Loc.ok_keeps (h.ok y hy) hk (hold y hy hyk)
  · rcases hL y hy with rfl | ⟨hy, hyk⟩
    · rcases hn i hi with ⟨z, hzm, _, hza⟩ | hi
      · have := h.new z hzm i hza
        exact ⟨this.1, by omega, this.2.2⟩
      · exact ⟨by omega, hi.2, fun ho => by have := h.pa.lt i ho; omega⟩
    · have := h.new y hy i hi
      exact ⟨this.1, by omega, this.2.2⟩
  · have key : ∀ y ∈ L, y.key ≠ k → ∀ i, y.at_ i → x.at_ i → False := fun y hy hyk i h1 h2 => by
      rcases hn i h2 with ⟨z, hzm, hzk, hza⟩ | hi
      · exact hyk ((h.apart y hy z hzm i h1 hza).trans hzk)
      · have := h.new y hy i h1; omega
    rcases hL y hy with rfl | ⟨hy, hyk⟩ <;> rcases hL z hzm with rfl | ⟨hzm, hzk⟩
    · rfl
    · exact (key z hzm hzk i h2 h1).elim
    · exact (key y hy hyk i h1 h2).elim
    · exact h.apart y hy z hzm i h1 h2
theorem Fr.set {k b : Nat} {t : TypeId} {cs : List Value} (h : Fr c E r L s w) (hx : Loc.box k b t cs ∈ L) (i : Nat) (u : Value) (hL : ∀ y ∈ L', y = .box k b t (cs.set i u) ∨ y ∈ L ∧ y.key ≠ k) : Fr c E r L' s (w.setCell ⟨b, i, none⟩ u) :=
  h.turn (X := (· = b)) ((Keeps.refl (· = b) w).setCell (p := ⟨b, i, none⟩) (fun _ => rfl) _) k (.box k b t (cs.set i u)) (fun _ hj => ⟨_, hx, rfl, hj⟩) ((h.blk hx).set_ i u) rfl (fun _ hj => .inl ⟨_, hx, rfl, hj⟩) hL
theorem Fr.wr {k b : Nat} {t : TypeId} {cs : List Value} (h : Fr c E r [.box k b t cs] s w) (i : Nat) (u : Value) : Fr c E r [.box k b t (cs.set i u)] s (w.setCell ⟨b, i, none⟩ u) :=
  h.set (List.mem_singleton.2 rfl) i u (fun _ hy => .inl (List.mem_singleton.1 hy))
theorem Fr.b0 {k b : Nat} {t : TypeId} {cs : List Value} (h : Fr c E r (.box k b t cs :: L) s w) : Blk w b t cs := h.blk (k := k) (by simp)
theorem Fr.b1 {x : Loc} {k b : Nat} {t : TypeId} {cs : List Value} (h : Fr c E r (x :: .box k b t cs :: L) s w) : Blk w b t cs := h.blk (k := k) (by simp)
theorem Fr.b2 {x y : Loc} {k b : Nat} {t : TypeId} {cs : List Value} (h : Fr c E r (x :: y :: .box k b t cs :: L) s w) : Blk w b t cs := h.blk (k := k) (by simp)
theorem Fr.b3 {x y z : Loc} {k b : Nat} {t : TypeId} {cs : List Value} (h : Fr c E r (x :: y :: z :: .box k b t cs :: L) s w) : Blk w b t cs := h.blk (k := k) (by simp)
theorem Fr.b4 {x y z x' : Loc} {k b : Nat} {t : TypeId} {cs : List Value} (h : Fr c E r (x :: y :: z :: x' :: .box k b t cs :: L) s w) : Blk w b t cs := h.blk (k := k) (by simp)
theorem Fr.b5 {x y z x' y' : Loc} {k b : Nat} {t : TypeId} {cs : List Value} (h : Fr c E r (x :: y :: z :: x' :: y' :: .box k b t cs :: L) s w) : Blk w b t cs := h.blk (k := k) (by simp)
theorem Fr.grow {k : Nat} {v v' : Value} {l l' : List Nat} (h : Fr c E r L s w) (hx : Loc.row k v l ∈ L) (hk : Keeps (fun i => v.ownBlock = some i) w w') (ho : w'.ownsRow E.W.heap.size 3 1 v' l'.length (l'.map kidC)) (hq : ∀ i ∈ l', i < 4096)
    (hat : ∀ g, v'.ownBlock = some g → v.ownBlock = some g ∨ w.heap.size ≤ g) (hL : ∀ y ∈ L', y = .row k v' l' ∨ y ∈ L ∧ y.key ≠ k) : Fr c E r L' s w' :=
  h.turn hk k (.row k v' l') (fun i hi => ⟨_, hx, rfl, hi⟩) ⟨ho, hq⟩ rfl (fun i hi => (hat i hi).imp (fun e => ⟨_, hx, rfl, e⟩) (fun hg => ⟨hg, by
    have := (World.ownsRow.lt ho i hi); omega⟩)) hL
theorem name_world {K : Act → World → Prop} {a : Act} {w : World} (h : ∀ w', w' = w → K a w') : K a w := h w rfl
theorem Fr.lower (h : Fr c E r L s w) {lo : Int} (hl : lo ≤ s.deep) : Fr c { E with lo := lo } r L s w := by
  obtain ⟨nv, bv, G, ns, h⟩ := h
  exact ⟨nv, bv, G, ns, h.pa, h.keep, h.sub, h.own, h.far, hl, h.cap, h.room, h.base, h.ok, h.new, h.apart⟩
theorem Fr.trans {nv bv : Value} {G : Nat → Prop} {ns : List Nv} {s' : Ps} {q lo bad : _} {M : List Loc} (h : Co c E 0 L s w nv bv G ns) (h2 : Fr c ⟨w, nv, bv, G, lo, bad⟩ q M s' w') (hlo : E.lo ≤ lo) (hbad : bad ≤ E.bad) : Fr c E q (M ++ L) s' w' := by
  obtain ⟨nv2, bv2, G2, ns2, h2⟩ := h2
  have hk := h2.keep
  have hs := hk.size
  have hz := h.keep.size
  simp only at hk hs
  have hout : ∀ x ∈ L, ∀ i, x.at_ i → ¬ OwnT c.bp nv bv i := fun x hx i hi ho => (h.new x hx i hi).2.2 (.inl ho)
  refine ⟨nv2, bv2, G2, ns2, h2.pa, h.keep.trans hk (fun i hi hx => ?_), fun i hi => h2.sub i (h.sub i hi), fun i hi => ?_, h.far, ?_, h2.cap, ?_, h.base, fun x hx => ?_, fun x hx i hi => ?_, fun x hx y hy i h1 h3 => ?_⟩
  · rcases h.own i (.inl hx) with (h1 | h1) | h1
    · exact h1
    · exact absurd hx (h.pa.old i (h.sub i h1)).2
    · omega
  · rcases h2.own i hi with h1 | h1
    · exact h.own i h1
    · exact .inr (Nat.le_trans hz h1)
  · exact Int.le_trans hlo h2.low
  · have := h2.room; simp only at this; omega
  · rcases List.mem_append.1 hx with hx | hx
    · exact Loc.ok_base (h2.ok x hx) hz
    · exact Loc.ok_keeps (h.ok x hx) hk (hout x hx)
  · rcases List.mem_append.1 hx with hx | hx
    · have := h2.new x hx i hi
      simp only at this
      exact ⟨by omega, this.2⟩
    · have := h.new x hx i hi
      refine ⟨this.1, by omega, fun ho => ?_⟩
      rcases h2.own i ho with h1 | h1
      · exact this.2.2 h1
      · simp only at h1; omega
  · have key : ∀ x ∈ M, ∀ y ∈ L, ∀ i, x.at_ i → y.at_ i → False := fun x hx y hy i h1 h3 => by
      have a1 := h2.new x hx i h1
      have a2 := h.new y hy i h3
      simp only at a1; omega
    rcases List.mem_append.1 hx with hx | hx <;> rcases List.mem_append.1 hy with hy | hy
    · exact h2.apart x hx y hy i h1 h3
    · exact (key x hx y hy i h1 h3).elim
    · exact (key y hy x hx i h3 h1).elim
    · exact h.apart x hx y hy i h1 h3
theorem Fr.renum {k q : Nat} {v : Value} {l : List Nat} (h : Fr c E r [.row k v l] s w) : Fr c E r [.row q v l] s w := by
  obtain ⟨nv, bv, G, ns, h⟩ := h
  have h1 := h.ok (.row k v l) (by simp)
  have h2 := h.new (.row k v l) (by simp)
  refine ⟨nv, bv, G, ns, h.pa, h.keep, h.sub, h.own, h.far, h.low, h.cap, h.room, h.base, fun x hx => ?_, fun x hx => ?_, fun x hx y hy i _ _ => ?_⟩
  · rw [List.mem_singleton.1 hx]; exact h1
  · rw [List.mem_singleton.1 hx]; exact h2
  · rw [List.mem_singleton.1 hx, List.mem_singleton.1 hy]
end
def FrNo (c : Cx) (E : EnP) (L : List Loc) (s : Ps) (w : World) : Prop := ∃ d, Fr c E 1 L { s with deep := d } w
def MRes {α : Type} (c : Cx) (E : EnP) (val : α → Ending → Prop) (r : Rs α) (e : Ending) (w' : World) : Prop := match r with
  | .ok a s' => val a e ∧ Fr c E 0 [] s' w'
  | .no s' => e = failed ∧ FrNo c E [] s' w'
  | .out => True
def RRes (c : Cx) (E : EnP) (r : Rs (List Nat)) (e : Ending) (w' : World) : Prop := match r with
  | .ok l s' => ∃ v, e = .returned v ∧ l.length ≤ 1000000 ∧ Fr c E 0 [.row 0 v l] s' w'
  | .no s' => e = failed ∧ FrNo c E [] s' w'
  | .out => True
def Meth {α : Type} (c : Cx) (f : Nat) (args : Array Value) (m : Pm α) (val : α → Ending → Prop) : Prop :=
  ∀ (W : World) (nv bv : Value) (G : Nat → Prop) (ns : List Nv) (s : Ps), PaAt c W nv bv G ns s → c.B ≤ W.heap.size → s.bad.length < 1000000 → s.deep ≤ 100 → m s ≠ .out → Calls Tryz.prog f args W (MRes c ⟨W, nv, bv, G, s.deep, s.bad.length⟩ val (m s))
def MethR (c : Cx) (f : Nat) (args : Array Value) (m : Pm (List Nat)) : Prop :=
  ∀ (W : World) (nv bv : Value) (G : Nat → Prop) (ns : List Nv) (s : Ps), PaAt c W nv bv G ns s → c.B ≤ W.heap.size → s.bad.length < 1000000 → s.deep ≤ 100 → m s ≠ .out → Calls Tryz.prog f args W (RRes c ⟨W, nv, bv, G, s.deep, s.bad.length⟩ (m s))
def vNum (i : Nat) (e : Ending) : Prop := e = .returned (kidC i) ∧ i < 4096
def vStr (b : ByteArray) (e : Ending) : Prop := e = .returned (.string b)
def vUnit (_ : Unit) (e : Ending) : Prop := e = .returned (.tuple #[])
def Tok.wf (t : Tok) : Prop := (Lit.int .i64 t.kind).wf = true ∧ (Lit.int .i64 t.n).wf = true
def vTok (b : Bt) (e : Ending) : Prop := ∃ t : Tok, e = .returned (.agg #[.int .i64 t.kind, .string t.text, .int .i64 t.n, .int .i64 t.line, .int .i64 t.col]) ∧ t.bt = b ∧ t.wf
section
variable {c : Cx} {E : EnP} {L : List Loc} {s : Ps} {w : World} {α β : Type} {f : Nat} {args : Array Value} {m : Pm α} {g : α → Pm β} {val : α → Ending → Prop} {K : Ending → World → Prop}
theorem Fr.call (h : Fr c E 0 L s w) (M : Meth c f args m val) (hb : E.bad < 1000000) (ho : m s ≠ .out) (hno : ∀ s' w', m s = .no s' → FrNo c E L s' w' → K failed w')
    (hok : ∀ a s' e w', m s = .ok a s' → val a e → Fr c E 0 L s' w' → K e w') : Calls Tryz.prog f args w K := by
  obtain ⟨nv, bv, G, ns, h⟩ := h
  have hr := h.room
  have hcp : s.deep ≤ 100 := by have := h.cap; omega
  refine (M _ _ _ _ _ _ h.pa (Nat.le_trans h.base h.keep.size) (by omega) hcp ho).mono fun e w' hq => ?_
  cases hm : m s with
  | out => exact absurd hm ho
  | ok a s' =>
    rw [hm] at hq
    exact hok a s' e w' hm hq.1 (Fr.trans h hq.2 h.low hr)
  | no s' =>
    rw [hm] at hq
    obtain ⟨rfl, d, hq⟩ := hq
    exact hno s' w' hm ⟨d, Fr.trans h hq h.low hr⟩
theorem Fr.callR {m : Pm (List Nat)} (k : Nat) (h : Fr c E 0 L s w) (M : MethR c f args m) (hb : E.bad < 1000000) (ho : m s ≠ .out) (hno : ∀ s' w', m s = .no s' → FrNo c E L s' w' → K failed w')
    (hok : ∀ l s' v w', m s = .ok l s' → l.length ≤ 1000000 → Fr c E 0 (.row k v l :: L) s' w' → K (.returned v) w') : Calls Tryz.prog f args w K := by
  obtain ⟨nv, bv, G, ns, h⟩ := h
  have hr := h.room
  have hcp : s.deep ≤ 100 := by have := h.cap; omega
  refine (M _ _ _ _ _ _ h.pa (Nat.le_trans h.base h.keep.size) (by omega) hcp ho).mono fun e w' hq => ?_
  cases hm : m s with
  | out => exact absurd hm ho
  | ok a s' =>
    rw [hm] at hq
    obtain ⟨v, rfl, hq0, hq⟩ := hq
    exact hok a s' v w' hm hq0 (Fr.trans h hq.renum h.low hr)
  | no s' =>
    rw [hm] at hq
    obtain ⟨rfl, d, hq⟩ := hq
    exact hno s' w' hm ⟨d, Fr.trans h hq h.low hr⟩
theorem bind_no {s' : Ps} (h : m s = .no s') : (m >>= g) s = .no s' := by show Pm.bind m g s = _; unfold Pm.bind; rw [h]
theorem bind_ok {a : α} {s' : Ps} (h : m s = .ok a s') : (m >>= g) s = g a s' := by show Pm.bind m g s = _; unfold Pm.bind; rw [h]
theorem bind_out (h : m s = .out) : (m >>= g) s = .out := by show Pm.bind m g s = _; unfold Pm.bind; rw [h]
theorem Fr.bind {r : Rs β} (h : Fr c E 0 L s w) (M : Meth c f args m val) (hb : E.bad < 1000000) (hr : (m >>= g) s = r) (ho : r ≠ .out) (hno : ∀ s' w', r = .no s' → FrNo c E L s' w' → K failed w')
    (hok : ∀ a s' e w', val a e → Fr c E 0 L s' w' → g a s' = r → K e w') : Calls Tryz.prog f args w K :=
  h.call M hb (fun e => ho (hr.symm.trans (bind_out e))) (fun s' w' e hq => hno s' w' (hr.symm.trans (bind_no e)) hq) (fun a s' e w' hm hv hq => hok a s' e w' hv hq ((bind_ok hm).symm.trans hr))
theorem Fr.bindR {m : Pm (List Nat)} {g : List Nat → Pm β} {r : Rs β} (k : Nat) (h : Fr c E 0 L s w) (M : MethR c f args m) (hb : E.bad < 1000000) (hr : (m >>= g) s = r) (ho : r ≠ .out) (hno : ∀ s' w', r = .no s' → FrNo c E L s' w' → K failed w')
    (hok : ∀ l s' v w', l.length ≤ 1000000 → Fr c E 0 (.row k v l :: L) s' w' → g l s' = r → K (.returned v) w') : Calls Tryz.prog f args w K :=
  h.callR k M hb (fun e => ho (hr.symm.trans (bind_out e))) (fun s' w' e hq => hno s' w' (hr.symm.trans (bind_no e)) hq) (fun a s' v w' hm h0 hq => hok a s' v w' h0 hq ((bind_ok hm).symm.trans hr))
theorem Fr.tok (h : Fr c E 0 L s w) : Calls Tryz.prog 50 #[.pointer (some ⟨c.bp, 0, none⟩)] w (fun e w' => e = .returned (.agg #[.int .i64 (tokT c s).kind, .string (tokT c s).text, .int .i64 (tokT c s).n, .int .i64 (tokT c s).line, .int .i64 (tokT c s).col]) ∧ Fr c E 0 L s w') := by
  obtain ⟨nv, bv, G, ns, h'⟩ := h
  exact (ptok_any h'.pa).mono fun e w' hq => ⟨hq.1, Fr.same ⟨nv, bv, G, ns, h'⟩ hq.2⟩
theorem Fr.is (h : Fr c E 0 L s w) (kd : Int) (x : ByteArray) : Calls Tryz.prog 48 #[.pointer (some ⟨c.bp, 0, none⟩), .int .i64 kd, .string x] w (fun e w' => e = .returned (.bool (isB (tokT c s).bt kd x)) ∧ Fr c E 0 L s w') := by
  obtain ⟨nv, bv, G, ns, h'⟩ := h
  exact (pis_any h'.pa kd x).mono fun e w' hq => ⟨hq.1, Fr.same ⟨nv, bv, G, ns, h'⟩ hq.2⟩
theorem Fr.iskey (h : Fr c E 0 L s w) (x : ByteArray) : Calls Tryz.prog 140 #[.pointer (some ⟨c.bp, 0, none⟩), .string x] w (fun e w' => e = .returned (.bool (isB (tokT c s).bt 4 x)) ∧ Fr c E 0 L s w') := by
  obtain ⟨nv, bv, G, ns, h'⟩ := h
  exact (pkey_any h'.pa x).mono fun e w' hq => ⟨hq.1, Fr.same ⟨nv, bv, G, ns, h'⟩ hq.2⟩
theorem Fr.fail {T : Type} (h : Fr c E 0 L s w) (e : Int) (hb : E.bad < 1000000) : Calls Tryz.prog 88 #[.pointer (some ⟨c.bp, 0, none⟩), .int .i64 e] w (fun r w' => r = failed ∧ ∃ s', Pa.fail (α := T) e s = .no s' ∧ FrNo c E L s' w') := by
  obtain ⟨nv, bv, G, ns, h'⟩ := h
  have hr := h'.room
  refine (pfail_any h'.pa (Nat.le_trans h'.base h'.keep.size) e (by omega)).mono fun r w' hq => ⟨hq.1, _, rfl, s.deep, ?_⟩
  obtain ⟨nv2, bv2, G2, ns2, q1, q2, q3, q4⟩ := hq.2
  refine Fr.trans (M := []) h' (lo := s.deep) (bad := s.bad.length) ⟨nv2, bv2, G2, ns2, q1, q2, q3, q4, fun i hi => (h'.pa.far i hi).1, Int.le_refl _, by have := h'.cap; show s.deep ≤ _; omega, ?_, Nat.le_trans h'.base h'.keep.size, fun _ hx => (nomatch hx), fun _ hx => (nomatch hx), fun _ hx => (nomatch hx)⟩ h'.low hr
  show (s.bad ++ [(e, s.pos)]).length ≤ _
  simp
end
end Go.Proofs.YtcjoapmodaioiaaGreatDoor
end

section
namespace Go.Proofs.YtcjoapmodaioiaaGreatDoor
open Go.RowKit Go.Shelf Pa

section
variable {c : Cx} {W w2 : World} {nv bv : Value} {G : Nat → Prop} {ns : List Nv} {s : Ps}
def nextS (c : Cx) (s : Ps) : Ps := if (tokT c s).kind == 9 then s else { s with pos := s.pos + 1, opn := s.opn + opens (tokT c s).bt }
theorem next_eq (c : Cx) (s : Ps) : next (c.l.map Tok.bt) s = .ok (tokT c s).bt (nextS c s) := by
  unfold next nextS; rw [tokT_bt]
  show (if (tokT c s).kind == 9 then _ else _) = _
  split <;> rfl
theorem opens_le (t : Bt) : -1 ≤ opens t ∧ opens t ≤ 1 := by
  unfold opens; split
  · omega
  · split <;> omega
set_option maxRecDepth 100000 in
set_option maxHeartbeats 8000000 in
theorem pnext_any (hS : TokSt c.l) (h : PaAt c W nv bv G ns s) :
    Calls Tryz.prog 49 #[.pointer (some ⟨c.bp, 0, none⟩)] W (fun e w' => e = .returned (tokVP (tokT c s)) ∧ PaTo c W nv bv G (nextS c s) w') := by
  obtain ⟨t, ht⟩ : ∃ t, tokT c s = t := ⟨_, rfl⟩; obtain ⟨b2, hb2⟩ : ∃ b2, W.heap.size = b2 := ⟨_, rfl⟩; obtain ⟨W0, hW0⟩ : ∃ W0, W.alloc (.cells #[.int .i64 0, .string ⟨#[]⟩, .int .i64 0, .int .i64 0, .int .i64 0] 59) = W0 := ⟨_, rfl⟩; (have hk0 : Keeps (fun _ => False) W W0 := by rw [← hW0]; exact (Keeps.refl _ _).alloc _); (have hB2 : Blk W0 b2 59 [.int .i64 0, .string ⟨#[]⟩, .int .i64 0, .int .i64 0, .int .i64 0] := by rw [← hW0, ← hb2]; exact Blk.new W _ [_, _, _, _, _]); have h0 := h.same hk0; have HT := Lib.hid (ptok_any h0); have HO := Lib.hid (popens_any t); unfold tokVP at HT ⊢; rw [ht] at HT ⊢; obtain ⟨bp, hbp⟩ : ∃ bp, c.bp = bp := ⟨_, rfl⟩; rw [hbp] at HT ⊢; have HW0 := Lib.hid hW0; have HBn := Lib.hid hb2; have HB2 := Lib.hid hB2; have HK0 := Lib.hid hk0; have HH : Hid (PaAt c W0 nv bv G ns s) := h0; have HHW : Hid (PaAt c W nv bv G ns s) := h; have HHt := Lib.hid ht; have HHb := Lib.hid hbp; by_cases h9 : t.kind = 9
  · (have hb9 : (t.kind == 9) = true := by simpa using h9); (have hn9 : (t.kind != 9) = false := by simp [h9]); (have hs : nextS c s = s := by unfold nextS; rw [ht, hb9]; rfl); rw [hs]; clear h h0 hB2 hk0 hW0 hb2 ht hbp hs h9 hb9; go_enter Tryz.func49, Tryz.ntmps49; go_upto_region 1 with (fail); rw [HW0.out, HBn.out]; go_wp2_with fail
    with_reducible refine HT.out.mono ?_
    rintro e w1 ⟨rfl, hk1⟩; (have hb1 := HB2.out.keeps hk1 (fun h => h)); have r0 := hb1.cell (i := 0) rfl; have r1 := hb1.cell (i := 1) rfl; have r2 := hb1.cell (i := 2) rfl; have r3 := hb1.cell (i := 3) rfl; have r4 := hb1.cell (i := 4) rfl; have f0 := hb1.free 0; have f1 := hb1.free 1; have f2 := hb1.free 2; have f3 := hb1.free 3; have f4 := hb1.free 4; have hl2 := hb1.lt; have HB1 := Lib.hid hb1; have HK1 := Lib.hid hk1; clear hb1 hk1; go_wp2_with fail; (refine ret_row Tryz.results49 rfl ((((((HB1.out.set_ 0 _).set_ 1 _).set_ 2 _).set_ 3 _).set_ 4 _).alloc _) Tryz.underlying59 (by kernel_rfl) rfl ⟨rfl, ?_⟩); (have hka := HK0.out.trans HK1.out (fun _ _ h => h)); have hb := HBn.out; exact PaTo.same HHW.out (Keeps.of_below (X := fun _ => False) ((((((((hka.mono (Y := (· = b2)) (fun _ _ h => h.elim)).setCell (p := ⟨b2, 0, none⟩) (fun _ => rfl) _).setCell (p := ⟨b2, 1, none⟩) (fun _ => rfl) _).setCell (p := ⟨b2, 2, none⟩) (fun _ => rfl) _).setCell (p := ⟨b2, 3, none⟩) (fun _ => rfl) _).setCell (p := ⟨b2, 4, none⟩) (fun _ => rfl) _).alloc _).below (fun i hi => by omega) (Nat.le_refl _)))
  · (have hb9 : (t.kind == 9) = false := by simpa using h9); (have hn9 : (t.kind != 9) = true := by simp [h9]); (have hs : nextS c s = { s with pos := s.pos + 1, opn := s.opn + opens t.bt } := by unfold nextS; rw [ht, hb9]; rfl); rw [hs]; have hp := h.pos
    have hpos : s.pos + 1 < c.l.length := by
      (have e1 : t = c.l[s.pos] := by rw [← ht]; unfold tokT; rw [List.getD_eq_getElem?_getD, List.getElem?_eq_getElem hp]; rfl); have e2 := hS.last s.pos hp; rw [← e1] at e2; (have : ¬ s.pos + 1 = c.l.length := fun e => h9 (e2.2 e)); omega
    have hlen := hS.len; have hopn := h.opn; have hol := opens_le t.bt; have HPos := Lib.hid hpos; obtain ⟨n, hn⟩ : ∃ n, s.pos = n := ⟨_, rfl⟩; obtain ⟨o, ho⟩ : ∃ o, s.opn = o := ⟨_, rfl⟩; obtain ⟨od, hod⟩ : ∃ o, opens t.bt = o := ⟨_, rfl⟩; rw [hn] at hpos hopn ⊢; rw [ho] at hopn ⊢; rw [hod] at hol HO ⊢; (have hn2 : (n : Int) + 1 ≤ 200000 := by omega); (have ho1 : -200000 ≤ o := by omega); (have ho2 : o ≤ 200000 := by omega); (have hw1 : IntKind.i64.wrap ((n : Int) + 1) = (n : Int) + 1 := by rw [IntKind.wrap_i64]; omega); (have hw2 : IntKind.i64.wrap (o + od) = o + od := by rw [IntKind.wrap_i64]; omega); have HHn := Lib.hid hn; have HHo := Lib.hid ho; have HHd := Lib.hid hod; have HDp : Hid (0 ≤ s.deep ∧ s.deep ≤ 101) := h.deep; (have HOp : Hid (-((n + 1 : Nat) : Int) ≤ o + od ∧ o + od ≤ ((n + 1 : Nat) : Int)) := by show _ ∧ _; omega); clear h h0 hB2 hk0 hW0 hb2 ht hbp hs h9 hb9 hn ho hod hlen hopn hp hpos; go_enter Tryz.func49, Tryz.ntmps49; go_upto_region 1 with (fail); rw [HW0.out, HBn.out]; go_wp2_with fail
    with_reducible refine HT.out.mono ?_
    rintro e w1 ⟨rfl, hk1⟩; obtain ⟨b4, hb4⟩ : ∃ b4, w1.heap.size = b4 := ⟨_, rfl⟩; obtain ⟨w2, hw2e⟩ : ∃ w2, w1.alloc (.cells #[.int .i64 t.kind, .string t.text, .int .i64 t.n, .int .i64 t.line, .int .i64 t.col] 59) = w2 := ⟨_, rfl⟩; (have hk2 : Keeps (fun _ => False) W0 w2 := by rw [← hw2e]; exact hk1.alloc _); (have hB4 : Blk w2 b4 59 [.int .i64 t.kind, .string t.text, .int .i64 t.n, .int .i64 t.line, .int .i64 t.col] := by rw [← hw2e, ← hb4]; exact Blk.new w1 _ [_, _, _, _, _]); have hz1 := hk1.size; (have hne4 : b4 ≠ bp := by have := HH.out.box.lt; rw [HHb.out] at this; omega); (have hne2 : b2 ≠ bp := by have := HHW.out.box.lt; rw [HHb.out] at this; have := HBn.out; omega); (have hne24 : b2 ≠ b4 := by have := HB2.out.lt; omega); (have hB2w := HB2.out.keeps hk2 (fun h => h)); have hp2 := HH.out.same hk2; have hbx := hp2.box; rw [HHb.out, HHn.out, HHo.out] at hbx; have HBx := Lib.hid hbx; have HB4 := Lib.hid hB4; have HB2w := Lib.hid hB2w; have HP2 : Hid (PaAt c w2 nv bv G ns s) := hp2; have HW2 := Lib.hid hw2e; have HB4n := Lib.hid hb4; have HK2 := Lib.hid hk2; have HN4 := Lib.hid hne4; have HN2 := Lib.hid hne2; have HN24 := Lib.hid hne24; have c1 := hbx.cell (i := 1) rfl; have f1 := hbx.free 1; have l1 := hbx.lt; clear hk1 hz1 hne4 hne2 hne24 hB2w hp2 hB4 hw2e hb4 hk2 hbx; go_upto_region 3 with (fail); rw [HW2.out, HB4n.out]; go_upto_region 4 with (fail); obtain ⟨w3, hw3⟩ : ∃ w3, w2.setCell ⟨bp, 1, none⟩ (.int .i64 ((n : Int) + 1)) = w3 := ⟨_, rfl⟩; rw [hw3]; (have hk3 : Keeps (· = bp) w2 w3 := by rw [← hw3]; exact (Keeps.refl (· = bp) w2).setCell (p := ⟨bp, 1, none⟩) (fun _ => rfl) _); (have hb3 : Blk w3 bp 52 [c.lv, .int .i64 ((n : Int) + 1), .int .i64 s.deep, .int .i64 o, nv, bv] := by rw [← hw3]; exact HBx.out.set_ 1 _); have hB43 := HB4.out.keeps hk3 HN4.out; have hB23 := HB2w.out.keeps hk3 HN2.out
    have hQ : Hid (∀ X, Keeps (fun _ => False) w3 X → (X.cell? ⟨bp, 3, none⟩ = some (.int .i64 o) ∧ X.frozen? ⟨bp, 3, none⟩ = false ∧ bp < X.heap.size ∧ X.cell? ⟨b4, 0, none⟩ = some (.int .i64 t.kind) ∧ X.cell? ⟨b4, 1, none⟩ = some (.string t.text) ∧ X.cell? ⟨b4, 2, none⟩ = some (.int .i64 t.n) ∧ X.cell? ⟨b4, 3, none⟩ = some (.int .i64 t.line) ∧ X.cell? ⟨b4, 4, none⟩ = some (.int .i64 t.col))) := fun X hk => by
      (have hx := hb3.keeps hk (fun h => h)); (have hy := hB43.keeps hk (fun h => h)); exact ⟨hx.cell (i := 3) rfl, hx.free 3, hx.lt, hy.cell (i := 0) rfl, hy.cell (i := 1) rfl, hy.cell (i := 2) rfl, hy.cell (i := 3) rfl, hy.cell (i := 4) rfl⟩
    have HK3 := Lib.hid hk3; have HB3 := Lib.hid hb3; have HB43 := Lib.hid hB43; have HB23 := Lib.hid hB23; clear c1 f1 l1 hw3 hk3 hb3 hB43 hB23; refine wp_region_noPanic ?_; refine wp_region_till [9] (fun X => X.cell? ⟨bp, 3, none⟩ = some (.int .i64 o) ∧ X.frozen? ⟨bp, 3, none⟩ = false ∧ bp < X.heap.size ∧ X.cell? ⟨b4, 0, none⟩ = some (.int .i64 t.kind) ∧ X.cell? ⟨b4, 1, none⟩ = some (.string t.text) ∧ X.cell? ⟨b4, 2, none⟩ = some (.int .i64 t.n) ∧ X.cell? ⟨b4, 3, none⟩ = some (.int .i64 t.line) ∧ X.cell? ⟨b4, 4, none⟩ = some (.int .i64 t.col)) (by kernel_rfl) ?_ (fun hE => ?_)
    · first | exact hQ.out _ hk4 | exact hQ.out _ (show Keeps (fun _ => False) w3 _ from (by repeat (first | (with_reducible exact Keeps.refl _ _) | (with_reducible refine Keeps.drew ?_) | (with_reducible refine Keeps.drewN ?_ _) | (with_reducible refine Keeps.alloc ?_ _) | (with_reducible refine Keeps.trans ?_ (by assumption) (fun _ _ h => h)))))
    (have hS := hE (by kernel_rfl)); refine wpAnyT_pure (i := 0) (v := ?v4_0_1) rfl (by kernel_rfl) (fun _ _ _ h => h) (Or.inl ⟨by rfl, ?y4_0_1⟩) (fun _ => hS) ?_
    case y4_0_1 => (intro w hSw; go_simp; try with_reducible rfl)
    (try simp only [AP]); refine wpAnyT_pure (i := 1) (v := ?v4_1_2) rfl (by kernel_rfl) (fun _ _ _ h => h) (Or.inl ⟨by rfl, ?y4_1_2⟩) (fun _ => hS) ?_
    case y4_1_2 => (intro w hSw; go_simp; try with_reducible rfl)
    (try simp only [AP]); refine wpAnyT_pure (i := 2) (v := ?v4_2_3) rfl (by kernel_rfl) (fun _ _ _ h => h) (Or.inl ⟨by rfl, ?y4_2_3⟩) (fun _ => hS) ?_
    case y4_2_3 => (intro w hSw; go_simp; try with_reducible rfl)
    (try simp only [AP]); refine wpAnyT_take (i := 3) (v := ?v4_3_4) rfl (by kernel_rfl) (fun _ _ _ h => h) (Or.inl ⟨by rfl, ?y4_3_4⟩) hS ?_
    case y4_3_4 => (intro w hSw; (try dsimp only at hSw); go_simp; try with_reducible rfl)
    (try simp only [AP]); refine wpAnyT_take (i := 4) (v := ?v4_4_5) rfl (by kernel_rfl) (fun _ _ _ h => h) (Or.inl ⟨by rfl, ?y4_4_5⟩) hS ?_
    case y4_4_5 => (intro w hSw; (try dsimp only at hSw); go_simp; try with_reducible rfl)
    (try simp only [AP]); (refine wpAnyT_ready (rs := [5]) (by kernel_rfl) rfl ?_); refine AllT.cons rfl (fun K hK => ?_) ?_
    · (go_simp; go_at_call 89; refine (HO.out _).mono ?_; rintro e w4 ⟨rfl, hk4⟩; go_wp2_with fail); refine hK.out _ _ (fun _ => ?_) (fun hE => ?_)
      · first | exact hQ.out _ hk4 | exact hQ.out _ (show Keeps (fun _ => False) w3 _ from (by repeat (first | (with_reducible exact Keeps.refl _ _) | (with_reducible refine Keeps.drew ?_) | (with_reducible refine Keeps.drewN ?_ _) | (with_reducible refine Keeps.alloc ?_ _) | (with_reducible refine Keeps.trans ?_ (by assumption) (fun _ _ h => h)))))
      (have hS := hE (by kernel_rfl)); clear hK K hE; (try simp only [AP]); refine wpAnyT_pure (i := 6) (v := ?v4_6_6) rfl (by kernel_rfl) (fun _ _ _ h => h) (Or.inl ⟨by rfl, ?y4_6_6⟩) (fun _ => hS) ?_
      case y4_6_6 => (intro w hSw; go_simp; try with_reducible rfl)
      (try simp only [AP]); refine wpAnyT_pure (i := 7) (v := ?v4_7_7) rfl (by kernel_rfl) (fun _ _ _ h => h) (Or.inl ⟨by rfl, ?y4_7_7⟩) (fun _ => hS) ?_
      case y4_7_7 => (intro w hSw; go_simp; try with_reducible rfl)
      (try simp only [AP]); refine wpAnyT_pure (i := 8) (v := ?v4_8_8) rfl (by kernel_rfl) (fun _ _ _ h => h) (Or.inl ⟨by rfl, ?y4_8_8⟩) (fun _ => hS) ?_
      case y4_8_8 => (intro w hSw; go_simp; try with_reducible rfl)
      (try simp only [AP]); (refine wpAnyT_ready (rs := [9]) (by kernel_rfl) rfl ?_); refine AllT.cons rfl (fun K hK => ?_) ?_
      · go_simp; (refine hK.out _ _ (fun he => Bool.noConfusion (show false = true from he)) (fun hE => ?_)); clear hK K hE; (try simp only [AP]); (refine wpAnyT_done (by kernel_rfl) ?_ _); refine NoPanic.normal ?_; (have hk4 : Keeps (fun _ => False) w3 w4 := (show Keeps (fun _ => False) w3 w3.drew from (Keeps.refl _ _).drew).trans hk4 (fun _ _ h => h)); obtain ⟨w5, hw5⟩ : ∃ w5, w4.setCell ⟨bp, 3, none⟩ (.int .i64 (o + od)) = w5 := ⟨_, rfl⟩; rw [hw5]; (have hk5 : Keeps (· = bp) w3 w5 := by rw [← hw5]; exact (hk4.mono (Y := (· = bp)) (fun _ _ h => h.elim)).setCell (p := ⟨bp, 3, none⟩) (fun _ => rfl) _); (have hb5 : Blk w5 bp 52 [c.lv, .int .i64 ((n : Int) + 1), .int .i64 s.deep, .int .i64 (o + od), nv, bv] := by rw [← hw5]; exact (HB3.out.keeps hk4 (fun h => h)).set_ 3 _); have hB45 := HB43.out.keeps hk5 HN4.out; have hB25 := HB23.out.keeps hk5 HN2.out; have HB5 := Lib.hid hb5; have HB25 := Lib.hid hB25; have HK5 := Lib.hid hk5; have q0 := hB45.cell (i := 0) rfl; have q1 := hB45.cell (i := 1) rfl; have q2 := hB45.cell (i := 2) rfl; have q3 := hB45.cell (i := 3) rfl; have q4 := hB45.cell (i := 4) rfl; have f0 := hB25.free 0; have f1 := hB25.free 1; have f2 := hB25.free 2; have f3 := hB25.free 3; have f4 := hB25.free 4; have l2 := hB25.lt; have u0 := hB25.cell (i := 0) rfl; have u1 := hB25.cell (i := 1) rfl; have u2 := hB25.cell (i := 2) rfl; have u3 := hB25.cell (i := 3) rfl; have u4 := hB25.cell (i := 4) rfl; clear hk4 hw5 hk5 hb5 hB45 hB25 hS hE; go_wp2_with fail; (refine ret_row Tryz.results49 rfl (((((HB25.out.set_ 0 _).set_ 1 _).set_ 2 _).set_ 3 _).set_ 4 _) Tryz.underlying59 (by kernel_rfl) rfl ⟨rfl, ?_⟩); have hb := HBn.out; (have hk6 : Keeps (fun i => i = bp ∨ i = b2) w2 _ := ((((((HK3.out.mono (Y := fun i => i = bp ∨ i = b2) (fun _ _ h => .inl h)).trans HK5.out (fun _ _ h => .inl h)).setCell (p := ⟨b2, 0, none⟩) (fun _ => .inr rfl) (.int .i64 t.kind)).setCell (p := ⟨b2, 1, none⟩) (fun _ => .inr rfl) (.string t.text)).setCell (p := ⟨b2, 2, none⟩) (fun _ => .inr rfl) (.int .i64 t.n)).setCell (p := ⟨b2, 3, none⟩) (fun _ => .inr rfl) (.int .i64 t.line)).setCell (p := ⟨b2, 4, none⟩) (fun _ => .inr rfl) (.int .i64 t.col)); (have hkW : Keeps (· = bp) W _ := ((HK0.out.trans HK2.out (fun _ _ h => h)).mono (Y := (· = bp)) (fun _ _ h => h.elim)).trans hk6 (fun i hi h => h.elim id (fun e => by omega))); have hbf := (((((HB5.out.far (p := ⟨b2, 0, none⟩) (Ne.symm HN2.out) (.int .i64 t.kind)).far (p := ⟨b2, 1, none⟩) (Ne.symm HN2.out) (.string t.text)).far (p := ⟨b2, 2, none⟩) (Ne.symm HN2.out) (.int .i64 t.n)).far (p := ⟨b2, 3, none⟩) (Ne.symm HN2.out) (.int .i64 t.line)).far (p := ⟨b2, 4, none⟩) (Ne.symm HN2.out) (.int .i64 t.col)); have hcp : c.bp = bp := HHb.out; have hq := HPos.out; rw [HHn.out] at hq; exact HHW.out.turned (p' := n + 1) (d' := s.deep) (o' := o + od) (hcp ▸ hkW) (hcp ▸ hbf) hq HOp.out HDp.out
      exact AllT.nil
    exact AllT.nil
end
end Go.Proofs.YtcjoapmodaioiaaGreatDoor
end

section
namespace Go.Proofs.YtcjoapmodaioiaaGreatDoor
open Go.RowKit Go.Shelf Pa

section
variable {c : Cx}
theorem Fr.of_to {W w' : World} {nv bv : Value} {G : Nat → Prop} {ns : List Nv} {s s' : Ps} {q : Nat} (h : PaAt c W nv bv G ns s) (hB : c.B ≤ W.heap.size) (ht : PaTo c W nv bv G s' w') (hd : s.deep ≤ s'.deep) (hc : s'.deep ≤ 100 + (q : Int)) (hb : s'.bad.length ≤ s.bad.length + q) :
    Fr c ⟨W, nv, bv, G, s.deep, s.bad.length⟩ q [] s' w' := by
  obtain ⟨nv2, bv2, G2, ns2, q1, q2, q3, q4⟩ := ht; exact ⟨nv2, bv2, G2, ns2, q1, q2, q3, q4, fun i hi => (h.far i hi).1, hd, hc, hb, hB, fun _ hx => (nomatch hx), fun _ hx => (nomatch hx), fun _ hx => (nomatch hx)⟩
theorem Fr.start' {W : World} {nv bv : Value} {G : Nat → Prop} {ns : List Nv} {s : Ps} (h : PaAt c W nv bv G ns s) (hB : c.B ≤ W.heap.size) (hc : s.deep ≤ 100) : Fr c ⟨W, nv, bv, G, s.deep, s.bad.length⟩ 0 [] s W :=
  Fr.of_to h hB (PaTo.same h (Keeps.refl _ _)) (Int.le_refl _) (by show _ ≤ (100 : Int) + 0; omega) (Nat.le_refl _)
theorem tokT_wf {W : World} {nv bv : Value} {G : Nat → Prop} {ns : List Nv} {s : Ps} (h : PaAt c W nv bv G ns s) : (tokT c s).wf := by
  have hp := h.pos; have htk := h.toks; obtain ⟨A, q, hlv, _⟩ := htk.form; rw [hlv] at htk; obtain ⟨_, _, _, _, _, _, _, _, _, h1, _, h2, _⟩ := Tok.get htk hp; (have hT : tokT c s = c.l[s.pos] := by unfold tokT; rw [List.getD_eq_getElem?_getD, List.getElem?_eq_getElem hp]; rfl); rw [hT]; exact ⟨h1, h2⟩
theorem next_any (hS : TokSt c.l) : Meth c 49 #[.pointer (some ⟨c.bp, 0, none⟩)] (next (c.l.map Tok.bt)) vTok := by
  intro W nv bv G ns s h hB hb hc _; (refine (pnext_any hS h).mono fun e w' hq => ?_); rw [next_eq]; refine ⟨⟨tokT c s, hq.1, rfl, tokT_wf h⟩, Fr.of_to h hB hq.2 ?_ ?_ ?_⟩
  · unfold nextS; split <;> exact Int.le_refl _
  · (have e : (nextS c s).deep = s.deep := by unfold nextS; split <;> rfl); rw [e]; show _ ≤ (100 : Int) + 0; omega
  · unfold nextS; split <;> exact Nat.le_refl _
theorem Meth.mk {α : Type} {f : Nat} {args : Array Value} {m : Pm α} {val : α → Ending → Prop}
    (H : ∀ (E : EnP) (s : Ps) (r : Rs α) (W : World), Fr c E 0 [] s W → E.bad < 1000000 → m s = r → r ≠ .out → Calls Tryz.prog f args W (MRes c E val r)) : Meth c f args m val :=
  fun W nv bv G _ s h hB hb hc ho => H ⟨W, nv, bv, G, s.deep, s.bad.length⟩ s _ W (Fr.start' h hB hc) hb rfl ho
theorem MethR.mk {f : Nat} {args : Array Value} {m : Pm (List Nat)}
    (H : ∀ (E : EnP) (s : Ps) (r : Rs (List Nat)) (W : World), Fr c E 0 [] s W → E.bad < 1000000 → m s = r → r ≠ .out → Calls Tryz.prog f args W (RRes c E r)) : MethR c f args m :=
  fun W nv bv G _ s h hB hb hc ho => H ⟨W, nv, bv, G, s.deep, s.bad.length⟩ s _ W (Fr.start' h hB hc) hb rfl ho
theorem Fr.tail {E : EnP} {L : List Loc} {s : Ps} {w : World} {α : Type} {f : Nat} {args : Array Value} {m : Pm α} {val : α → Ending → Prop} {K : Ending → World → Prop} {r : Rs α} (h : Fr c E 0 L s w) (M : Meth c f args m val) (hb : E.bad < 1000000) (hr : m s = r) (ho : r ≠ .out)
    (hno : ∀ s' w', r = .no s' → FrNo c E L s' w' → K failed w') (hok : ∀ a s' e w', val a e → Fr c E 0 L s' w' → r = .ok a s' → K e w') : Calls Tryz.prog f args w K :=
  h.call M hb (fun e => ho (hr.symm.trans e)) (fun s' w' e hq => hno s' w' (hr.symm.trans e) hq) (fun a s' e w' hm hv hq => hok a s' e w' hv hq (hr.symm.trans hm))
theorem fldT0 (a b x d e : Value) (w : World) : (Instr.field 59 (.agg #[a, b, x, d, e]) 0).run Tryz.prog w = .ok a w := by kernel_rfl
theorem fldT1 (a b x d e : Value) (w : World) : (Instr.field 59 (.agg #[a, b, x, d, e]) 1).run Tryz.prog w = .ok b w := by kernel_rfl
theorem fldT2 (a b x d e : Value) (w : World) : (Instr.field 59 (.agg #[a, b, x, d, e]) 2).run Tryz.prog w = .ok x w := by kernel_rfl
theorem FrNo.sub {E : EnP} {L L' : List Loc} {s : Ps} {w : World} (h : FrNo c E L s w) (hL : ∀ x ∈ L', x ∈ L) : FrNo c E L' s w := by
  obtain ⟨d, h⟩ := h; exact ⟨d, h.sub hL⟩
/-! The plain functions, step by step. -/
section
variable {α β γ : Type} {L : List Bt} {m : Pm α} {g : α → Pm β} {s : Ps}
theorem m_tok (g : Bt → Pm β) : (tok L >>= g) s = g (tokAt L s.pos) s := rfl
theorem m_is (k : Int) (x : ByteArray) (g : Bool → Pm β) : (is L k x >>= g) s = g (isB (tokAt L s.pos) k x) s := rfl
theorem m_assoc (h : β → Pm γ) : ((m >>= g) >>= h) s = (m >>= fun a => g a >>= h) s := by
  show Pm.bind (Pm.bind m g) h s = Pm.bind m (fun a => Pm.bind (g a) h) s
  unfold Pm.bind; cases m s <;> rfl
end
set_option maxRecDepth 100000 in
set_option maxHeartbeats 8000000 in
theorem kind_any (hS : TokSt c.l) (cc : Int) : Meth c 47 #[.pointer (some ⟨c.bp, 0, none⟩), .int .i64 cc] (kind (c.l.map Tok.bt) cc) vTok := by
  (refine Meth.mk fun E s r W hF hb hr ho => ?_); have HN := Lib.hid (next_any hS); unfold kind at hr; rw [m_tok, tokT_bt] at hr; obtain ⟨t, ht⟩ : ∃ t, tokT c s = t := ⟨_, rfl⟩; rw [ht] at hr; have HB := Lib.hid hb; have HO := Lib.hid ho; have HT := Lib.hid ht; obtain ⟨b2, hb2⟩ : ∃ b2, W.heap.size = b2 := ⟨_, rfl⟩; obtain ⟨W0, hW0⟩ : ∃ W0, W.alloc (.cells #[.int .i64 0, .string ⟨#[]⟩, .int .i64 0, .int .i64 0, .int .i64 0] 59) = W0 := ⟨_, rfl⟩; have hF0 := hF.box 4 59 [.int .i64 0, .string ⟨#[]⟩, .int .i64 0, .int .i64 0, .int .i64 0]; rw [hb2, show W.alloc (.cells ([.int .i64 0, .string ⟨#[]⟩, .int .i64 0, .int .i64 0, .int .i64 0] : List Value).toArray 59) = W0 from hW0] at hF0; have HF0 := Lib.hid hF0; have HW0 := Lib.hid hW0; have HBn := Lib.hid hb2; have HTk := Lib.hid hF0.tok; by_cases hk : t.kind = cc
  · have hk1 : (t.kind != cc) = false := by simp [hk]
    have hr2 : next (c.l.map Tok.bt) s = r := by
      rw [← hr]; show _ = (if (t.kind != cc) = true then _ else _ : Pm Bt) s; rw [hk1]; rfl
    have HR := Lib.hid hr2; clear hF hF0 hr hr2 hb ho ht hb2 hW0 hk; have fld0 := fldT0; go_enter Tryz.func47, Tryz.ntmps47; go_upto_region 1 with (fail); rw [HW0.out, HBn.out]; go_wp2_with fail
    with_reducible refine HTk.out.mono ?_
    rintro e w1 ⟨rfl, hF1⟩; rw [HT.out]; have HF1 := Lib.hid hF1; clear hF1; go_wp2_with fail
    with_reducible refine HF1.out.tail HN.out HB.out HR.out HO.out ?_ ?_
    · intro s2 w2 hr2 hq; have hq := Lib.hid hq; subst hr2; go_wp2_with fail; exact ⟨rfl, rfl, hq.out.sub (by simp)⟩
    · intro a s2 e w2 hv hF2 hr2; obtain ⟨t2, rfl, hv1, hv2⟩ := hv; have q0 := hF2.b0.free 0; have q1 := hF2.b0.free 1; have q2 := hF2.b0.free 2; have q3 := hF2.b0.free 3; have q4 := hF2.b0.free 4; have ql := hF2.b0.lt; have p0 := hF2.b0.cell (i := 0) rfl; have p1 := hF2.b0.cell (i := 1) rfl; have p2 := hF2.b0.cell (i := 2) rfl; have p3 := hF2.b0.cell (i := 3) rfl; have p4 := hF2.b0.cell (i := 4) rfl; have HF2 := Lib.hid hF2; clear hF2; subst hr2; go_wp2_with fail; (refine ret_row Tryz.results47 rfl (((((HF2.out.b0.set_ 0 _).set_ 1 _).set_ 2 _).set_ 3 _).set_ 4 _) Tryz.underlying59 (by kernel_rfl) rfl ?_); exact ⟨⟨t2, rfl, hv1, hv2⟩, (((((HF2.out.wr 0 _).wr 1 _).wr 2 _).wr 3 _).wr 4 _).sub (by simp)⟩
  · have hk1 : (t.kind != cc) = true := by simp [hk]
    have hr2 : (Pa.fail 5 : Pm Bt) s = r := by
      rw [← hr]; show _ = (if (t.kind != cc) = true then _ else _ : Pm Bt) s; rw [hk1]; rfl
    have HR := Lib.hid hr2; clear hF hF0 hr hr2 hb ho ht hb2 hW0 hk; have fld0 := fldT0; go_enter Tryz.func47, Tryz.ntmps47; go_upto_region 1 with (fail); rw [HW0.out, HBn.out]; go_wp2_with fail
    with_reducible refine HTk.out.mono ?_
    rintro e w1 ⟨rfl, hF1⟩; rw [HT.out]; have HF1 := Lib.hid hF1; clear hF1; go_wp2_with fail
    with_reducible refine (HF1.out.fail (T := Bt) 5 HB.out).mono ?_
    rintro e w2 ⟨rfl, s2, h1, hq⟩; have hr2 := HR.out.symm.trans h1; have hq := Lib.hid hq; subst hr2; go_wp2_with fail; exact ⟨rfl, rfl, hq.out.sub (by simp)⟩
set_option maxRecDepth 100000 in
set_option maxHeartbeats 8000000 in
theorem want_any (hS : TokSt c.l) (kd : Int) (x : ByteArray) : Meth c 46 #[.pointer (some ⟨c.bp, 0, none⟩), .int .i64 kd, .string x] (want (c.l.map Tok.bt) kd x) vTok := by
  (refine Meth.mk fun E s r W hF hb hr ho => ?_); have HN := Lib.hid (next_any hS); unfold want at hr; rw [m_is, tokT_bt] at hr; have HB := Lib.hid hb; have HO := Lib.hid ho; obtain ⟨b2, hb2⟩ : ∃ b2, W.heap.size = b2 := ⟨_, rfl⟩; obtain ⟨W0, hW0⟩ : ∃ W0, W.alloc (.cells #[.int .i64 0, .string ⟨#[]⟩, .int .i64 0, .int .i64 0, .int .i64 0] 59) = W0 := ⟨_, rfl⟩; have hF0 := hF.box 4 59 [.int .i64 0, .string ⟨#[]⟩, .int .i64 0, .int .i64 0, .int .i64 0]; rw [hb2, show W.alloc (.cells ([.int .i64 0, .string ⟨#[]⟩, .int .i64 0, .int .i64 0, .int .i64 0] : List Value).toArray 59) = W0 from hW0] at hF0; have HF0 := Lib.hid hF0; have HW0 := Lib.hid hW0; have HBn := Lib.hid hb2; have HI := Lib.hid (hF0.is kd x); obtain ⟨q, hq⟩ : ∃ q, isB (tokT c s).bt kd x = q := ⟨_, rfl⟩; rw [hq] at HI hr; cases q
  · (have hr2 : (Pa.fail 5 : Pm Bt) s = r := by rw [← hr]; rfl); have HR := Lib.hid hr2; clear hF hF0 hr hr2 hb ho hb2 hW0 hq; go_enter Tryz.func46, Tryz.ntmps46; go_upto_region 1 with (fail); rw [HW0.out, HBn.out]; go_wp2_with fail
    with_reducible refine HI.out.mono ?_
    rintro e w1 ⟨rfl, hF1⟩; have HF1 := Lib.hid hF1; clear hF1; go_wp2_with fail
    with_reducible refine (HF1.out.fail (T := Bt) 5 HB.out).mono ?_
    rintro e w2 ⟨rfl, s2, h1, hq⟩; have hr2 := HR.out.symm.trans h1; have hq := Lib.hid hq; subst hr2; go_wp2_with fail; exact ⟨rfl, rfl, hq.out.sub (by simp)⟩
  · (have hr2 : next (c.l.map Tok.bt) s = r := by rw [← hr]; rfl); have HR := Lib.hid hr2; clear hF hF0 hr hr2 hb ho hb2 hW0 hq; go_enter Tryz.func46, Tryz.ntmps46; go_upto_region 1 with (fail); rw [HW0.out, HBn.out]; go_wp2_with fail
    with_reducible refine HI.out.mono ?_
    rintro e w1 ⟨rfl, hF1⟩; have HF1 := Lib.hid hF1; clear hF1; go_wp2_with fail
    with_reducible refine HF1.out.tail HN.out HB.out HR.out HO.out ?_ ?_
    · intro s2 w2 hr2 hq; have hq := Lib.hid hq; subst hr2; go_wp2_with fail; exact ⟨rfl, rfl, hq.out.sub (by simp)⟩
    · intro a s2 e w2 hv hF2 hr2; obtain ⟨t2, rfl, hv1, hv2⟩ := hv; have p0 := hF2.b0.cell (i := 0) rfl; have q0 := hF2.b0.free 0; have p1 := hF2.b0.cell (i := 1) rfl; have q1 := hF2.b0.free 1; have p2 := hF2.b0.cell (i := 2) rfl; have q2 := hF2.b0.free 2; have p3 := hF2.b0.cell (i := 3) rfl; have q3 := hF2.b0.free 3; have p4 := hF2.b0.cell (i := 4) rfl; have q4 := hF2.b0.free 4; have ql := hF2.b0.lt; have HF2 := Lib.hid hF2; clear hF2; subst hr2; go_wp2_with fail; (refine ret_row Tryz.results46 rfl (((((HF2.out.b0.set_ 0 _).set_ 1 _).set_ 2 _).set_ 3 _).set_ 4 _) Tryz.underlying59 (by kernel_rfl) rfl ?_); exact ⟨⟨t2, rfl, hv1, hv2⟩, (((((HF2.out.wr 0 _).wr 1 _).wr 2 _).wr 3 _).wr 4 _).sub (by simp)⟩
set_option maxRecDepth 100000 in
set_option maxHeartbeats 8000000 in
theorem down_any : Meth c 157 #[.pointer (some ⟨c.bp, 0, none⟩)] down vUnit := by
  intro W nv bv G ns s h hB hb hc ho; have hr : down s = (if 100 < s.deep + 1 then Pa.fail 2 { s with deep := s.deep + 1 } else .ok () { s with deep := s.deep + 1 }) := rfl; rw [hr]; have h2 := h.deep; obtain ⟨d, hdd⟩ : ∃ d, s.deep = d := ⟨_, rfl⟩; obtain ⟨w1, hw1⟩ : ∃ w1, W.setCell ⟨c.bp, 2, none⟩ (.int .i64 (d + 1)) = w1 := ⟨_, rfl⟩; rw [hdd] at h2 ⊢; have c2 := h.box.cell (i := 2) rfl; rw [hdd] at c2; have f2 := h.box.free 2; have hl := h.box.lt; (have hw : IntKind.i64.wrap (d + 1) = d + 1 := by rw [IntKind.wrap_i64]; omega); rw [hdd] at hc
  have hT : PaAt c w1 nv bv G ns { s with deep := d + 1 } := by
    rw [← hw1]; exact h.turn (((Keeps.refl (· = c.bp) W).setCell (p := ⟨c.bp, 2, none⟩) (fun _ => rfl) _)) (h.box.set_ 2 _) h.pos h.opn ⟨by omega, by omega⟩
  (have hK : Keeps (· = c.bp) W w1 := by rw [← hw1]; exact (Keeps.refl (· = c.bp) W).setCell (p := ⟨c.bp, 2, none⟩) (fun _ => rfl) _); have hTo : PaTo c W nv bv G { s with deep := d + 1 } w1 := ⟨nv, bv, G, ns, hT, hK.mono (fun _ _ e => .inl e), fun _ h => h, fun _ hi => .inl hi⟩
  have hF : ∀ q : Nat, d + 1 ≤ 100 + (q : Int) → Fr c ⟨W, nv, bv, G, d, s.bad.length⟩ q [] { s with deep := d + 1 } w1 := fun q hq => by
    (have := Fr.of_to (q := q) h hB hTo (by show s.deep ≤ d + 1; omega) hq (by simp)); rwa [hdd] at this
  have d2 := hT.box.cell (i := 2) rfl; have HF := Lib.hid hF; have hTd := hT; have HBW : Hid (c.B ≤ w1.heap.size) := Nat.le_trans hB hK.size; have HW1 := Lib.hid hw1; have HB : Hid (s.bad.length < 1000000) := hb; have hlt2 : c.bp < w1.heap.size := hT.box.lt; have HTd : Hid (PaAt c w1 nv bv G ns { s with deep := d + 1 }) := hTd; by_cases h100 : 100 < d + 1
  · rw [if_pos h100]; have hg : decide (d + 1 > 100) = true := by simpa using h100
    have HFe : Hid (∀ w2, PaTo c w1 nv bv G { pos := s.pos, deep := d + 1, opn := s.opn, nodes := s.nodes, bad := s.bad ++ [(2, s.pos)] } w2 → FrNo c ⟨W, nv, bv, G, d, s.bad.length⟩ [] { pos := s.pos, deep := d + 1, opn := s.opn, nodes := s.nodes, bad := s.bad ++ [(2, s.pos)] } w2) := fun w2 hq => by
      refine ⟨d + 1, ?_⟩; (have := Fr.of_to (q := 1) h hB (PaTo.trans (fun _ h => h) (hK.mono (fun _ _ e => .inl e)) (fun i hi => .inl hi) (fun i hi => (hT.old i hi).2) hq) (by show s.deep ≤ d + 1; omega) (by show d + 1 ≤ (100 : Int) + 1; omega) (by simp)); rwa [hdd] at this
    have HFl := Lib.hid (pfail_any (e := 2) hTd HBW.out HB.out); clear h hr hb ho hdd hw1 hT hK hTo hF hTd hc; go_enter Tryz.func157, Tryz.ntmps157; go_upto_region 1 with (fail); rw [HW1.out]; go_wp2_with fail
    with_reducible refine HFl.out.mono ?_
    rintro e w2 ⟨rfl, hq⟩; have hq := Lib.hid (HFe.out _ hq); go_wp2_with fail; exact ⟨rfl, rfl, hq.out⟩
  · rw [if_neg h100]; (have hg : decide (d + 1 > 100) = false := by simpa using h100); (have HF0 := Lib.hid (hF 0 (by show d + 1 ≤ (100 : Int) + 0; omega))); clear h hr hb ho hdd hw1 hT hK hTo hF hTd hc; go_enter Tryz.func157, Tryz.ntmps157; go_upto_region 1 with (fail); rw [HW1.out]; go_wp2_with fail; go_end0; exact ⟨rfl, HF0.out⟩
end
end Go.Proofs.YtcjoapmodaioiaaGreatDoor
end
