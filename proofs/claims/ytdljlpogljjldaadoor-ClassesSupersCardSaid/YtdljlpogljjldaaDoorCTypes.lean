/- Classes, instances and requirements, in memory. No conditions. -/
import Derived.Test.YtdljlpogljjldaaDoorTy
namespace Go.Proofs.YtdljlpogljjldaaDoor
open Go.RowKit Go.ChangeShapes Go.WideShapes

structure Pred where
  cls : ByteArray
  ty : Ty
def Pred.d (x : Pred) : D := .agg [.str x.cls, tyD x.ty]
theorem Pred.rp {w : World} {F : Nat → Prop} {x : Pred} {cs : List Value} : Rp w F x.d cs ↔ ∃ (v1 : Value), cs = [.string x.cls, .int .i64 x.ty.kind, .string x.ty.name, .int .i64 x.ty.var, v1] ∧ x.cls.size ≤ maxLen ∧ TyC w F x.ty v1
    := by
  unfold Pred.d; rw [rp_agg]; simp only [rpAll_cons, rpAll_nil, rp_str]
  constructor
  · rintro ⟨_, _, rfl, ⟨rfl, h0⟩, a1, _, rfl, g1, rfl⟩
    obtain ⟨v1, rfl, h1⟩ := tyD.rp.1 g1
    exact ⟨v1, by simp [Ty.cells], h0, h1⟩
  · rintro ⟨v1, rfl, h0, h1⟩
    exact ⟨[_], _, rfl, ⟨rfl, h0⟩, _, _, rfl, tyD.rp.2 ⟨_, rfl, h1⟩, rfl⟩
theorem Pred.wide : Wide Pred.d 5 := fun w F x cs h => by
  rw [Pred.rp] at h
  obtain ⟨v1, rfl, h0, h1⟩ := h
  rfl
theorem Pred.get {w : World} {F : Nat → Prop} {l : List Pred} {A : Option Addr} {n c : Nat} (h : Sl w F Pred.d l (.slice A n c)) {i : Nat} (hi : i < l.length) :
    ∃ (g off : Nat) (v1 : Value), A = some ⟨g, off, none⟩ ∧ F g ∧ w.cell? ⟨g, off + i * 5, none⟩ = some (.string l[i].cls) ∧ w.cell? ⟨g, off + i * 5 + 1, none⟩ = some (.int .i64 l[i].ty.kind) ∧ w.cell? ⟨g, off + i * 5 + 2, none⟩ = some (.string l[i].ty.name) ∧ w.cell? ⟨g, off + i * 5 + 3, none⟩ = some (.int .i64 l[i].ty.var) ∧ w.cell? ⟨g, off + i * 5 + 4, none⟩ = some (v1) ∧ l[i].cls.size ≤ maxLen ∧ TyC w F l[i].ty v1 := by
  obtain ⟨g, off, cs, hA, hg, hr, _, hc⟩ := Sl.get h Pred.wide hi
  rw [Pred.rp] at hr
  obtain ⟨v1, rfl, h0, h1⟩ := hr
  exact ⟨g, off, v1, hA, hg, hc 0 _ rfl, hc 1 _ rfl, hc 2 _ rfl, hc 3 _ rfl, hc 4 _ rfl, h0, h1⟩
theorem Pred.of_trod {H : Type} {enc : TypeId × Value → H} {w : World} {base : Nat} {sp : Nat → Bool} {held : Bool} {n : Nat} {cs : List Value} {y : DataW H × List MemPlace} (h : DataW.trod enc Tryd.prog w base sp held n 35 cs = some y) : ∃ x : Pred, Rp w (· < w.heap.size) x.d cs := by
  obtain ⟨xs, n, rfl, rfl, hlen, hxl, hf⟩ := DataW.trod_struct Tryd.underlying35 h
  have hc : Tryd.prog.cellsOf 35 = 5 := by kernel_rfl
  rw [hc] at hlen
  obtain ⟨c0, ct0, rfl, lc0⟩ := uncons hlen
  obtain ⟨c1, ct1, rfl, lc1⟩ := uncons lc0
  obtain ⟨c2, ct2, rfl, lc2⟩ := uncons lc1
  obtain ⟨c3, ct3, rfl, lc3⟩ := uncons lc2
  obtain ⟨c4, ct4, rfl, lc4⟩ := uncons lc3
  obtain rfl := List.eq_nil_of_length_eq_zero lc4
  obtain ⟨y0, yt0, rfl, ly0⟩ := uncons hxl
  obtain ⟨y1, yt1, rfl, ly1⟩ := uncons ly0
  obtain rfl := List.eq_nil_of_length_eq_zero ly1
  have e0 : DataW.trod enc Tryd.prog w base sp held n 9 [c0] = some y0 := by have := hf 0 _ rfl; simpa [show Tryd.prog.cellsOf 9 = 1 from by kernel_rfl] using this
  obtain ⟨z0, q0, _, u0⟩ := DataW.trod_string Tryd.underlying9 e0
  have e1 : DataW.trod enc Tryd.prog w base sp held n 24 [c1, c2, c3, c4] = some y1 := by have := hf 1 _ rfl; simpa [show Tryd.prog.cellsOf 24 = 4 from by kernel_rfl] using this
  obtain ⟨z1, u1⟩ := tyD.of_trod _ e1
  obtain ⟨w1, q1, u1⟩ := tyD.rp.1 u1
  simp only [Ty.cells, List.cons.injEq, and_true] at q1; obtain ⟨rfl, rfl, rfl, rfl⟩ := q1
  simp only [List.cons.injEq, and_true] at q0; subst q0
  exact ⟨⟨z0, z1⟩, Pred.rp.2 ⟨_, rfl, u0, u1⟩⟩

structure Scheme where
  vars : Int
  preds : List Pred
  ty : Ty
def Scheme.d (x : Scheme) : D := .agg [.int .i64 x.vars, .sl (x.preds.map Pred.d), tyD x.ty]
theorem Scheme.rp {w : World} {F : Nat → Prop} {x : Scheme} {cs : List Value} : Rp w F x.d cs ↔ ∃ (v1 : Value) (v2 : Value), cs = [.int .i64 x.vars, v1, .int .i64 x.ty.kind, .string x.ty.name, .int .i64 x.ty.var, v2] ∧ (Lit.int .i64 x.vars).wf = true ∧ Sl w F Pred.d x.preds v1 ∧ TyC w F x.ty v2
    := by
  unfold Scheme.d; rw [rp_agg]; simp only [rpAll_cons, rpAll_nil, rp_int]
  constructor
  · rintro ⟨_, _, rfl, ⟨rfl, h0⟩, a1, _, rfl, h1, a2, _, rfl, g2, rfl⟩
    obtain ⟨v1, rfl⟩ := rp_sl_one h1
    obtain ⟨v2, rfl, h2⟩ := tyD.rp.1 g2
    exact ⟨v1, v2, by simp [Ty.cells], h0, h1, h2⟩
  · rintro ⟨v1, v2, rfl, h0, h1, h2⟩
    exact ⟨[_], _, rfl, ⟨rfl, h0⟩, [_], _, rfl, h1, _, _, rfl, tyD.rp.2 ⟨_, rfl, h2⟩, rfl⟩
theorem Scheme.wide : Wide Scheme.d 6 := fun w F x cs h => by
  rw [Scheme.rp] at h
  obtain ⟨v1, v2, rfl, h0, h1, h2⟩ := h
  rfl
theorem Scheme.get {w : World} {F : Nat → Prop} {l : List Scheme} {A : Option Addr} {n c : Nat} (h : Sl w F Scheme.d l (.slice A n c)) {i : Nat} (hi : i < l.length) :
    ∃ (g off : Nat) (v1 : Value) (v2 : Value), A = some ⟨g, off, none⟩ ∧ F g ∧ w.cell? ⟨g, off + i * 6, none⟩ = some (.int .i64 l[i].vars) ∧ w.cell? ⟨g, off + i * 6 + 1, none⟩ = some (v1) ∧ w.cell? ⟨g, off + i * 6 + 2, none⟩ = some (.int .i64 l[i].ty.kind) ∧ w.cell? ⟨g, off + i * 6 + 3, none⟩ = some (.string l[i].ty.name) ∧ w.cell? ⟨g, off + i * 6 + 4, none⟩ = some (.int .i64 l[i].ty.var) ∧ w.cell? ⟨g, off + i * 6 + 5, none⟩ = some (v2) ∧ (Lit.int .i64 l[i].vars).wf = true ∧ Sl w F Pred.d l[i].preds v1 ∧ TyC w F l[i].ty v2 := by
  obtain ⟨g, off, cs, hA, hg, hr, _, hc⟩ := Sl.get h Scheme.wide hi
  rw [Scheme.rp] at hr
  obtain ⟨v1, v2, rfl, h0, h1, h2⟩ := hr
  exact ⟨g, off, v1, v2, hA, hg, hc 0 _ rfl, hc 1 _ rfl, hc 2 _ rfl, hc 3 _ rfl, hc 4 _ rfl, hc 5 _ rfl, h0, h1, h2⟩
theorem Scheme.of_trod {H : Type} {enc : TypeId × Value → H} {w : World} {base : Nat} {sp : Nat → Bool} {held : Bool} {n : Nat} {cs : List Value} {y : DataW H × List MemPlace} (h : DataW.trod enc Tryd.prog w base sp held n 145 cs = some y) : ∃ x : Scheme, Rp w (· < w.heap.size) x.d cs := by
  obtain ⟨xs, n, rfl, rfl, hlen, hxl, hf⟩ := DataW.trod_struct Tryd.underlying145 h
  have hc : Tryd.prog.cellsOf 145 = 6 := by kernel_rfl
  rw [hc] at hlen
  obtain ⟨c0, ct0, rfl, lc0⟩ := uncons hlen
  obtain ⟨c1, ct1, rfl, lc1⟩ := uncons lc0
  obtain ⟨c2, ct2, rfl, lc2⟩ := uncons lc1
  obtain ⟨c3, ct3, rfl, lc3⟩ := uncons lc2
  obtain ⟨c4, ct4, rfl, lc4⟩ := uncons lc3
  obtain ⟨c5, ct5, rfl, lc5⟩ := uncons lc4
  obtain rfl := List.eq_nil_of_length_eq_zero lc5
  obtain ⟨y0, yt0, rfl, ly0⟩ := uncons hxl
  obtain ⟨y1, yt1, rfl, ly1⟩ := uncons ly0
  obtain ⟨y2, yt2, rfl, ly2⟩ := uncons ly1
  obtain rfl := List.eq_nil_of_length_eq_zero ly2
  have e0 : DataW.trod enc Tryd.prog w base sp held n 3 [c0] = some y0 := by have := hf 0 _ rfl; simpa [show Tryd.prog.cellsOf 3 = 1 from by kernel_rfl] using this
  obtain ⟨z0, q0, _, u0⟩ := DataW.trod_int Tryd.underlying3 e0
  have e1 : DataW.trod enc Tryd.prog w base sp held n 36 [c1] = some y1 := by have := hf 1 _ rfl; simpa [show Tryd.prog.cellsOf 36 = 1 from by kernel_rfl] using this
  obtain ⟨z1, u1⟩ := sl_of_trod (f := Pred.d) (k := 5) Tryd.underlying36 (by kernel_rfl) (by decide) (fun _ _ _ h => Pred.of_trod h) e1
  have e2 : DataW.trod enc Tryd.prog w base sp held n 24 [c2, c3, c4, c5] = some y2 := by have := hf 2 _ rfl; simpa [show Tryd.prog.cellsOf 24 = 4 from by kernel_rfl] using this
  obtain ⟨z2, u2⟩ := tyD.of_trod _ e2
  obtain ⟨w2, q2, u2⟩ := tyD.rp.1 u2
  simp only [Ty.cells, List.cons.injEq, and_true] at q2; obtain ⟨rfl, rfl, rfl, rfl⟩ := q2
  simp only [List.cons.injEq, and_true] at q0; subst q0
  exact ⟨⟨z0, z1, z2⟩, Scheme.rp.2 ⟨_, _, rfl, u0, u1, u2⟩⟩

structure ValSig where
  name : ByteArray
  scheme : Scheme
def ValSig.d (x : ValSig) : D := .agg [.str x.name, x.scheme.d]
theorem ValSig.rp {w : World} {F : Nat → Prop} {x : ValSig} {cs : List Value} : Rp w F x.d cs ↔ ∃ (c1 : List Value), cs = [.string x.name] ++ (c1) ∧ x.name.size ≤ maxLen ∧ Rp w F x.scheme.d c1
    := by
  unfold ValSig.d; rw [rp_agg]; simp only [rpAll_cons, rpAll_nil, rp_str]
  constructor
  · rintro ⟨_, _, rfl, ⟨rfl, h0⟩, a1, _, rfl, h1, rfl⟩
    exact ⟨a1, by simp, h0, h1⟩
  · rintro ⟨c1, rfl, h0, h1⟩
    exact ⟨[_], _, rfl, ⟨rfl, h0⟩, _, [], (by simp), h1, rfl⟩
theorem ValSig.wide : Wide ValSig.d 7 := fun w F x cs h => by
  rw [ValSig.rp] at h
  obtain ⟨c1, rfl, h0, h1⟩ := h
  simp [Scheme.wide _ _ _ _ h1]
theorem ValSig.of_trod {H : Type} {enc : TypeId × Value → H} {w : World} {base : Nat} {sp : Nat → Bool} {held : Bool} {n : Nat} {cs : List Value} {y : DataW H × List MemPlace} (h : DataW.trod enc Tryd.prog w base sp held n 147 cs = some y) : ∃ x : ValSig, Rp w (· < w.heap.size) x.d cs := by
  obtain ⟨xs, n, rfl, rfl, hlen, hxl, hf⟩ := DataW.trod_struct Tryd.underlying147 h
  have hc : Tryd.prog.cellsOf 147 = 7 := by kernel_rfl
  rw [hc] at hlen
  obtain ⟨c0, ct0, rfl, lc0⟩ := uncons hlen
  obtain ⟨c1, ct1, rfl, lc1⟩ := uncons lc0
  obtain ⟨c2, ct2, rfl, lc2⟩ := uncons lc1
  obtain ⟨c3, ct3, rfl, lc3⟩ := uncons lc2
  obtain ⟨c4, ct4, rfl, lc4⟩ := uncons lc3
  obtain ⟨c5, ct5, rfl, lc5⟩ := uncons lc4
  obtain ⟨c6, ct6, rfl, lc6⟩ := uncons lc5
  obtain rfl := List.eq_nil_of_length_eq_zero lc6
  obtain ⟨y0, yt0, rfl, ly0⟩ := uncons hxl
  obtain ⟨y1, yt1, rfl, ly1⟩ := uncons ly0
  obtain rfl := List.eq_nil_of_length_eq_zero ly1
  have e0 : DataW.trod enc Tryd.prog w base sp held n 9 [c0] = some y0 := by have := hf 0 _ rfl; simpa [show Tryd.prog.cellsOf 9 = 1 from by kernel_rfl] using this
  obtain ⟨z0, q0, _, u0⟩ := DataW.trod_string Tryd.underlying9 e0
  have e1 : DataW.trod enc Tryd.prog w base sp held n 145 [c1, c2, c3, c4, c5, c6] = some y1 := by have := hf 1 _ rfl; simpa [show Tryd.prog.cellsOf 145 = 6 from by kernel_rfl] using this
  obtain ⟨z1, u1⟩ := Scheme.of_trod e1
  simp only [List.cons.injEq, and_true] at q0; subst q0
  exact ⟨⟨z0, z1⟩, ValSig.rp.2 ⟨_, rfl, u0, u1⟩⟩

structure ClassSig where
  name : ByteArray
  super : List ByteArray
  ops : List ValSig
def ClassSig.d (x : ClassSig) : D := .agg [.str x.name, .sl (x.super.map dStr), .sl (x.ops.map ValSig.d)]
theorem ClassSig.rp {w : World} {F : Nat → Prop} {x : ClassSig} {cs : List Value} : Rp w F x.d cs ↔ ∃ (v1 : Value) (v2 : Value), cs = [.string x.name, v1, v2] ∧ x.name.size ≤ maxLen ∧ Sl w F dStr x.super v1 ∧ Sl w F ValSig.d x.ops v2
    := by
  unfold ClassSig.d; rw [rp_agg]; simp only [rpAll_cons, rpAll_nil, rp_str]
  constructor
  · rintro ⟨_, _, rfl, ⟨rfl, h0⟩, a1, _, rfl, h1, a2, _, rfl, h2, rfl⟩
    obtain ⟨v1, rfl⟩ := rp_sl_one h1
    obtain ⟨v2, rfl⟩ := rp_sl_one h2
    exact ⟨v1, v2, by simp, h0, h1, h2⟩
  · rintro ⟨v1, v2, rfl, h0, h1, h2⟩
    exact ⟨[_], _, rfl, ⟨rfl, h0⟩, [_], _, rfl, h1, [_], _, rfl, h2, rfl⟩
theorem ClassSig.wide : Wide ClassSig.d 3 := fun w F x cs h => by
  rw [ClassSig.rp] at h
  obtain ⟨v1, v2, rfl, h0, h1, h2⟩ := h
  rfl
theorem ClassSig.get {w : World} {F : Nat → Prop} {l : List ClassSig} {A : Option Addr} {n c : Nat} (h : Sl w F ClassSig.d l (.slice A n c)) {i : Nat} (hi : i < l.length) :
    ∃ (g off : Nat) (v1 : Value) (v2 : Value), A = some ⟨g, off, none⟩ ∧ F g ∧ w.cell? ⟨g, off + i * 3, none⟩ = some (.string l[i].name) ∧ w.cell? ⟨g, off + i * 3 + 1, none⟩ = some (v1) ∧ w.cell? ⟨g, off + i * 3 + 2, none⟩ = some (v2) ∧ l[i].name.size ≤ maxLen ∧ Sl w F dStr l[i].super v1 ∧ Sl w F ValSig.d l[i].ops v2 := by
  obtain ⟨g, off, cs, hA, hg, hr, _, hc⟩ := Sl.get h ClassSig.wide hi
  rw [ClassSig.rp] at hr
  obtain ⟨v1, v2, rfl, h0, h1, h2⟩ := hr
  exact ⟨g, off, v1, v2, hA, hg, hc 0 _ rfl, hc 1 _ rfl, hc 2 _ rfl, h0, h1, h2⟩
theorem ClassSig.of_trod {H : Type} {enc : TypeId × Value → H} {w : World} {base : Nat} {sp : Nat → Bool} {held : Bool} {n : Nat} {cs : List Value} {y : DataW H × List MemPlace} (h : DataW.trod enc Tryd.prog w base sp held n 42 cs = some y) : ∃ x : ClassSig, Rp w (· < w.heap.size) x.d cs := by
  obtain ⟨xs, n, rfl, rfl, hlen, hxl, hf⟩ := DataW.trod_struct Tryd.underlying42 h
  have hc : Tryd.prog.cellsOf 42 = 3 := by kernel_rfl
  rw [hc] at hlen
  obtain ⟨c0, ct0, rfl, lc0⟩ := uncons hlen
  obtain ⟨c1, ct1, rfl, lc1⟩ := uncons lc0
  obtain ⟨c2, ct2, rfl, lc2⟩ := uncons lc1
  obtain rfl := List.eq_nil_of_length_eq_zero lc2
  obtain ⟨y0, yt0, rfl, ly0⟩ := uncons hxl
  obtain ⟨y1, yt1, rfl, ly1⟩ := uncons ly0
  obtain ⟨y2, yt2, rfl, ly2⟩ := uncons ly1
  obtain rfl := List.eq_nil_of_length_eq_zero ly2
  have e0 : DataW.trod enc Tryd.prog w base sp held n 9 [c0] = some y0 := by have := hf 0 _ rfl; simpa [show Tryd.prog.cellsOf 9 = 1 from by kernel_rfl] using this
  obtain ⟨z0, q0, _, u0⟩ := DataW.trod_string Tryd.underlying9 e0
  have e1 : DataW.trod enc Tryd.prog w base sp held n 39 [c1] = some y1 := by have := hf 1 _ rfl; simpa [show Tryd.prog.cellsOf 39 = 1 from by kernel_rfl] using this
  obtain ⟨z1, u1⟩ := sl_of_trod (f := dStr) (k := 1) Tryd.underlying39 (by kernel_rfl) (by decide) (fun _ _ _ h => dStr.of_trod Tryd.underlying9 h) e1
  have e2 : DataW.trod enc Tryd.prog w base sp held n 40 [c2] = some y2 := by have := hf 2 _ rfl; simpa [show Tryd.prog.cellsOf 40 = 1 from by kernel_rfl] using this
  obtain ⟨z2, u2⟩ := sl_of_trod (f := ValSig.d) (k := 7) Tryd.underlying40 (by kernel_rfl) (by decide) (fun _ _ _ h => ValSig.of_trod h) e2
  simp only [List.cons.injEq, and_true] at q0; subst q0
  exact ⟨⟨z0, z1, z2⟩, ClassSig.rp.2 ⟨_, _, rfl, u0, u1, u2⟩⟩

structure InstSig where
  cls : ByteArray
  head : Ty
  preds : List Pred
def InstSig.d (x : InstSig) : D := .agg [.str x.cls, tyD x.head, .sl (x.preds.map Pred.d)]
theorem InstSig.rp {w : World} {F : Nat → Prop} {x : InstSig} {cs : List Value} : Rp w F x.d cs ↔ ∃ (v1 : Value) (v2 : Value), cs = [.string x.cls, .int .i64 x.head.kind, .string x.head.name, .int .i64 x.head.var, v1, v2] ∧ x.cls.size ≤ maxLen ∧ TyC w F x.head v1 ∧ Sl w F Pred.d x.preds v2
    := by
  unfold InstSig.d; rw [rp_agg]; simp only [rpAll_cons, rpAll_nil, rp_str]
  constructor
  · rintro ⟨_, _, rfl, ⟨rfl, h0⟩, a1, _, rfl, g1, a2, _, rfl, h2, rfl⟩
    obtain ⟨v1, rfl, h1⟩ := tyD.rp.1 g1
    obtain ⟨v2, rfl⟩ := rp_sl_one h2
    exact ⟨v1, v2, by simp [Ty.cells], h0, h1, h2⟩
  · rintro ⟨v1, v2, rfl, h0, h1, h2⟩
    exact ⟨[_], _, rfl, ⟨rfl, h0⟩, _, _, rfl, tyD.rp.2 ⟨_, rfl, h1⟩, [_], _, rfl, h2, rfl⟩
theorem InstSig.wide : Wide InstSig.d 6 := fun w F x cs h => by
  rw [InstSig.rp] at h
  obtain ⟨v1, v2, rfl, h0, h1, h2⟩ := h
  rfl
theorem InstSig.get {w : World} {F : Nat → Prop} {l : List InstSig} {A : Option Addr} {n c : Nat} (h : Sl w F InstSig.d l (.slice A n c)) {i : Nat} (hi : i < l.length) :
    ∃ (g off : Nat) (v1 : Value) (v2 : Value), A = some ⟨g, off, none⟩ ∧ F g ∧ w.cell? ⟨g, off + i * 6, none⟩ = some (.string l[i].cls) ∧ w.cell? ⟨g, off + i * 6 + 1, none⟩ = some (.int .i64 l[i].head.kind) ∧ w.cell? ⟨g, off + i * 6 + 2, none⟩ = some (.string l[i].head.name) ∧ w.cell? ⟨g, off + i * 6 + 3, none⟩ = some (.int .i64 l[i].head.var) ∧ w.cell? ⟨g, off + i * 6 + 4, none⟩ = some (v1) ∧ w.cell? ⟨g, off + i * 6 + 5, none⟩ = some (v2) ∧ l[i].cls.size ≤ maxLen ∧ TyC w F l[i].head v1 ∧ Sl w F Pred.d l[i].preds v2 := by
  obtain ⟨g, off, cs, hA, hg, hr, _, hc⟩ := Sl.get h InstSig.wide hi
  rw [InstSig.rp] at hr
  obtain ⟨v1, v2, rfl, h0, h1, h2⟩ := hr
  exact ⟨g, off, v1, v2, hA, hg, hc 0 _ rfl, hc 1 _ rfl, hc 2 _ rfl, hc 3 _ rfl, hc 4 _ rfl, hc 5 _ rfl, h0, h1, h2⟩
theorem InstSig.of_trod {H : Type} {enc : TypeId × Value → H} {w : World} {base : Nat} {sp : Nat → Bool} {held : Bool} {n : Nat} {cs : List Value} {y : DataW H × List MemPlace} (h : DataW.trod enc Tryd.prog w base sp held n 71 cs = some y) : ∃ x : InstSig, Rp w (· < w.heap.size) x.d cs := by
  obtain ⟨xs, n, rfl, rfl, hlen, hxl, hf⟩ := DataW.trod_struct Tryd.underlying71 h
  have hc : Tryd.prog.cellsOf 71 = 6 := by kernel_rfl
  rw [hc] at hlen
  obtain ⟨c0, ct0, rfl, lc0⟩ := uncons hlen
  obtain ⟨c1, ct1, rfl, lc1⟩ := uncons lc0
  obtain ⟨c2, ct2, rfl, lc2⟩ := uncons lc1
  obtain ⟨c3, ct3, rfl, lc3⟩ := uncons lc2
  obtain ⟨c4, ct4, rfl, lc4⟩ := uncons lc3
  obtain ⟨c5, ct5, rfl, lc5⟩ := uncons lc4
  obtain rfl := List.eq_nil_of_length_eq_zero lc5
  obtain ⟨y0, yt0, rfl, ly0⟩ := uncons hxl
  obtain ⟨y1, yt1, rfl, ly1⟩ := uncons ly0
  obtain ⟨y2, yt2, rfl, ly2⟩ := uncons ly1
  obtain rfl := List.eq_nil_of_length_eq_zero ly2
  have e0 : DataW.trod enc Tryd.prog w base sp held n 9 [c0] = some y0 := by have := hf 0 _ rfl; simpa [show Tryd.prog.cellsOf 9 = 1 from by kernel_rfl] using this
  obtain ⟨z0, q0, _, u0⟩ := DataW.trod_string Tryd.underlying9 e0
  have e1 : DataW.trod enc Tryd.prog w base sp held n 24 [c1, c2, c3, c4] = some y1 := by have := hf 1 _ rfl; simpa [show Tryd.prog.cellsOf 24 = 4 from by kernel_rfl] using this
  obtain ⟨z1, u1⟩ := tyD.of_trod _ e1
  obtain ⟨w1, q1, u1⟩ := tyD.rp.1 u1
  simp only [Ty.cells, List.cons.injEq, and_true] at q1; obtain ⟨rfl, rfl, rfl, rfl⟩ := q1
  have e2 : DataW.trod enc Tryd.prog w base sp held n 36 [c5] = some y2 := by have := hf 2 _ rfl; simpa [show Tryd.prog.cellsOf 36 = 1 from by kernel_rfl] using this
  obtain ⟨z2, u2⟩ := sl_of_trod (f := Pred.d) (k := 5) Tryd.underlying36 (by kernel_rfl) (by decide) (fun _ _ _ h => Pred.of_trod h) e2
  simp only [List.cons.injEq, and_true] at q0; subst q0
  exact ⟨⟨z0, z1, z2⟩, InstSig.rp.2 ⟨_, _, rfl, u0, u1, u2⟩⟩

end Go.Proofs.YtdljlpogljjldaaDoor
