/- The structs of the package fixity as Lean structures, and how they lie in memory. No conditions. -/
import Derived.Test.YtpeabfbljiaedaaRows
import Derived.Test.YtpeabfbljiaedaaBase
namespace Go.Proofs.Ytpeabfbljiaedaa
open Go.RowKit Go.ChangeShapes Go.WideShapes

structure FixSig where
  op : ByteArray
  side : Int
  level : Int
def FixSig.d (x : FixSig) : D := .agg [.str x.op, .int .i64 x.side, .int .i64 x.level]
theorem FixSig.rp {w : World} {F : Nat → Prop} {x : FixSig} {cs : List Value} : Rp w F x.d cs ↔ cs = [.string x.op, .int .i64 x.side, .int .i64 x.level] ∧ x.op.size ≤ maxLen ∧ (Lit.int .i64 x.side).wf = true ∧ (Lit.int .i64 x.level).wf = true
    := by
  unfold FixSig.d; rw [rp_agg]; simp only [rpAll_cons, rpAll_nil, rp_int, rp_str]
  constructor
  · rintro ⟨_, _, rfl, ⟨rfl, h0⟩, _, _, rfl, ⟨rfl, h1⟩, _, _, rfl, ⟨rfl, h2⟩, rfl⟩
    exact ⟨by simp, h0, h1, h2⟩
  · rintro ⟨rfl, h0, h1, h2⟩
    exact ⟨[_], _, rfl, ⟨rfl, h0⟩, [_], _, rfl, ⟨rfl, h1⟩, [_], _, rfl, ⟨rfl, h2⟩, rfl⟩
theorem FixSig.wide : Wide FixSig.d 3 := fun w F x cs h => by
  rw [FixSig.rp] at h
  obtain ⟨rfl, h0, h1, h2⟩ := h
  rfl
theorem FixSig.get {w : World} {F : Nat → Prop} {l : List FixSig} {A : Option Addr} {n c : Nat} (h : Sl w F FixSig.d l (.slice A n c)) {i : Nat} (hi : i < l.length) :
    ∃ (g off : Nat) , A = some ⟨g, off, none⟩ ∧ F g ∧ w.cell? ⟨g, off + i * 3, none⟩ = some (.string l[i].op) ∧ w.cell? ⟨g, off + i * 3 + 1, none⟩ = some (.int .i64 l[i].side) ∧ w.cell? ⟨g, off + i * 3 + 2, none⟩ = some (.int .i64 l[i].level) ∧ l[i].op.size ≤ maxLen ∧ (Lit.int .i64 l[i].side).wf = true ∧ (Lit.int .i64 l[i].level).wf = true := by
  obtain ⟨g, off, cs, hA, hg, hr, _, hc⟩ := Sl.get h FixSig.wide hi
  rw [FixSig.rp] at hr
  obtain ⟨rfl, h0, h1, h2⟩ := hr
  exact ⟨g, off, hA, hg, hc 0 _ rfl, hc 1 _ rfl, hc 2 _ rfl, h0, h1, h2⟩
theorem FixSig.of_trod {H : Type} {enc : TypeId × Value → H} {w : World} {base : Nat} {sp : Nat → Bool} {held : Bool} {n : Nat} {cs : List Value} {y : DataW H × List MemPlace} (h : DataW.trod enc Try.prog w base sp held n 47 cs = some y) : ∃ x : FixSig, Rp w (· < w.heap.size) x.d cs := by
  obtain ⟨xs, n, rfl, rfl, hlen, hxl, hf⟩ := DataW.trod_struct Try.underlying47 h
  have hc : Try.prog.cellsOf 47 = 3 := by kernel_rfl
  rw [hc] at hlen
  obtain ⟨c0, ct0, rfl, lc0⟩ := uncons hlen
  obtain ⟨c1, ct1, rfl, lc1⟩ := uncons lc0
  obtain ⟨c2, ct2, rfl, lc2⟩ := uncons lc1
  obtain rfl := List.eq_nil_of_length_eq_zero lc2
  obtain ⟨y0, yt0, rfl, ly0⟩ := uncons hxl
  obtain ⟨y1, yt1, rfl, ly1⟩ := uncons ly0
  obtain ⟨y2, yt2, rfl, ly2⟩ := uncons ly1
  obtain rfl := List.eq_nil_of_length_eq_zero ly2
  have e0 : DataW.trod enc Try.prog w base sp held n 9 [c0] = some y0 := by have := hf 0 _ rfl; simpa [show Try.prog.cellsOf 9 = 1 from by kernel_rfl] using this
  obtain ⟨z0, q0, _, u0⟩ := DataW.trod_string Try.underlying9 e0
  have e1 : DataW.trod enc Try.prog w base sp held n 3 [c1] = some y1 := by have := hf 1 _ rfl; simpa [show Try.prog.cellsOf 3 = 1 from by kernel_rfl] using this
  obtain ⟨z1, q1, _, u1⟩ := DataW.trod_int Try.underlying3 e1
  have e2 : DataW.trod enc Try.prog w base sp held n 3 [c2] = some y2 := by have := hf 2 _ rfl; simpa [show Try.prog.cellsOf 3 = 1 from by kernel_rfl] using this
  obtain ⟨z2, q2, _, u2⟩ := DataW.trod_int Try.underlying3 e2
  simp only [List.cons.injEq, and_true] at q0; subst q0
  simp only [List.cons.injEq, and_true] at q1; subst q1
  simp only [List.cons.injEq, and_true] at q2; subst q2
  exact ⟨⟨z0, z1, z2⟩, FixSig.rp.2 ⟨rfl, u0, u1, u2⟩⟩

structure FixItem where
  op : ByteArray
  n : Int
def FixItem.d (x : FixItem) : D := .agg [.str x.op, .int .i64 x.n]
theorem FixItem.rp {w : World} {F : Nat → Prop} {x : FixItem} {cs : List Value} : Rp w F x.d cs ↔ cs = [.string x.op, .int .i64 x.n] ∧ x.op.size ≤ maxLen ∧ (Lit.int .i64 x.n).wf = true
    := by
  unfold FixItem.d; rw [rp_agg]; simp only [rpAll_cons, rpAll_nil, rp_int, rp_str]
  constructor
  · rintro ⟨_, _, rfl, ⟨rfl, h0⟩, _, _, rfl, ⟨rfl, h1⟩, rfl⟩
    exact ⟨by simp, h0, h1⟩
  · rintro ⟨rfl, h0, h1⟩
    exact ⟨[_], _, rfl, ⟨rfl, h0⟩, [_], _, rfl, ⟨rfl, h1⟩, rfl⟩
theorem FixItem.wide : Wide FixItem.d 2 := fun w F x cs h => by
  rw [FixItem.rp] at h
  obtain ⟨rfl, h0, h1⟩ := h
  rfl
theorem FixItem.get {w : World} {F : Nat → Prop} {l : List FixItem} {A : Option Addr} {n c : Nat} (h : Sl w F FixItem.d l (.slice A n c)) {i : Nat} (hi : i < l.length) :
    ∃ (g off : Nat) , A = some ⟨g, off, none⟩ ∧ F g ∧ w.cell? ⟨g, off + i * 2, none⟩ = some (.string l[i].op) ∧ w.cell? ⟨g, off + i * 2 + 1, none⟩ = some (.int .i64 l[i].n) ∧ l[i].op.size ≤ maxLen ∧ (Lit.int .i64 l[i].n).wf = true := by
  obtain ⟨g, off, cs, hA, hg, hr, _, hc⟩ := Sl.get h FixItem.wide hi
  rw [FixItem.rp] at hr
  obtain ⟨rfl, h0, h1⟩ := hr
  exact ⟨g, off, hA, hg, hc 0 _ rfl, hc 1 _ rfl, h0, h1⟩
theorem FixItem.of_trod {H : Type} {enc : TypeId × Value → H} {w : World} {base : Nat} {sp : Nat → Bool} {held : Bool} {n : Nat} {cs : List Value} {y : DataW H × List MemPlace} (h : DataW.trod enc Try.prog w base sp held n 57 cs = some y) : ∃ x : FixItem, Rp w (· < w.heap.size) x.d cs := by
  obtain ⟨xs, n, rfl, rfl, hlen, hxl, hf⟩ := DataW.trod_struct Try.underlying57 h
  have hc : Try.prog.cellsOf 57 = 2 := by kernel_rfl
  rw [hc] at hlen
  obtain ⟨c0, ct0, rfl, lc0⟩ := uncons hlen
  obtain ⟨c1, ct1, rfl, lc1⟩ := uncons lc0
  obtain rfl := List.eq_nil_of_length_eq_zero lc1
  obtain ⟨y0, yt0, rfl, ly0⟩ := uncons hxl
  obtain ⟨y1, yt1, rfl, ly1⟩ := uncons ly0
  obtain rfl := List.eq_nil_of_length_eq_zero ly1
  have e0 : DataW.trod enc Try.prog w base sp held n 9 [c0] = some y0 := by have := hf 0 _ rfl; simpa [show Try.prog.cellsOf 9 = 1 from by kernel_rfl] using this
  obtain ⟨z0, q0, _, u0⟩ := DataW.trod_string Try.underlying9 e0
  have e1 : DataW.trod enc Try.prog w base sp held n 3 [c1] = some y1 := by have := hf 1 _ rfl; simpa [show Try.prog.cellsOf 3 = 1 from by kernel_rfl] using this
  obtain ⟨z1, q1, _, u1⟩ := DataW.trod_int Try.underlying3 e1
  simp only [List.cons.injEq, and_true] at q0; subst q0
  simp only [List.cons.injEq, and_true] at q1; subst q1
  exact ⟨⟨z0, z1⟩, FixItem.rp.2 ⟨rfl, u0, u1⟩⟩

structure FixNode where
  op : ByteArray
  n : Int
  a : Int
  b : Int
def FixNode.d (x : FixNode) : D := .agg [.str x.op, .int .i64 x.n, .int .i64 x.a, .int .i64 x.b]
theorem FixNode.rp {w : World} {F : Nat → Prop} {x : FixNode} {cs : List Value} : Rp w F x.d cs ↔ cs = [.string x.op, .int .i64 x.n, .int .i64 x.a, .int .i64 x.b] ∧ x.op.size ≤ maxLen ∧ (Lit.int .i64 x.n).wf = true ∧ (Lit.int .i64 x.a).wf = true ∧ (Lit.int .i64 x.b).wf = true
    := by
  unfold FixNode.d; rw [rp_agg]; simp only [rpAll_cons, rpAll_nil, rp_int, rp_str]
  constructor
  · rintro ⟨_, _, rfl, ⟨rfl, h0⟩, _, _, rfl, ⟨rfl, h1⟩, _, _, rfl, ⟨rfl, h2⟩, _, _, rfl, ⟨rfl, h3⟩, rfl⟩
    exact ⟨by simp, h0, h1, h2, h3⟩
  · rintro ⟨rfl, h0, h1, h2, h3⟩
    exact ⟨[_], _, rfl, ⟨rfl, h0⟩, [_], _, rfl, ⟨rfl, h1⟩, [_], _, rfl, ⟨rfl, h2⟩, [_], _, rfl, ⟨rfl, h3⟩, rfl⟩
theorem FixNode.wide : Wide FixNode.d 4 := fun w F x cs h => by
  rw [FixNode.rp] at h
  obtain ⟨rfl, h0, h1, h2, h3⟩ := h
  rfl
theorem FixNode.get {w : World} {F : Nat → Prop} {l : List FixNode} {A : Option Addr} {n c : Nat} (h : Sl w F FixNode.d l (.slice A n c)) {i : Nat} (hi : i < l.length) :
    ∃ (g off : Nat) , A = some ⟨g, off, none⟩ ∧ F g ∧ w.cell? ⟨g, off + i * 4, none⟩ = some (.string l[i].op) ∧ w.cell? ⟨g, off + i * 4 + 1, none⟩ = some (.int .i64 l[i].n) ∧ w.cell? ⟨g, off + i * 4 + 2, none⟩ = some (.int .i64 l[i].a) ∧ w.cell? ⟨g, off + i * 4 + 3, none⟩ = some (.int .i64 l[i].b) ∧ l[i].op.size ≤ maxLen ∧ (Lit.int .i64 l[i].n).wf = true ∧ (Lit.int .i64 l[i].a).wf = true ∧ (Lit.int .i64 l[i].b).wf = true := by
  obtain ⟨g, off, cs, hA, hg, hr, _, hc⟩ := Sl.get h FixNode.wide hi
  rw [FixNode.rp] at hr
  obtain ⟨rfl, h0, h1, h2, h3⟩ := hr
  exact ⟨g, off, hA, hg, hc 0 _ rfl, hc 1 _ rfl, hc 2 _ rfl, hc 3 _ rfl, h0, h1, h2, h3⟩
theorem FixNode.of_trod {H : Type} {enc : TypeId × Value → H} {w : World} {base : Nat} {sp : Nat → Bool} {held : Bool} {n : Nat} {cs : List Value} {y : DataW H × List MemPlace} (h : DataW.trod enc Try.prog w base sp held n 53 cs = some y) : ∃ x : FixNode, Rp w (· < w.heap.size) x.d cs := by
  obtain ⟨xs, n, rfl, rfl, hlen, hxl, hf⟩ := DataW.trod_struct Try.underlying53 h
  have hc : Try.prog.cellsOf 53 = 4 := by kernel_rfl
  rw [hc] at hlen
  obtain ⟨c0, ct0, rfl, lc0⟩ := uncons hlen
  obtain ⟨c1, ct1, rfl, lc1⟩ := uncons lc0
  obtain ⟨c2, ct2, rfl, lc2⟩ := uncons lc1
  obtain ⟨c3, ct3, rfl, lc3⟩ := uncons lc2
  obtain rfl := List.eq_nil_of_length_eq_zero lc3
  obtain ⟨y0, yt0, rfl, ly0⟩ := uncons hxl
  obtain ⟨y1, yt1, rfl, ly1⟩ := uncons ly0
  obtain ⟨y2, yt2, rfl, ly2⟩ := uncons ly1
  obtain ⟨y3, yt3, rfl, ly3⟩ := uncons ly2
  obtain rfl := List.eq_nil_of_length_eq_zero ly3
  have e0 : DataW.trod enc Try.prog w base sp held n 9 [c0] = some y0 := by have := hf 0 _ rfl; simpa [show Try.prog.cellsOf 9 = 1 from by kernel_rfl] using this
  obtain ⟨z0, q0, _, u0⟩ := DataW.trod_string Try.underlying9 e0
  have e1 : DataW.trod enc Try.prog w base sp held n 3 [c1] = some y1 := by have := hf 1 _ rfl; simpa [show Try.prog.cellsOf 3 = 1 from by kernel_rfl] using this
  obtain ⟨z1, q1, _, u1⟩ := DataW.trod_int Try.underlying3 e1
  have e2 : DataW.trod enc Try.prog w base sp held n 3 [c2] = some y2 := by have := hf 2 _ rfl; simpa [show Try.prog.cellsOf 3 = 1 from by kernel_rfl] using this
  obtain ⟨z2, q2, _, u2⟩ := DataW.trod_int Try.underlying3 e2
  have e3 : DataW.trod enc Try.prog w base sp held n 3 [c3] = some y3 := by have := hf 3 _ rfl; simpa [show Try.prog.cellsOf 3 = 1 from by kernel_rfl] using this
  obtain ⟨z3, q3, _, u3⟩ := DataW.trod_int Try.underlying3 e3
  simp only [List.cons.injEq, and_true] at q0; subst q0
  simp only [List.cons.injEq, and_true] at q1; subst q1
  simp only [List.cons.injEq, and_true] at q2; subst q2
  simp only [List.cons.injEq, and_true] at q3; subst q3
  exact ⟨⟨z0, z1, z2, z3⟩, FixNode.rp.2 ⟨rfl, u0, u1, u2, u3⟩⟩

end Go.Proofs.Ytpeabfbljiaedaa
