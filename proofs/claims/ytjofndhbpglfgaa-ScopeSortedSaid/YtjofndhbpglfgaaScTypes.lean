/- Located errors as a Lean structure, and how they lie in memory. No conditions. -/
import Derived.Test.YtjofndhbpglfgaaRows
import Derived.Test.YtjofndhbpglfgaaBase
namespace Go.Proofs.Ytjofndhbpglfgaa
open Go.RowKit Go.ChangeShapes Go.WideShapes

structure Diag where
  code : Int
  line : Int
  col : Int
  text : ByteArray
def Diag.d (x : Diag) : D := .agg [.int .i64 x.code, .int .i64 x.line, .int .i64 x.col, .str x.text]
theorem Diag.rp {w : World} {F : Nat → Prop} {x : Diag} {cs : List Value} : Rp w F x.d cs ↔ cs = [.int .i64 x.code, .int .i64 x.line, .int .i64 x.col, .string x.text] ∧ (Lit.int .i64 x.code).wf = true ∧ (Lit.int .i64 x.line).wf = true ∧ (Lit.int .i64 x.col).wf = true ∧ x.text.size ≤ maxLen
    := by
  unfold Diag.d; rw [rp_agg]; simp only [rpAll_cons, rpAll_nil, rp_int, rp_str]
  constructor
  · rintro ⟨_, _, rfl, ⟨rfl, h0⟩, _, _, rfl, ⟨rfl, h1⟩, _, _, rfl, ⟨rfl, h2⟩, _, _, rfl, ⟨rfl, h3⟩, rfl⟩
    exact ⟨by simp, h0, h1, h2, h3⟩
  · rintro ⟨rfl, h0, h1, h2, h3⟩
    exact ⟨[_], _, rfl, ⟨rfl, h0⟩, [_], _, rfl, ⟨rfl, h1⟩, [_], _, rfl, ⟨rfl, h2⟩, [_], _, rfl, ⟨rfl, h3⟩, rfl⟩
theorem Diag.wide : Wide Diag.d 4 := fun w F x cs h => by
  rw [Diag.rp] at h
  obtain ⟨rfl, h0, h1, h2, h3⟩ := h
  rfl
theorem Diag.get {w : World} {F : Nat → Prop} {l : List Diag} {A : Option Addr} {n c : Nat} (h : Sl w F Diag.d l (.slice A n c)) {i : Nat} (hi : i < l.length) :
    ∃ (g off : Nat) , A = some ⟨g, off, none⟩ ∧ F g ∧ w.cell? ⟨g, off + i * 4, none⟩ = some (.int .i64 l[i].code) ∧ w.cell? ⟨g, off + i * 4 + 1, none⟩ = some (.int .i64 l[i].line) ∧ w.cell? ⟨g, off + i * 4 + 2, none⟩ = some (.int .i64 l[i].col) ∧ w.cell? ⟨g, off + i * 4 + 3, none⟩ = some (.string l[i].text) ∧ (Lit.int .i64 l[i].code).wf = true ∧ (Lit.int .i64 l[i].line).wf = true ∧ (Lit.int .i64 l[i].col).wf = true ∧ l[i].text.size ≤ maxLen := by
  obtain ⟨g, off, cs, hA, hg, hr, _, hc⟩ := Sl.get h Diag.wide hi
  rw [Diag.rp] at hr
  obtain ⟨rfl, h0, h1, h2, h3⟩ := hr
  exact ⟨g, off, hA, hg, hc 0 _ rfl, hc 1 _ rfl, hc 2 _ rfl, hc 3 _ rfl, h0, h1, h2, h3⟩
theorem Diag.of_trod {H : Type} {enc : TypeId × Value → H} {w : World} {base : Nat} {sp : Nat → Bool} {held : Bool} {n : Nat} {cs : List Value} {y : DataW H × List MemPlace} (h : DataW.trod enc Try.prog w base sp held n 25 cs = some y) : ∃ x : Diag, Rp w (· < w.heap.size) x.d cs := by
  obtain ⟨xs, n, rfl, rfl, hlen, hxl, hf⟩ := DataW.trod_struct Try.underlying25 h
  have hc : Try.prog.cellsOf 25 = 4 := by kernel_rfl
  rw [hc] at hlen
  obtain ⟨c0, ct0, rfl, lc0⟩ := uncons hlen
  obtain ⟨c1, ct1, rfl, lc1⟩ := uncons lc0
  obtain ⟨c2, ct2, rfl, lc2⟩ := uncons lc1
  obtain ⟨c3, ct3, rfl, lc3⟩ := uncons lc2
  obtain rfl := List.eq_nil_of_length_eq_zero lc3
  obtain ⟨y0, yt0, rfl, ly0⟩ := uncons hxl
  obtain ⟨y1, yt1, rfl, ly1⟩ := uncons ly0
  obtain ⟨y2, yt2, rfl, ly2⟩ := uncons ly1
  obtain ⟨y3, yt3, rfl, ly3⟩ := uncons ly2
  obtain rfl := List.eq_nil_of_length_eq_zero ly3
  have e0 : DataW.trod enc Try.prog w base sp held n 23 [c0] = some y0 := by have := hf 0 _ rfl; simpa [show Try.prog.cellsOf 23 = 1 from by kernel_rfl] using this
  obtain ⟨z0, q0, _, u0⟩ := DataW.trod_int Try.underlying23 e0
  have e1 : DataW.trod enc Try.prog w base sp held n 3 [c1] = some y1 := by have := hf 1 _ rfl; simpa [show Try.prog.cellsOf 3 = 1 from by kernel_rfl] using this
  obtain ⟨z1, q1, _, u1⟩ := DataW.trod_int Try.underlying3 e1
  have e2 : DataW.trod enc Try.prog w base sp held n 3 [c2] = some y2 := by have := hf 2 _ rfl; simpa [show Try.prog.cellsOf 3 = 1 from by kernel_rfl] using this
  obtain ⟨z2, q2, _, u2⟩ := DataW.trod_int Try.underlying3 e2
  have e3 : DataW.trod enc Try.prog w base sp held n 9 [c3] = some y3 := by have := hf 3 _ rfl; simpa [show Try.prog.cellsOf 9 = 1 from by kernel_rfl] using this
  obtain ⟨z3, q3, _, u3⟩ := DataW.trod_string Try.underlying9 e3
  simp only [List.cons.injEq, and_true] at q0; subst q0
  simp only [List.cons.injEq, and_true] at q1; subst q1
  simp only [List.cons.injEq, and_true] at q2; subst q2
  simp only [List.cons.injEq, and_true] at q3; subst q3
  exact ⟨⟨z0, z1, z2, z3⟩, Diag.rp.2 ⟨rfl, u0, u1, u2, u3⟩⟩

end Go.Proofs.Ytjofndhbpglfgaa
