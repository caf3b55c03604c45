/- Tokens as a Lean structure, and how they lie in memory. No conditions. -/
import Derived.Test.YtcjoapmodaioiaaGreatDoorRows
import Derived.Test.YtcjoapmodaioiaaGreatDoorBase
namespace Go.Proofs.YtcjoapmodaioiaaGreatDoor
open Go.RowKit Go.ChangeShapes Go.WideShapes

structure Tok where
  kind : Int
  text : ByteArray
  n : Int
  line : Int
  col : Int
def Tok.d (x : Tok) : D := .agg [.int .i64 x.kind, .str x.text, .int .i64 x.n, .int .i64 x.line, .int .i64 x.col]
theorem Tok.rp {w : World} {F : Nat → Prop} {x : Tok} {cs : List Value} : Rp w F x.d cs ↔ cs = [.int .i64 x.kind, .string x.text, .int .i64 x.n, .int .i64 x.line, .int .i64 x.col] ∧ (Lit.int .i64 x.kind).wf = true ∧ x.text.size ≤ maxLen ∧ (Lit.int .i64 x.n).wf = true ∧ (Lit.int .i64 x.line).wf = true ∧ (Lit.int .i64 x.col).wf = true
    := by
  unfold Tok.d; rw [rp_agg]; simp only [rpAll_cons, rpAll_nil, rp_int, rp_str]
  constructor
  · rintro ⟨_, _, rfl, ⟨rfl, h0⟩, _, _, rfl, ⟨rfl, h1⟩, _, _, rfl, ⟨rfl, h2⟩, _, _, rfl, ⟨rfl, h3⟩, _, _, rfl, ⟨rfl, h4⟩, rfl⟩
    exact ⟨by simp, h0, h1, h2, h3, h4⟩
  · rintro ⟨rfl, h0, h1, h2, h3, h4⟩
    exact ⟨[_], _, rfl, ⟨rfl, h0⟩, [_], _, rfl, ⟨rfl, h1⟩, [_], _, rfl, ⟨rfl, h2⟩, [_], _, rfl, ⟨rfl, h3⟩, [_], _, rfl, ⟨rfl, h4⟩, rfl⟩
theorem Tok.wide : Wide Tok.d 5 := fun w F x cs h => by
  rw [Tok.rp] at h
  obtain ⟨rfl, h0, h1, h2, h3, h4⟩ := h
  rfl
theorem Tok.get {w : World} {F : Nat → Prop} {l : List Tok} {A : Option Addr} {n c : Nat} (h : Sl w F Tok.d l (.slice A n c)) {i : Nat} (hi : i < l.length) :
    ∃ (g off : Nat) , A = some ⟨g, off, none⟩ ∧ F g ∧ w.cell? ⟨g, off + i * 5, none⟩ = some (.int .i64 l[i].kind) ∧ w.cell? ⟨g, off + i * 5 + 1, none⟩ = some (.string l[i].text) ∧ w.cell? ⟨g, off + i * 5 + 2, none⟩ = some (.int .i64 l[i].n) ∧ w.cell? ⟨g, off + i * 5 + 3, none⟩ = some (.int .i64 l[i].line) ∧ w.cell? ⟨g, off + i * 5 + 4, none⟩ = some (.int .i64 l[i].col) ∧ (Lit.int .i64 l[i].kind).wf = true ∧ l[i].text.size ≤ maxLen ∧ (Lit.int .i64 l[i].n).wf = true ∧ (Lit.int .i64 l[i].line).wf = true ∧ (Lit.int .i64 l[i].col).wf = true := by
  obtain ⟨g, off, cs, hA, hg, hr, _, hc⟩ := Sl.get h Tok.wide hi
  rw [Tok.rp] at hr
  obtain ⟨rfl, h0, h1, h2, h3, h4⟩ := hr
  exact ⟨g, off, hA, hg, hc 0 _ rfl, hc 1 _ rfl, hc 2 _ rfl, hc 3 _ rfl, hc 4 _ rfl, h0, h1, h2, h3, h4⟩
theorem Tok.of_trod {H : Type} {enc : TypeId × Value → H} {w : World} {base : Nat} {sp : Nat → Bool} {held : Bool} {n : Nat} {cs : List Value} {y : DataW H × List MemPlace} (h : DataW.trod enc Tryz.prog w base sp held n 59 cs = some y) : ∃ x : Tok, Rp w (· < w.heap.size) x.d cs := by
  obtain ⟨xs, n, rfl, rfl, hlen, hxl, hf⟩ := DataW.trod_struct Tryz.underlying59 h
  have hc : Tryz.prog.cellsOf 59 = 5 := by kernel_rfl
  rw [hc] at hlen
  obtain ⟨c0, ct0, rfl, lc0⟩ := uncons hlen
  obtain ⟨c1, ct1, rfl, lc1⟩ := uncons lc0
  obtain ⟨c2, ct2, rfl, lc2⟩ := uncons lc1
  obtain ⟨c3, ct3, rfl, lc3⟩ := uncons lc2
  obtain ⟨c4, ct4, rfl, lc4⟩ := uncons lc3
  obtain rfl := List.eq_nil_of_length_eq_zero lc4
  obtain ⟨y0, yt0, rfl, ly0⟩ := uncons hxl
  obtain ⟨y1, yt1, rfl, ly1⟩ := uncons ly0
  obtain ⟨y2, yt2, rfl, ly2⟩ := uncons ly1
  obtain ⟨y3, yt3, rfl, ly3⟩ := uncons ly2
  obtain ⟨y4, yt4, rfl, ly4⟩ := uncons ly3
  obtain rfl := List.eq_nil_of_length_eq_zero ly4
  have e0 : DataW.trod enc Tryz.prog w base sp held n 3 [c0] = some y0 := by have := hf 0 _ rfl; simpa [show Tryz.prog.cellsOf 3 = 1 from by kernel_rfl] using this
  obtain ⟨z0, q0, _, u0⟩ := DataW.trod_int Tryz.underlying3 e0
  have e1 : DataW.trod enc Tryz.prog w base sp held n 9 [c1] = some y1 := by have := hf 1 _ rfl; simpa [show Tryz.prog.cellsOf 9 = 1 from by kernel_rfl] using this
  obtain ⟨z1, q1, _, u1⟩ := DataW.trod_string Tryz.underlying9 e1
  have e2 : DataW.trod enc Tryz.prog w base sp held n 3 [c2] = some y2 := by have := hf 2 _ rfl; simpa [show Tryz.prog.cellsOf 3 = 1 from by kernel_rfl] using this
  obtain ⟨z2, q2, _, u2⟩ := DataW.trod_int Tryz.underlying3 e2
  have e3 : DataW.trod enc Tryz.prog w base sp held n 3 [c3] = some y3 := by have := hf 3 _ rfl; simpa [show Tryz.prog.cellsOf 3 = 1 from by kernel_rfl] using this
  obtain ⟨z3, q3, _, u3⟩ := DataW.trod_int Tryz.underlying3 e3
  have e4 : DataW.trod enc Tryz.prog w base sp held n 3 [c4] = some y4 := by have := hf 4 _ rfl; simpa [show Tryz.prog.cellsOf 3 = 1 from by kernel_rfl] using this
  obtain ⟨z4, q4, _, u4⟩ := DataW.trod_int Tryz.underlying3 e4
  simp only [List.cons.injEq, and_true] at q0; subst q0
  simp only [List.cons.injEq, and_true] at q1; subst q1
  simp only [List.cons.injEq, and_true] at q2; subst q2
  simp only [List.cons.injEq, and_true] at q3; subst q3
  simp only [List.cons.injEq, and_true] at q4; subst q4
  exact ⟨⟨z0, z1, z2, z3, z4⟩, Tok.rp.2 ⟨rfl, u0, u1, u2, u3, u4⟩⟩

end Go.Proofs.YtcjoapmodaioiaaGreatDoor
