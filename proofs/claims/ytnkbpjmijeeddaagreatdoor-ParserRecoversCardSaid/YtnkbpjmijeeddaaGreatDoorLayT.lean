/- Contexts of the layout, in memory. No conditions. -/
import Derived.Test.YtnkbpjmijeeddaaGreatDoorTokTypes
namespace Go.Proofs.YtnkbpjmijeeddaaGreatDoor
open Go.RowKit Go.ChangeShapes Go.WideShapes

structure Ctx where
  col : Int
  op : ByteArray
def Ctx.d (x : Ctx) : D := .agg [.int .i64 x.col, .str x.op]
theorem Ctx.rp {w : World} {F : Nat → Prop} {x : Ctx} {cs : List Value} : Rp w F x.d cs ↔ cs = [.int .i64 x.col, .string x.op] ∧ (Lit.int .i64 x.col).wf = true ∧ x.op.size ≤ maxLen
    := by
  unfold Ctx.d; rw [rp_agg]; simp only [rpAll_cons, rpAll_nil, rp_int, rp_str]
  constructor
  · rintro ⟨_, _, rfl, ⟨rfl, h0⟩, _, _, rfl, ⟨rfl, h1⟩, rfl⟩
    exact ⟨by simp, h0, h1⟩
  · rintro ⟨rfl, h0, h1⟩
    exact ⟨[_], _, rfl, ⟨rfl, h0⟩, [_], _, rfl, ⟨rfl, h1⟩, rfl⟩
theorem Ctx.wide : Wide Ctx.d 2 := fun w F x cs h => by
  rw [Ctx.rp] at h
  obtain ⟨rfl, h0, h1⟩ := h
  rfl
theorem Ctx.get {w : World} {F : Nat → Prop} {l : List Ctx} {A : Option Addr} {n c : Nat} (h : Sl w F Ctx.d l (.slice A n c)) {i : Nat} (hi : i < l.length) :
    ∃ (g off : Nat) , A = some ⟨g, off, none⟩ ∧ F g ∧ w.cell? ⟨g, off + i * 2, none⟩ = some (.int .i64 l[i].col) ∧ w.cell? ⟨g, off + i * 2 + 1, none⟩ = some (.string l[i].op) ∧ (Lit.int .i64 l[i].col).wf = true ∧ l[i].op.size ≤ maxLen := by
  obtain ⟨g, off, cs, hA, hg, hr, _, hc⟩ := Sl.get h Ctx.wide hi
  rw [Ctx.rp] at hr
  obtain ⟨rfl, h0, h1⟩ := hr
  exact ⟨g, off, hA, hg, hc 0 _ rfl, hc 1 _ rfl, h0, h1⟩
theorem Ctx.of_trod {H : Type} {enc : TypeId × Value → H} {w : World} {base : Nat} {sp : Nat → Bool} {held : Bool} {n : Nat} {cs : List Value} {y : DataW H × List MemPlace} (h : DataW.trod enc Tryz.prog w base sp held n 72 cs = some y) : ∃ x : Ctx, Rp w (· < w.heap.size) x.d cs := by
  obtain ⟨xs, n, rfl, rfl, hlen, hxl, hf⟩ := DataW.trod_struct Tryz.underlying72 h
  have hc : Tryz.prog.cellsOf 72 = 2 := by kernel_rfl
  rw [hc] at hlen
  obtain ⟨c0, ct0, rfl, lc0⟩ := uncons hlen
  obtain ⟨c1, ct1, rfl, lc1⟩ := uncons lc0
  obtain rfl := List.eq_nil_of_length_eq_zero lc1
  obtain ⟨y0, yt0, rfl, ly0⟩ := uncons hxl
  obtain ⟨y1, yt1, rfl, ly1⟩ := uncons ly0
  obtain rfl := List.eq_nil_of_length_eq_zero ly1
  have e0 : DataW.trod enc Tryz.prog w base sp held n 3 [c0] = some y0 := by have := hf 0 _ rfl; simpa [show Tryz.prog.cellsOf 3 = 1 from by kernel_rfl] using this
  obtain ⟨z0, q0, _, u0⟩ := DataW.trod_int Tryz.underlying3 e0
  have e1 : DataW.trod enc Tryz.prog w base sp held n 9 [c1] = some y1 := by have := hf 1 _ rfl; simpa [show Tryz.prog.cellsOf 9 = 1 from by kernel_rfl] using this
  obtain ⟨z1, q1, _, u1⟩ := DataW.trod_string Tryz.underlying9 e1
  simp only [List.cons.injEq, and_true] at q0; subst q0
  simp only [List.cons.injEq, and_true] at q1; subst q1
  exact ⟨⟨z0, z1⟩, Ctx.rp.2 ⟨rfl, u0, u1⟩⟩

end Go.Proofs.YtnkbpjmijeeddaaGreatDoor
