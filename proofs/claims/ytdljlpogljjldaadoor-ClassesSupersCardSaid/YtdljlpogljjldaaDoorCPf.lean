/- Proofs of requirements as a Lean tree, and how they lie in memory. No conditions. -/
import Derived.Test.YtdljlpogljjldaaDoorCTypes
namespace Go.Proofs.YtdljlpogljjldaaDoor
open Go.RowKit Go.ChangeShapes Go.WideShapes

inductive Pf where
  | mk (kind num : Int) (subs : List Pf)
namespace Pf
def kind : Pf → Int | .mk k _ _ => k
def num : Pf → Int | .mk _ n _ => n
def subs : Pf → List Pf | .mk _ _ l => l
end Pf
mutual
def pfD : Pf → D
  | .mk k n l => .agg [.int .i64 k, .int .i64 n, .sl (pfDs l)]
def pfDs : List Pf → List D
  | [] => []
  | a :: r => pfD a :: pfDs r
end
theorem pfDs_map : ∀ l : List Pf, pfDs l = l.map pfD
  | [] => rfl
  | a :: r => by rw [pfDs, List.map_cons, pfDs_map r]
theorem pfD_eq (t : Pf) : pfD t = .agg [.int .i64 t.kind, .int .i64 t.num, .sl (t.subs.map pfD)] := by
  cases t with
  | mk k n l => rw [pfD, pfDs_map]; rfl
/-- A proof's three values, and what they are good for. -/
structure PfC (w : World) (F : Nat → Prop) (t : Pf) (av : Value) : Prop where
  kind : (Lit.int .i64 t.kind).wf = true
  num : (Lit.int .i64 t.num).wf = true
  subs : Sl w F pfD t.subs av
def Pf.cells (t : Pf) (av : Value) : List Value := [.int .i64 t.kind, .int .i64 t.num, av]
theorem pfD.rp {w : World} {F : Nat → Prop} {t : Pf} {cs : List Value} : Rp w F (pfD t) cs ↔ ∃ av, cs = t.cells av ∧ PfC w F t av := by
  rw [pfD_eq, rp_agg]; simp only [rpAll_cons, rpAll_nil, rp_int]
  constructor
  · rintro ⟨_, _, rfl, ⟨rfl, h0⟩, _, _, rfl, ⟨rfl, h1⟩, cs, _, rfl, h3, rfl⟩
    obtain ⟨v, rfl⟩ := rp_sl_one h3
    exact ⟨v, by simp [Pf.cells], h0, h1, h3⟩
  · rintro ⟨v, rfl, h0, h1, h3⟩
    exact ⟨[_], _, rfl, ⟨rfl, h0⟩, [_], _, rfl, ⟨rfl, h1⟩, [_], [], rfl, h3, rfl⟩
theorem pfD.wide : Wide pfD 3 := fun w F x cs h => by
  rw [pfD.rp] at h
  obtain ⟨v, rfl, _⟩ := h
  rfl
section
variable {w w' : World} {F G : Nat → Prop} {t : Pf} {av : Value}
theorem PfC.mono (h : PfC w F t av) (hF : ∀ b, F b → G b) : PfC w G t av := ⟨h.kind, h.num, h.subs.mono hF⟩
theorem PfC.later (h : PfC w F t av) (hb : Below w.heap.size w w') : PfC w' F t av := ⟨h.kind, h.num, h.subs.later hb⟩
theorem PfC.keeps {X : Nat → Prop} (h : PfC w F t av) (hk : Keeps X w w') (hF : ∀ i, F i → ¬ X i) : PfC w' F t av := ⟨h.kind, h.num, h.subs.keeps hk hF⟩
theorem PfC.form (h : PfC w F t av) : ∃ A c, av = .slice A t.subs.length c ∧ t.subs.length ≤ c ∧ c ≤ maxLen ∧ (A = none → c = 0) := h.subs.form
/-- The part at an index. -/
theorem pfD.get {l : List Pf} {A : Option Addr} {n c : Nat} (h : Sl w F pfD l (.slice A n c)) {i : Nat} (hi : i < l.length) :
    ∃ (g off : Nat) (v : Value), A = some ⟨g, off, none⟩ ∧ F g ∧ w.cell? ⟨g, off + i * 3, none⟩ = some (.int .i64 l[i].kind) ∧ w.cell? ⟨g, off + i * 3 + 1, none⟩ = some (.int .i64 l[i].num) ∧
      w.cell? ⟨g, off + i * 3 + 2, none⟩ = some v ∧ PfC w F l[i] v := by
  obtain ⟨g, off, cs, hA, hg, hr, _, hc⟩ := Sl.get h pfD.wide hi
  rw [pfD.rp] at hr
  obtain ⟨v, rfl, h1⟩ := hr
  exact ⟨g, off, v, hA, hg, hc 0 _ rfl, hc 1 _ rfl, hc 2 _ rfl, h1⟩
end
theorem pfD.of_trod {H : Type} {enc : TypeId × Value → H} {w : World} {base : Nat} {sp : Nat → Bool} {held : Bool} : ∀ (n : Nat) {cs : List Value} {y : DataW H × List MemPlace}, DataW.trod enc Tryd.prog w base sp held n 27 cs = some y → ∃ x : Pf, Rp w (· < w.heap.size) (pfD x) cs := by
  intro n
  induction n using Nat.strongRecOn with
  | _ n ih =>
  intro cs y h
  obtain ⟨xs, m, rfl, rfl, hlen, hxl, hf⟩ := DataW.trod_struct Tryd.underlying27 h
  have hc : Tryd.prog.cellsOf 27 = 3 := by kernel_rfl
  rw [hc] at hlen
  obtain ⟨c0, ct0, rfl, lc0⟩ := uncons hlen
  obtain ⟨c1, ct1, rfl, lc1⟩ := uncons lc0
  obtain ⟨c2, ct2, rfl, lc2⟩ := uncons lc1
  obtain rfl := List.eq_nil_of_length_eq_zero lc2
  obtain ⟨y0, yt0, rfl, ly0⟩ := uncons hxl
  obtain ⟨y1, yt1, rfl, ly1⟩ := uncons ly0
  obtain ⟨y2, yt2, rfl, ly2⟩ := uncons ly1
  obtain rfl := List.eq_nil_of_length_eq_zero ly2
  have e0 : DataW.trod enc Tryd.prog w base sp held m 3 [c0] = some y0 := by have := hf 0 _ rfl; simpa [show Tryd.prog.cellsOf 3 = 1 from by kernel_rfl] using this
  obtain ⟨z0, q0, _, u0⟩ := DataW.trod_int Tryd.underlying3 e0
  have e1 : DataW.trod enc Tryd.prog w base sp held m 3 [c1] = some y1 := by have := hf 1 _ rfl; simpa [show Tryd.prog.cellsOf 3 = 1 from by kernel_rfl] using this
  obtain ⟨z1, q1, _, u1⟩ := DataW.trod_int Tryd.underlying3 e1
  have e2 : DataW.trod enc Tryd.prog w base sp held m 25 [c2] = some y2 := by have := hf 2 _ rfl; simpa [show Tryd.prog.cellsOf 25 = 1 from by kernel_rfl] using this
  obtain ⟨l, hl⟩ := sl_of_trod_lt (f := pfD) (k := 3) Tryd.underlying25 hc (by decide) (fun k hk cs y hy => ih k (by omega) hy) e2
  simp only [List.cons.injEq, and_true] at q0; subst q0
  simp only [List.cons.injEq, and_true] at q1; subst q1
  exact ⟨.mk z0 z1 l, pfD.rp.2 ⟨c2, rfl, u0, u1, hl⟩⟩
end Go.Proofs.YtdljlpogljjldaaDoor
