/- Types (and rows) as a Lean tree, and how they lie in memory. No conditions. -/
import Derived.Test.YthchnabhbpdfgaaDoorRows
import Derived.Test.YthchnabhbpdfgaaDoorSlices
namespace Go.Proofs.YthchnabhbpdfgaaDoor
open Go.RowKit Go.ChangeShapes Go.WideShapes

inductive Ty where
  | mk (kind : Int) (name : ByteArray) (var : Int) (args : List Ty)
namespace Ty
def kind : Ty → Int | .mk k _ _ _ => k
def name : Ty → ByteArray | .mk _ n _ _ => n
def var : Ty → Int | .mk _ _ v _ => v
def args : Ty → List Ty | .mk _ _ _ l => l
end Ty
mutual
def tyD : Ty → D
  | .mk k n v l => .agg [.int .i64 k, .str n, .int .i64 v, .sl (tyDs l)]
def tyDs : List Ty → List D
  | [] => []
  | a :: r => tyD a :: tyDs r
end
theorem tyDs_map : ∀ l : List Ty, tyDs l = l.map tyD
  | [] => rfl
  | a :: r => by rw [tyDs, List.map_cons, tyDs_map r]
theorem tyD_eq (t : Ty) : tyD t = .agg [.int .i64 t.kind, .str t.name, .int .i64 t.var, .sl (t.args.map tyD)] := by
  cases t with
  | mk k n v l => rw [tyD, tyDs_map]; rfl
/-- A type's four values, and what they are good for. -/
structure TyC (w : World) (F : Nat → Prop) (t : Ty) (av : Value) : Prop where
  kind : (Lit.int .i64 t.kind).wf = true
  name : t.name.size ≤ maxLen
  var : (Lit.int .i64 t.var).wf = true
  args : Sl w F tyD t.args av
def Ty.cells (t : Ty) (av : Value) : List Value := [.int .i64 t.kind, .string t.name, .int .i64 t.var, av]
theorem tyD.rp {w : World} {F : Nat → Prop} {t : Ty} {cs : List Value} : Rp w F (tyD t) cs ↔ ∃ av, cs = t.cells av ∧ TyC w F t av := by
  rw [tyD_eq, rp_agg]; simp only [rpAll_cons, rpAll_nil, rp_int, rp_str]
  constructor
  · rintro ⟨_, _, rfl, ⟨rfl, h0⟩, _, _, rfl, ⟨rfl, h1⟩, _, _, rfl, ⟨rfl, h2⟩, cs, _, rfl, h3, rfl⟩
    obtain ⟨v, rfl⟩ := rp_sl_one h3
    exact ⟨v, by simp [Ty.cells], h0, h1, h2, h3⟩
  · rintro ⟨v, rfl, h0, h1, h2, h3⟩
    exact ⟨[_], _, rfl, ⟨rfl, h0⟩, [_], _, rfl, ⟨rfl, h1⟩, [_], _, rfl, ⟨rfl, h2⟩, [_], [], rfl, h3, rfl⟩
theorem tyD.wide : Wide tyD 4 := fun w F x cs h => by
  rw [tyD.rp] at h
  obtain ⟨v, rfl, _⟩ := h
  rfl
section
variable {w w' : World} {F G : Nat → Prop} {t : Ty} {av : Value}
theorem TyC.mono (h : TyC w F t av) (hF : ∀ b, F b → G b) : TyC w G t av := ⟨h.kind, h.name, h.var, h.args.mono hF⟩
theorem TyC.later (h : TyC w F t av) (hb : Below w.heap.size w w') : TyC w' F t av := ⟨h.kind, h.name, h.var, h.args.later hb⟩
theorem TyC.below {B : Nat} (h : TyC w F t av) (hF : ∀ b, F b → b < B) (hb : Below B w w') : TyC w' F t av := ⟨h.kind, h.name, h.var, h.args.below hF hb⟩
theorem TyC.keeps {X : Nat → Prop} (h : TyC w F t av) (hk : Keeps X w w') (hF : ∀ i, F i → ¬ X i) : TyC w' F t av := ⟨h.kind, h.name, h.var, h.args.keeps hk hF⟩
theorem TyC.form (h : TyC w F t av) : ∃ A c, av = .slice A t.args.length c ∧ t.args.length ≤ c ∧ c ≤ maxLen ∧ (A = none → c = 0) := h.args.form
/-- The argument at an index. -/
theorem tyD.get {l : List Ty} {A : Option Addr} {n c : Nat} (h : Sl w F tyD l (.slice A n c)) {i : Nat} (hi : i < l.length) :
    ∃ (g off : Nat) (v : Value), A = some ⟨g, off, none⟩ ∧ F g ∧ w.cell? ⟨g, off + i * 4, none⟩ = some (.int .i64 l[i].kind) ∧ w.cell? ⟨g, off + i * 4 + 1, none⟩ = some (.string l[i].name) ∧
      w.cell? ⟨g, off + i * 4 + 2, none⟩ = some (.int .i64 l[i].var) ∧ w.cell? ⟨g, off + i * 4 + 3, none⟩ = some v ∧ TyC w F l[i] v := by
  obtain ⟨g, off, cs, hA, hg, hr, _, hc⟩ := Sl.get h tyD.wide hi
  rw [tyD.rp] at hr
  obtain ⟨v, rfl, h1⟩ := hr
  exact ⟨g, off, v, hA, hg, hc 0 _ rfl, hc 1 _ rfl, hc 2 _ rfl, hc 3 _ rfl, h1⟩
end

/-! ### From the model's own readings -/
section
variable {H : Type} {enc : TypeId × Value → H} {P : Program} {w : World} {base : Nat} {sp : Nat → Bool} {held : Bool}
/-- As sl_of_trod, the elements' readings at less fuel alone. -/
theorem sl_of_trod_lt {α : Type} {f : α → D} {k : Nat} {t e : TypeId} (ht : P.underlying t = some (.slice e)) (hk : P.cellsOf e = k) (h0 : 0 < k) {n : Nat}
    (he : ∀ m, m < n → ∀ cs y, DataW.trod enc P w base sp held m e cs = some y → ∃ x : α, Rp w (· < w.heap.size) (f x) cs)
    {cs : List Value} {y : DataW H × List MemPlace} (h : DataW.trod enc P w base sp held n t cs = some y) : ∃ l : List α, Rp w (· < w.heap.size) (.sl (l.map f)) cs := by
  rcases DataW.trod_slice ht h with ⟨rfl, _⟩ | ⟨a, len, cap, elems, rest, n', hn, rfl, _, _, hlen, hcap, hel, hi0, _⟩
  · exact ⟨[], Sl.nil_⟩
  · have hi : ∀ i, i < len → ∃ cs' z, w.cells? base (a.add (i * P.cellsOf e)) (P.cellsOf e) = some cs' ∧ DataW.trod enc P w base sp held n' e cs' = some z := by
      intro i hil
      have := hi0 i hil
      rw [List.getElem?_eq_getElem (by omega)] at this
      obtain ⟨cs', h1, h2⟩ := Option.bind_eq_some_iff.1 this
      exact ⟨cs', _, h1, h2⟩
    have step : ∀ j, j ≤ len → ∃ (l : List α) (xs : List Value), l.length = j ∧ RpAll w (· < w.heap.size) (l.map f) xs ∧ xs.length = j * k ∧ ∀ i u, xs[i]? = some u → w.cell? (a.add i) = some u := by
      intro j
      induction j with
      | zero => intro _; exact ⟨[], [], rfl, by simp [RpAll], by simp, by simp⟩
      | succ j ih =>
        intro hj
        obtain ⟨l, xs, h1, h2, h3, h4⟩ := ih (by omega)
        obtain ⟨cs', z, hc, ht'⟩ := hi j (by omega)
        obtain ⟨_, hcl, hat⟩ := World.cells?_some hc
        obtain ⟨x, hx⟩ := he n' (by omega) _ _ ht'
        rw [hk] at hcl hat
        refine ⟨l ++ [x], xs ++ cs', by simp [h1], ?_, by rw [List.length_append, h3, hcl, Nat.succ_mul], fun i u hu => ?_⟩
        · rw [List.map_append]; exact RpAll.append h2 (RpAll.one hx)
        · rcases Nat.lt_or_ge i xs.length with hl | hl
          · rw [List.getElem?_append_left hl] at hu; exact h4 i u hu
          · rw [List.getElem?_append_right hl] at hu
            have hlt := (List.getElem?_eq_some_iff.1 hu).1
            have := hat (i - xs.length) (by omega)
            rw [hu, Go.Deep.add_add, h3] at this
            rw [← this]; congr 2; omega
    obtain ⟨l, xs, h1, h2, h3, h4⟩ := step len (Nat.le_refl _)
    refine ⟨l, ?_⟩
    simp only [Rp, List.length_map, h1]
    by_cases hz : l = []
    · subst hz
      exact ⟨some a, cap, rfl, by simp at h1; omega, hcap, (fun h => nomatch h), fun h => absurd rfl h⟩
    · have hpos : 0 < xs.length := by
        rw [h3]
        have : 0 < len := by rw [← h1]; exact List.length_pos_iff.2 hz
        exact Nat.mul_pos this h0
      obtain ⟨u, hu⟩ : ∃ u, xs[0]? = some u := ⟨xs[0], List.getElem?_eq_getElem hpos⟩
      have hc0 := h4 0 u hu
      have hsp : a.spot = none := by simpa [Addr.add] using World.cell?_spot hc0
      obtain ⟨g, off, spot⟩ := a
      simp only at hsp
      subst hsp
      refine ⟨some ⟨g, off, none⟩, cap, rfl, hlen, hcap, (fun h => nomatch h), fun _ => ⟨g, off, xs, rfl, ?_, h2, fun j u hj => by rw [← Go.WideShapes.add_plain]; exact h4 j u hj⟩⟩
      exact block_lt_of_cell (a := ⟨g, off, none⟩) (by simpa [Addr.add] using hc0)
end
theorem tyD.of_trod {H : Type} {enc : TypeId × Value → H} {w : World} {base : Nat} {sp : Nat → Bool} {held : Bool} : ∀ (n : Nat) {cs : List Value} {y : DataW H × List MemPlace}, DataW.trod enc Tryd.prog w base sp held n 24 cs = some y → ∃ x : Ty, Rp w (· < w.heap.size) (tyD x) cs := by
  intro n
  induction n using Nat.strongRecOn with
  | _ n ih =>
  intro cs y h
  obtain ⟨xs, m, rfl, rfl, hlen, hxl, hf⟩ := DataW.trod_struct Tryd.underlying24 h
  have hc : Tryd.prog.cellsOf 24 = 4 := by kernel_rfl
  rw [hc] at hlen
  obtain ⟨c0, ct0, rfl, lc0⟩ := uncons hlen
  obtain ⟨c1, ct1, rfl, lc1⟩ := uncons lc0
  obtain ⟨c2, ct2, rfl, lc2⟩ := uncons lc1
  obtain ⟨c3, ct3, rfl, lc3⟩ := uncons lc2
  obtain rfl := List.eq_nil_of_length_eq_zero lc3
  obtain ⟨y0, yt0, rfl, ly0⟩ := uncons hxl
  obtain ⟨y1, yt1, rfl, ly1⟩ := uncons ly0
  obtain ⟨y2, yt2, rfl, ly2⟩ := uncons ly1
  obtain ⟨y3, yt3, rfl, ly3⟩ := uncons ly2
  obtain rfl := List.eq_nil_of_length_eq_zero ly3
  have e0 : DataW.trod enc Tryd.prog w base sp held m 3 [c0] = some y0 := by have := hf 0 _ rfl; simpa [show Tryd.prog.cellsOf 3 = 1 from by kernel_rfl] using this
  obtain ⟨z0, q0, _, u0⟩ := DataW.trod_int Tryd.underlying3 e0
  have e1 : DataW.trod enc Tryd.prog w base sp held m 9 [c1] = some y1 := by have := hf 1 _ rfl; simpa [show Tryd.prog.cellsOf 9 = 1 from by kernel_rfl] using this
  obtain ⟨z1, q1, _, u1⟩ := DataW.trod_string Tryd.underlying9 e1
  have e2 : DataW.trod enc Tryd.prog w base sp held m 3 [c2] = some y2 := by have := hf 2 _ rfl; simpa [show Tryd.prog.cellsOf 3 = 1 from by kernel_rfl] using this
  obtain ⟨z2, q2, _, u2⟩ := DataW.trod_int Tryd.underlying3 e2
  have e3 : DataW.trod enc Tryd.prog w base sp held m 22 [c3] = some y3 := by have := hf 3 _ rfl; simpa [show Tryd.prog.cellsOf 22 = 1 from by kernel_rfl] using this
  obtain ⟨l, hl⟩ := sl_of_trod_lt (f := tyD) (k := 4) Tryd.underlying22 hc (by decide) (fun k hk cs y hy => ih k (by omega) hy) e3
  simp only [List.cons.injEq, and_true] at q0; subst q0
  simp only [List.cons.injEq, and_true] at q1; subst q1
  simp only [List.cons.injEq, and_true] at q2; subst q2
  exact ⟨.mk z0 z1 z2 l, tyD.rp.2 ⟨c3, rfl, u0, u1, u2, hl⟩⟩
end Go.Proofs.YthchnabhbpdfgaaDoor
