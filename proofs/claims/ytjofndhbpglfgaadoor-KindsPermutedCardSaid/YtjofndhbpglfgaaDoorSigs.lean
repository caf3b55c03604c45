/- The signatures of kinds and data types, in memory. No conditions. -/
import Derived.Test.YtjofndhbpglfgaaDoorTy
namespace Go.Proofs.YtjofndhbpglfgaaDoor
open Go.RowKit Go.ChangeShapes Go.WideShapes

structure ConSig where
  name : ByteArray
  args : List Ty
def ConSig.d (x : ConSig) : D := .agg [.str x.name, .sl (x.args.map tyD)]
theorem ConSig.rp {w : World} {F : Nat → Prop} {x : ConSig} {cs : List Value} : Rp w F x.d cs ↔ ∃ (v1 : Value), cs = [.string x.name, v1] ∧ x.name.size ≤ maxLen ∧ Sl w F tyD x.args v1
    := by
  unfold ConSig.d; rw [rp_agg]; simp only [rpAll_cons, rpAll_nil, rp_str]
  constructor
  · rintro ⟨_, _, rfl, ⟨rfl, h0⟩, a1, _, rfl, h1, rfl⟩
    obtain ⟨v1, rfl⟩ := rp_sl_one h1
    exact ⟨v1, by simp, h0, h1⟩
  · rintro ⟨v1, rfl, h0, h1⟩
    exact ⟨[_], _, rfl, ⟨rfl, h0⟩, [_], _, rfl, h1, rfl⟩
theorem ConSig.wide : Wide ConSig.d 2 := fun w F x cs h => by
  rw [ConSig.rp] at h
  obtain ⟨v1, rfl, h0, h1⟩ := h
  rfl
theorem ConSig.get {w : World} {F : Nat → Prop} {l : List ConSig} {A : Option Addr} {n c : Nat} (h : Sl w F ConSig.d l (.slice A n c)) {i : Nat} (hi : i < l.length) :
    ∃ (g off : Nat) (v1 : Value), A = some ⟨g, off, none⟩ ∧ F g ∧ w.cell? ⟨g, off + i * 2, none⟩ = some (.string l[i].name) ∧ w.cell? ⟨g, off + i * 2 + 1, none⟩ = some (v1) ∧ l[i].name.size ≤ maxLen ∧ Sl w F tyD l[i].args v1 := by
  obtain ⟨g, off, cs, hA, hg, hr, _, hc⟩ := Sl.get h ConSig.wide hi
  rw [ConSig.rp] at hr
  obtain ⟨v1, rfl, h0, h1⟩ := hr
  exact ⟨g, off, v1, hA, hg, hc 0 _ rfl, hc 1 _ rfl, h0, h1⟩
theorem ConSig.of_trod {H : Type} {enc : TypeId × Value → H} {w : World} {base : Nat} {sp : Nat → Bool} {held : Bool} {n : Nat} {cs : List Value} {y : DataW H × List MemPlace} (h : DataW.trod enc Tryd.prog w base sp held n 80 cs = some y) : ∃ x : ConSig, Rp w (· < w.heap.size) x.d cs := by
  obtain ⟨xs, n, rfl, rfl, hlen, hxl, hf⟩ := DataW.trod_struct Tryd.underlying80 h
  have hc : Tryd.prog.cellsOf 80 = 2 := by kernel_rfl
  rw [hc] at hlen
  obtain ⟨c0, ct0, rfl, lc0⟩ := uncons hlen
  obtain ⟨c1, ct1, rfl, lc1⟩ := uncons lc0
  obtain rfl := List.eq_nil_of_length_eq_zero lc1
  obtain ⟨y0, yt0, rfl, ly0⟩ := uncons hxl
  obtain ⟨y1, yt1, rfl, ly1⟩ := uncons ly0
  obtain rfl := List.eq_nil_of_length_eq_zero ly1
  have e0 : DataW.trod enc Tryd.prog w base sp held n 9 [c0] = some y0 := by have := hf 0 _ rfl; simpa [show Tryd.prog.cellsOf 9 = 1 from by kernel_rfl] using this
  obtain ⟨z0, q0, _, u0⟩ := DataW.trod_string Tryd.underlying9 e0
  have e1 : DataW.trod enc Tryd.prog w base sp held n 43 [c1] = some y1 := by have := hf 1 _ rfl; simpa [show Tryd.prog.cellsOf 43 = 1 from by kernel_rfl] using this
  obtain ⟨z1, u1⟩ := sl_of_trod (f := tyD) (k := 4) Tryd.underlying43 (by kernel_rfl) (by decide) (fun _ _ _ h => tyD.of_trod _ h) e1
  simp only [List.cons.injEq, and_true] at q0; subst q0
  exact ⟨⟨z0, z1⟩, ConSig.rp.2 ⟨_, rfl, u0, u1⟩⟩

structure DataSig where
  name : ByteArray
  params : Int
  cons : List ConSig
def DataSig.d (x : DataSig) : D := .agg [.str x.name, .int .i64 x.params, .sl (x.cons.map ConSig.d)]
theorem DataSig.rp {w : World} {F : Nat → Prop} {x : DataSig} {cs : List Value} : Rp w F x.d cs ↔ ∃ (v2 : Value), cs = [.string x.name, .int .i64 x.params, v2] ∧ x.name.size ≤ maxLen ∧ (Lit.int .i64 x.params).wf = true ∧ Sl w F ConSig.d x.cons v2
    := by
  unfold DataSig.d; rw [rp_agg]; simp only [rpAll_cons, rpAll_nil, rp_int, rp_str]
  constructor
  · rintro ⟨_, _, rfl, ⟨rfl, h0⟩, _, _, rfl, ⟨rfl, h1⟩, a2, _, rfl, h2, rfl⟩
    obtain ⟨v2, rfl⟩ := rp_sl_one h2
    exact ⟨v2, by simp, h0, h1, h2⟩
  · rintro ⟨v2, rfl, h0, h1, h2⟩
    exact ⟨[_], _, rfl, ⟨rfl, h0⟩, [_], _, rfl, ⟨rfl, h1⟩, [_], _, rfl, h2, rfl⟩
theorem DataSig.wide : Wide DataSig.d 3 := fun w F x cs h => by
  rw [DataSig.rp] at h
  obtain ⟨v2, rfl, h0, h1, h2⟩ := h
  rfl
theorem DataSig.get {w : World} {F : Nat → Prop} {l : List DataSig} {A : Option Addr} {n c : Nat} (h : Sl w F DataSig.d l (.slice A n c)) {i : Nat} (hi : i < l.length) :
    ∃ (g off : Nat) (v2 : Value), A = some ⟨g, off, none⟩ ∧ F g ∧ w.cell? ⟨g, off + i * 3, none⟩ = some (.string l[i].name) ∧ w.cell? ⟨g, off + i * 3 + 1, none⟩ = some (.int .i64 l[i].params) ∧ w.cell? ⟨g, off + i * 3 + 2, none⟩ = some (v2) ∧ l[i].name.size ≤ maxLen ∧ (Lit.int .i64 l[i].params).wf = true ∧ Sl w F ConSig.d l[i].cons v2 := by
  obtain ⟨g, off, cs, hA, hg, hr, _, hc⟩ := Sl.get h DataSig.wide hi
  rw [DataSig.rp] at hr
  obtain ⟨v2, rfl, h0, h1, h2⟩ := hr
  exact ⟨g, off, v2, hA, hg, hc 0 _ rfl, hc 1 _ rfl, hc 2 _ rfl, h0, h1, h2⟩
theorem DataSig.of_trod {H : Type} {enc : TypeId × Value → H} {w : World} {base : Nat} {sp : Nat → Bool} {held : Bool} {n : Nat} {cs : List Value} {y : DataW H × List MemPlace} (h : DataW.trod enc Tryd.prog w base sp held n 32 cs = some y) : ∃ x : DataSig, Rp w (· < w.heap.size) x.d cs := by
  obtain ⟨xs, n, rfl, rfl, hlen, hxl, hf⟩ := DataW.trod_struct Tryd.underlying32 h
  have hc : Tryd.prog.cellsOf 32 = 3 := by kernel_rfl
  rw [hc] at hlen
  obtain ⟨c0, ct0, rfl, lc0⟩ := uncons hlen
  obtain ⟨c1, ct1, rfl, lc1⟩ := uncons lc0
  obtain ⟨c2, ct2, rfl, lc2⟩ := uncons lc1
  obtain rfl := List.eq_nil_of_length_eq_zero lc2
  obtain ⟨y0, yt0, rfl, ly0⟩ := uncons hxl
  obtain ⟨y1, yt1, rfl, ly1⟩ := uncons ly0
  obtain ⟨y2, yt2, rfl, ly2⟩ := uncons ly1
  obtain rfl := List.eq_nil_of_length_eq_zero ly2
  have e0 : DataW.trod enc Tryd.prog w base sp held n 9 [c0] = some y0 := by have := hf 0 _ rfl; simpa [show Tryd.prog.cellsOf 9 = 1 from by kernel_rfl] using this
  obtain ⟨z0, q0, _, u0⟩ := DataW.trod_string Tryd.underlying9 e0
  have e1 : DataW.trod enc Tryd.prog w base sp held n 3 [c1] = some y1 := by have := hf 1 _ rfl; simpa [show Tryd.prog.cellsOf 3 = 1 from by kernel_rfl] using this
  obtain ⟨z1, q1, _, u1⟩ := DataW.trod_int Tryd.underlying3 e1
  have e2 : DataW.trod enc Tryd.prog w base sp held n 30 [c2] = some y2 := by have := hf 2 _ rfl; simpa [show Tryd.prog.cellsOf 30 = 1 from by kernel_rfl] using this
  obtain ⟨z2, u2⟩ := sl_of_trod (f := ConSig.d) (k := 2) Tryd.underlying30 (by kernel_rfl) (by decide) (fun _ _ _ h => ConSig.of_trod h) e2
  simp only [List.cons.injEq, and_true] at q0; subst q0
  simp only [List.cons.injEq, and_true] at q1; subst q1
  exact ⟨⟨z0, z1, z2⟩, DataSig.rp.2 ⟨_, rfl, u0, u1, u2⟩⟩

structure KindSig where
  name : ByteArray
  params : List Int
def KindSig.d (x : KindSig) : D := .agg [.str x.name, .sl (x.params.map dInt)]
theorem KindSig.rp {w : World} {F : Nat → Prop} {x : KindSig} {cs : List Value} : Rp w F x.d cs ↔ ∃ (v1 : Value), cs = [.string x.name, v1] ∧ x.name.size ≤ maxLen ∧ Sl w F dInt x.params v1
    := by
  unfold KindSig.d; rw [rp_agg]; simp only [rpAll_cons, rpAll_nil, rp_str]
  constructor
  · rintro ⟨_, _, rfl, ⟨rfl, h0⟩, a1, _, rfl, h1, rfl⟩
    obtain ⟨v1, rfl⟩ := rp_sl_one h1
    exact ⟨v1, by simp, h0, h1⟩
  · rintro ⟨v1, rfl, h0, h1⟩
    exact ⟨[_], _, rfl, ⟨rfl, h0⟩, [_], _, rfl, h1, rfl⟩
theorem KindSig.wide : Wide KindSig.d 2 := fun w F x cs h => by
  rw [KindSig.rp] at h
  obtain ⟨v1, rfl, h0, h1⟩ := h
  rfl
theorem KindSig.get {w : World} {F : Nat → Prop} {l : List KindSig} {A : Option Addr} {n c : Nat} (h : Sl w F KindSig.d l (.slice A n c)) {i : Nat} (hi : i < l.length) :
    ∃ (g off : Nat) (v1 : Value), A = some ⟨g, off, none⟩ ∧ F g ∧ w.cell? ⟨g, off + i * 2, none⟩ = some (.string l[i].name) ∧ w.cell? ⟨g, off + i * 2 + 1, none⟩ = some (v1) ∧ l[i].name.size ≤ maxLen ∧ Sl w F dInt l[i].params v1 := by
  obtain ⟨g, off, cs, hA, hg, hr, _, hc⟩ := Sl.get h KindSig.wide hi
  rw [KindSig.rp] at hr
  obtain ⟨v1, rfl, h0, h1⟩ := hr
  exact ⟨g, off, v1, hA, hg, hc 0 _ rfl, hc 1 _ rfl, h0, h1⟩
theorem KindSig.of_trod {H : Type} {enc : TypeId × Value → H} {w : World} {base : Nat} {sp : Nat → Bool} {held : Bool} {n : Nat} {cs : List Value} {y : DataW H × List MemPlace} (h : DataW.trod enc Tryd.prog w base sp held n 29 cs = some y) : ∃ x : KindSig, Rp w (· < w.heap.size) x.d cs := by
  obtain ⟨xs, n, rfl, rfl, hlen, hxl, hf⟩ := DataW.trod_struct Tryd.underlying29 h
  have hc : Tryd.prog.cellsOf 29 = 2 := by kernel_rfl
  rw [hc] at hlen
  obtain ⟨c0, ct0, rfl, lc0⟩ := uncons hlen
  obtain ⟨c1, ct1, rfl, lc1⟩ := uncons lc0
  obtain rfl := List.eq_nil_of_length_eq_zero lc1
  obtain ⟨y0, yt0, rfl, ly0⟩ := uncons hxl
  obtain ⟨y1, yt1, rfl, ly1⟩ := uncons ly0
  obtain rfl := List.eq_nil_of_length_eq_zero ly1
  have e0 : DataW.trod enc Tryd.prog w base sp held n 9 [c0] = some y0 := by have := hf 0 _ rfl; simpa [show Tryd.prog.cellsOf 9 = 1 from by kernel_rfl] using this
  obtain ⟨z0, q0, _, u0⟩ := DataW.trod_string Tryd.underlying9 e0
  have e1 : DataW.trod enc Tryd.prog w base sp held n 27 [c1] = some y1 := by have := hf 1 _ rfl; simpa [show Tryd.prog.cellsOf 27 = 1 from by kernel_rfl] using this
  obtain ⟨z1, u1⟩ := sl_of_trod (f := dInt) (k := 1) Tryd.underlying27 (by kernel_rfl) (by decide) (fun _ _ _ h => dInt.of_trod Tryd.underlying3 h) e1
  simp only [List.cons.injEq, and_true] at q0; subst q0
  exact ⟨⟨z0, z1⟩, KindSig.rp.2 ⟨_, rfl, u0, u1⟩⟩

end Go.Proofs.YtjofndhbpglfgaaDoor
