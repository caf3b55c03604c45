/- The parts of an interface, in memory. No conditions. -/
import Derived.Test.YtcbkihplchdhhaaDoorTy
namespace Go.Proofs.YtcbkihplchdhhaaDoor
open Go.RowKit Go.ChangeShapes Go.WideShapes

structure ConSig where
  name : ByteArray
  args : List Ty
def ConSig.d (x : ConSig) : D := .agg [.str x.name, .sl (x.args.map tyD)]
theorem ConSig.rp {w : World} {F : Nat → Prop} {x : ConSig} {cs : List Value} : Rp w F x.d cs ↔ ∃ (v1 : Value), cs = [.string x.name, v1] ∧ x.name.size ≤ maxLen ∧ Sl w F tyD x.args v1
    := by
  unfold ConSig.d; rw [rp_agg]; simp only [rpAll_cons, rpAll_nil, rp_str]
  constructor
  · rintro ⟨_, _, rfl, ⟨rfl, h0⟩, a1, _, rfl, h1, rfl⟩
    obtain ⟨v1, rfl⟩ := rp_sl_one h1
    exact ⟨v1, by simp, h0, h1⟩
  · rintro ⟨v1, rfl, h0, h1⟩
    exact ⟨[_], _, rfl, ⟨rfl, h0⟩, [_], _, rfl, h1, rfl⟩
theorem ConSig.wide : Wide ConSig.d 2 := fun w F x cs h => by
  rw [ConSig.rp] at h
  obtain ⟨v1, rfl, h0, h1⟩ := h
  rfl
theorem ConSig.get {w : World} {F : Nat → Prop} {l : List ConSig} {A : Option Addr} {n c : Nat} (h : Sl w F ConSig.d l (.slice A n c)) {i : Nat} (hi : i < l.length) :
    ∃ (g off : Nat) (v1 : Value), A = some ⟨g, off, none⟩ ∧ F g ∧ w.cell? ⟨g, off + i * 2, none⟩ = some (.string l[i].name) ∧ w.cell? ⟨g, off + i * 2 + 1, none⟩ = some (v1) ∧ l[i].name.size ≤ maxLen ∧ Sl w F tyD l[i].args v1 := by
  obtain ⟨g, off, cs, hA, hg, hr, _, hc⟩ := Sl.get h ConSig.wide hi
  rw [ConSig.rp] at hr
  obtain ⟨v1, rfl, h0, h1⟩ := hr
  exact ⟨g, off, v1, hA, hg, hc 0 _ rfl, hc 1 _ rfl, h0, h1⟩

structure DataSig where
  name : ByteArray
  params : Int
  cons : List ConSig
def DataSig.d (x : DataSig) : D := .agg [.str x.name, .int .i64 x.params, .sl (x.cons.map ConSig.d)]
theorem DataSig.rp {w : World} {F : Nat → Prop} {x : DataSig} {cs : List Value} : Rp w F x.d cs ↔ ∃ (v2 : Value), cs = [.string x.name, .int .i64 x.params, v2] ∧ x.name.size ≤ maxLen ∧ (Lit.int .i64 x.params).wf = true ∧ Sl w F ConSig.d x.cons v2
    := by
  unfold DataSig.d; rw [rp_agg]; simp only [rpAll_cons, rpAll_nil, rp_int, rp_str]
  constructor
  · rintro ⟨_, _, rfl, ⟨rfl, h0⟩, _, _, rfl, ⟨rfl, h1⟩, a2, _, rfl, h2, rfl⟩
    obtain ⟨v2, rfl⟩ := rp_sl_one h2
    exact ⟨v2, by simp, h0, h1, h2⟩
  · rintro ⟨v2, rfl, h0, h1, h2⟩
    exact ⟨[_], _, rfl, ⟨rfl, h0⟩, [_], _, rfl, ⟨rfl, h1⟩, [_], _, rfl, h2, rfl⟩
theorem DataSig.wide : Wide DataSig.d 3 := fun w F x cs h => by
  rw [DataSig.rp] at h
  obtain ⟨v2, rfl, h0, h1, h2⟩ := h
  rfl
theorem DataSig.get {w : World} {F : Nat → Prop} {l : List DataSig} {A : Option Addr} {n c : Nat} (h : Sl w F DataSig.d l (.slice A n c)) {i : Nat} (hi : i < l.length) :
    ∃ (g off : Nat) (v2 : Value), A = some ⟨g, off, none⟩ ∧ F g ∧ w.cell? ⟨g, off + i * 3, none⟩ = some (.string l[i].name) ∧ w.cell? ⟨g, off + i * 3 + 1, none⟩ = some (.int .i64 l[i].params) ∧ w.cell? ⟨g, off + i * 3 + 2, none⟩ = some (v2) ∧ l[i].name.size ≤ maxLen ∧ (Lit.int .i64 l[i].params).wf = true ∧ Sl w F ConSig.d l[i].cons v2 := by
  obtain ⟨g, off, cs, hA, hg, hr, _, hc⟩ := Sl.get h DataSig.wide hi
  rw [DataSig.rp] at hr
  obtain ⟨v2, rfl, h0, h1, h2⟩ := hr
  exact ⟨g, off, v2, hA, hg, hc 0 _ rfl, hc 1 _ rfl, hc 2 _ rfl, h0, h1, h2⟩

structure FixSig where
  op : ByteArray
  side : Int
  level : Int
def FixSig.d (x : FixSig) : D := .agg [.str x.op, .int .i64 x.side, .int .i64 x.level]
theorem FixSig.rp {w : World} {F : Nat → Prop} {x : FixSig} {cs : List Value} : Rp w F x.d cs ↔ cs = [.string x.op, .int .i64 x.side, .int .i64 x.level] ∧ x.op.size ≤ maxLen ∧ (Lit.int .i64 x.side).wf = true ∧ (Lit.int .i64 x.level).wf = true
    := by
  unfold FixSig.d; rw [rp_agg]; simp only [rpAll_cons, rpAll_nil, rp_int, rp_str]
  constructor
  · rintro ⟨_, _, rfl, ⟨rfl, h0⟩, _, _, rfl, ⟨rfl, h1⟩, _, _, rfl, ⟨rfl, h2⟩, rfl⟩
    exact ⟨by simp, h0, h1, h2⟩
  · rintro ⟨rfl, h0, h1, h2⟩
    exact ⟨[_], _, rfl, ⟨rfl, h0⟩, [_], _, rfl, ⟨rfl, h1⟩, [_], _, rfl, ⟨rfl, h2⟩, rfl⟩
theorem FixSig.wide : Wide FixSig.d 3 := fun w F x cs h => by
  rw [FixSig.rp] at h
  obtain ⟨rfl, h0, h1, h2⟩ := h
  rfl
theorem FixSig.get {w : World} {F : Nat → Prop} {l : List FixSig} {A : Option Addr} {n c : Nat} (h : Sl w F FixSig.d l (.slice A n c)) {i : Nat} (hi : i < l.length) :
    ∃ (g off : Nat) , A = some ⟨g, off, none⟩ ∧ F g ∧ w.cell? ⟨g, off + i * 3, none⟩ = some (.string l[i].op) ∧ w.cell? ⟨g, off + i * 3 + 1, none⟩ = some (.int .i64 l[i].side) ∧ w.cell? ⟨g, off + i * 3 + 2, none⟩ = some (.int .i64 l[i].level) ∧ l[i].op.size ≤ maxLen ∧ (Lit.int .i64 l[i].side).wf = true ∧ (Lit.int .i64 l[i].level).wf = true := by
  obtain ⟨g, off, cs, hA, hg, hr, _, hc⟩ := Sl.get h FixSig.wide hi
  rw [FixSig.rp] at hr
  obtain ⟨rfl, h0, h1, h2⟩ := hr
  exact ⟨g, off, hA, hg, hc 0 _ rfl, hc 1 _ rfl, hc 2 _ rfl, h0, h1, h2⟩

structure Pred where
  cls : ByteArray
  ty : Ty
def Pred.d (x : Pred) : D := .agg [.str x.cls, tyD x.ty]
theorem Pred.rp {w : World} {F : Nat → Prop} {x : Pred} {cs : List Value} : Rp w F x.d cs ↔ ∃ (v1 : Value), cs = [.string x.cls, .int .i64 x.ty.kind, .string x.ty.name, .int .i64 x.ty.var, v1] ∧ x.cls.size ≤ maxLen ∧ TyC w F x.ty v1
    := by
  unfold Pred.d; rw [rp_agg]; simp only [rpAll_cons, rpAll_nil, rp_str]
  constructor
  · rintro ⟨_, _, rfl, ⟨rfl, h0⟩, a1, _, rfl, g1, rfl⟩
    obtain ⟨v1, rfl, h1⟩ := tyD.rp.1 g1
    exact ⟨v1, by simp [Ty.cells], h0, h1⟩
  · rintro ⟨v1, rfl, h0, h1⟩
    exact ⟨[_], _, rfl, ⟨rfl, h0⟩, _, _, rfl, tyD.rp.2 ⟨_, rfl, h1⟩, rfl⟩
theorem Pred.wide : Wide Pred.d 5 := fun w F x cs h => by
  rw [Pred.rp] at h
  obtain ⟨v1, rfl, h0, h1⟩ := h
  rfl
theorem Pred.get {w : World} {F : Nat → Prop} {l : List Pred} {A : Option Addr} {n c : Nat} (h : Sl w F Pred.d l (.slice A n c)) {i : Nat} (hi : i < l.length) :
    ∃ (g off : Nat) (v1 : Value), A = some ⟨g, off, none⟩ ∧ F g ∧ w.cell? ⟨g, off + i * 5, none⟩ = some (.string l[i].cls) ∧ w.cell? ⟨g, off + i * 5 + 1, none⟩ = some (.int .i64 l[i].ty.kind) ∧ w.cell? ⟨g, off + i * 5 + 2, none⟩ = some (.string l[i].ty.name) ∧ w.cell? ⟨g, off + i * 5 + 3, none⟩ = some (.int .i64 l[i].ty.var) ∧ w.cell? ⟨g, off + i * 5 + 4, none⟩ = some (v1) ∧ l[i].cls.size ≤ maxLen ∧ TyC w F l[i].ty v1 := by
  obtain ⟨g, off, cs, hA, hg, hr, _, hc⟩ := Sl.get h Pred.wide hi
  rw [Pred.rp] at hr
  obtain ⟨v1, rfl, h0, h1⟩ := hr
  exact ⟨g, off, v1, hA, hg, hc 0 _ rfl, hc 1 _ rfl, hc 2 _ rfl, hc 3 _ rfl, hc 4 _ rfl, h0, h1⟩

structure ValSig where
  name : ByteArray
  vars : Int
  preds : List Pred
  ty : Ty
def ValSig.d (x : ValSig) : D := .agg [.str x.name, .int .i64 x.vars, .sl (x.preds.map Pred.d), tyD x.ty]
theorem ValSig.rp {w : World} {F : Nat → Prop} {x : ValSig} {cs : List Value} : Rp w F x.d cs ↔ ∃ (v2 : Value) (v3 : Value), cs = [.string x.name, .int .i64 x.vars, v2, .int .i64 x.ty.kind, .string x.ty.name, .int .i64 x.ty.var, v3] ∧ x.name.size ≤ maxLen ∧ (Lit.int .i64 x.vars).wf = true ∧ Sl w F Pred.d x.preds v2 ∧ TyC w F x.ty v3
    := by
  unfold ValSig.d; rw [rp_agg]; simp only [rpAll_cons, rpAll_nil, rp_int, rp_str]
  constructor
  · rintro ⟨_, _, rfl, ⟨rfl, h0⟩, _, _, rfl, ⟨rfl, h1⟩, a2, _, rfl, h2, a3, _, rfl, g3, rfl⟩
    obtain ⟨v2, rfl⟩ := rp_sl_one h2
    obtain ⟨v3, rfl, h3⟩ := tyD.rp.1 g3
    exact ⟨v2, v3, by simp [Ty.cells], h0, h1, h2, h3⟩
  · rintro ⟨v2, v3, rfl, h0, h1, h2, h3⟩
    exact ⟨[_], _, rfl, ⟨rfl, h0⟩, [_], _, rfl, ⟨rfl, h1⟩, [_], _, rfl, h2, _, _, rfl, tyD.rp.2 ⟨_, rfl, h3⟩, rfl⟩
theorem ValSig.wide : Wide ValSig.d 7 := fun w F x cs h => by
  rw [ValSig.rp] at h
  obtain ⟨v2, v3, rfl, h0, h1, h2, h3⟩ := h
  rfl
theorem ValSig.get {w : World} {F : Nat → Prop} {l : List ValSig} {A : Option Addr} {n c : Nat} (h : Sl w F ValSig.d l (.slice A n c)) {i : Nat} (hi : i < l.length) :
    ∃ (g off : Nat) (v2 : Value) (v3 : Value), A = some ⟨g, off, none⟩ ∧ F g ∧ w.cell? ⟨g, off + i * 7, none⟩ = some (.string l[i].name) ∧ w.cell? ⟨g, off + i * 7 + 1, none⟩ = some (.int .i64 l[i].vars) ∧ w.cell? ⟨g, off + i * 7 + 2, none⟩ = some (v2) ∧ w.cell? ⟨g, off + i * 7 + 3, none⟩ = some (.int .i64 l[i].ty.kind) ∧ w.cell? ⟨g, off + i * 7 + 4, none⟩ = some (.string l[i].ty.name) ∧ w.cell? ⟨g, off + i * 7 + 5, none⟩ = some (.int .i64 l[i].ty.var) ∧ w.cell? ⟨g, off + i * 7 + 6, none⟩ = some (v3) ∧ l[i].name.size ≤ maxLen ∧ (Lit.int .i64 l[i].vars).wf = true ∧ Sl w F Pred.d l[i].preds v2 ∧ TyC w F l[i].ty v3 := by
  obtain ⟨g, off, cs, hA, hg, hr, _, hc⟩ := Sl.get h ValSig.wide hi
  rw [ValSig.rp] at hr
  obtain ⟨v2, v3, rfl, h0, h1, h2, h3⟩ := hr
  exact ⟨g, off, v2, v3, hA, hg, hc 0 _ rfl, hc 1 _ rfl, hc 2 _ rfl, hc 3 _ rfl, hc 4 _ rfl, hc 5 _ rfl, hc 6 _ rfl, h0, h1, h2, h3⟩

structure ClassSig where
  name : ByteArray
  super : List ByteArray
  ops : List ValSig
def ClassSig.d (x : ClassSig) : D := .agg [.str x.name, .sl (x.super.map dStr), .sl (x.ops.map ValSig.d)]
theorem ClassSig.rp {w : World} {F : Nat → Prop} {x : ClassSig} {cs : List Value} : Rp w F x.d cs ↔ ∃ (v1 : Value) (v2 : Value), cs = [.string x.name, v1, v2] ∧ x.name.size ≤ maxLen ∧ Sl w F dStr x.super v1 ∧ Sl w F ValSig.d x.ops v2
    := by
  unfold ClassSig.d; rw [rp_agg]; simp only [rpAll_cons, rpAll_nil, rp_str]
  constructor
  · rintro ⟨_, _, rfl, ⟨rfl, h0⟩, a1, _, rfl, h1, a2, _, rfl, h2, rfl⟩
    obtain ⟨v1, rfl⟩ := rp_sl_one h1
    obtain ⟨v2, rfl⟩ := rp_sl_one h2
    exact ⟨v1, v2, by simp, h0, h1, h2⟩
  · rintro ⟨v1, v2, rfl, h0, h1, h2⟩
    exact ⟨[_], _, rfl, ⟨rfl, h0⟩, [_], _, rfl, h1, [_], _, rfl, h2, rfl⟩
theorem ClassSig.wide : Wide ClassSig.d 3 := fun w F x cs h => by
  rw [ClassSig.rp] at h
  obtain ⟨v1, v2, rfl, h0, h1, h2⟩ := h
  rfl
theorem ClassSig.get {w : World} {F : Nat → Prop} {l : List ClassSig} {A : Option Addr} {n c : Nat} (h : Sl w F ClassSig.d l (.slice A n c)) {i : Nat} (hi : i < l.length) :
    ∃ (g off : Nat) (v1 : Value) (v2 : Value), A = some ⟨g, off, none⟩ ∧ F g ∧ w.cell? ⟨g, off + i * 3, none⟩ = some (.string l[i].name) ∧ w.cell? ⟨g, off + i * 3 + 1, none⟩ = some (v1) ∧ w.cell? ⟨g, off + i * 3 + 2, none⟩ = some (v2) ∧ l[i].name.size ≤ maxLen ∧ Sl w F dStr l[i].super v1 ∧ Sl w F ValSig.d l[i].ops v2 := by
  obtain ⟨g, off, cs, hA, hg, hr, _, hc⟩ := Sl.get h ClassSig.wide hi
  rw [ClassSig.rp] at hr
  obtain ⟨v1, v2, rfl, h0, h1, h2⟩ := hr
  exact ⟨g, off, v1, v2, hA, hg, hc 0 _ rfl, hc 1 _ rfl, hc 2 _ rfl, h0, h1, h2⟩

structure InstSig where
  cls : ByteArray
  head : Ty
  preds : List Pred
def InstSig.d (x : InstSig) : D := .agg [.str x.cls, tyD x.head, .sl (x.preds.map Pred.d)]
theorem InstSig.rp {w : World} {F : Nat → Prop} {x : InstSig} {cs : List Value} : Rp w F x.d cs ↔ ∃ (v1 : Value) (v2 : Value), cs = [.string x.cls, .int .i64 x.head.kind, .string x.head.name, .int .i64 x.head.var, v1, v2] ∧ x.cls.size ≤ maxLen ∧ TyC w F x.head v1 ∧ Sl w F Pred.d x.preds v2
    := by
  unfold InstSig.d; rw [rp_agg]; simp only [rpAll_cons, rpAll_nil, rp_str]
  constructor
  · rintro ⟨_, _, rfl, ⟨rfl, h0⟩, a1, _, rfl, g1, a2, _, rfl, h2, rfl⟩
    obtain ⟨v1, rfl, h1⟩ := tyD.rp.1 g1
    obtain ⟨v2, rfl⟩ := rp_sl_one h2
    exact ⟨v1, v2, by simp [Ty.cells], h0, h1, h2⟩
  · rintro ⟨v1, v2, rfl, h0, h1, h2⟩
    exact ⟨[_], _, rfl, ⟨rfl, h0⟩, _, _, rfl, tyD.rp.2 ⟨_, rfl, h1⟩, [_], _, rfl, h2, rfl⟩
theorem InstSig.wide : Wide InstSig.d 6 := fun w F x cs h => by
  rw [InstSig.rp] at h
  obtain ⟨v1, v2, rfl, h0, h1, h2⟩ := h
  rfl
theorem InstSig.get {w : World} {F : Nat → Prop} {l : List InstSig} {A : Option Addr} {n c : Nat} (h : Sl w F InstSig.d l (.slice A n c)) {i : Nat} (hi : i < l.length) :
    ∃ (g off : Nat) (v1 : Value) (v2 : Value), A = some ⟨g, off, none⟩ ∧ F g ∧ w.cell? ⟨g, off + i * 6, none⟩ = some (.string l[i].cls) ∧ w.cell? ⟨g, off + i * 6 + 1, none⟩ = some (.int .i64 l[i].head.kind) ∧ w.cell? ⟨g, off + i * 6 + 2, none⟩ = some (.string l[i].head.name) ∧ w.cell? ⟨g, off + i * 6 + 3, none⟩ = some (.int .i64 l[i].head.var) ∧ w.cell? ⟨g, off + i * 6 + 4, none⟩ = some (v1) ∧ w.cell? ⟨g, off + i * 6 + 5, none⟩ = some (v2) ∧ l[i].cls.size ≤ maxLen ∧ TyC w F l[i].head v1 ∧ Sl w F Pred.d l[i].preds v2 := by
  obtain ⟨g, off, cs, hA, hg, hr, _, hc⟩ := Sl.get h InstSig.wide hi
  rw [InstSig.rp] at hr
  obtain ⟨v1, v2, rfl, h0, h1, h2⟩ := hr
  exact ⟨g, off, v1, v2, hA, hg, hc 0 _ rfl, hc 1 _ rfl, hc 2 _ rfl, hc 3 _ rfl, hc 4 _ rfl, hc 5 _ rfl, h0, h1, h2⟩

structure OpSig where
  name : ByteArray
  effect : ByteArray
  arg : Ty
  res : Ty
def OpSig.d (x : OpSig) : D := .agg [.str x.name, .str x.effect, tyD x.arg, tyD x.res]
theorem OpSig.rp {w : World} {F : Nat → Prop} {x : OpSig} {cs : List Value} : Rp w F x.d cs ↔ ∃ (v2 : Value) (v3 : Value), cs = [.string x.name, .string x.effect, .int .i64 x.arg.kind, .string x.arg.name, .int .i64 x.arg.var, v2, .int .i64 x.res.kind, .string x.res.name, .int .i64 x.res.var, v3] ∧ x.name.size ≤ maxLen ∧ x.effect.size ≤ maxLen ∧ TyC w F x.arg v2 ∧ TyC w F x.res v3
    := by
  unfold OpSig.d; rw [rp_agg]; simp only [rpAll_cons, rpAll_nil, rp_str]
  constructor
  · rintro ⟨_, _, rfl, ⟨rfl, h0⟩, _, _, rfl, ⟨rfl, h1⟩, a2, _, rfl, g2, a3, _, rfl, g3, rfl⟩
    obtain ⟨v2, rfl, h2⟩ := tyD.rp.1 g2
    obtain ⟨v3, rfl, h3⟩ := tyD.rp.1 g3
    exact ⟨v2, v3, by simp [Ty.cells], h0, h1, h2, h3⟩
  · rintro ⟨v2, v3, rfl, h0, h1, h2, h3⟩
    exact ⟨[_], _, rfl, ⟨rfl, h0⟩, [_], _, rfl, ⟨rfl, h1⟩, _, _, rfl, tyD.rp.2 ⟨_, rfl, h2⟩, _, _, rfl, tyD.rp.2 ⟨_, rfl, h3⟩, rfl⟩
theorem OpSig.wide : Wide OpSig.d 10 := fun w F x cs h => by
  rw [OpSig.rp] at h
  obtain ⟨v2, v3, rfl, h0, h1, h2, h3⟩ := h
  rfl
theorem OpSig.get {w : World} {F : Nat → Prop} {l : List OpSig} {A : Option Addr} {n c : Nat} (h : Sl w F OpSig.d l (.slice A n c)) {i : Nat} (hi : i < l.length) :
    ∃ (g off : Nat) (v2 : Value) (v3 : Value), A = some ⟨g, off, none⟩ ∧ F g ∧ w.cell? ⟨g, off + i * 10, none⟩ = some (.string l[i].name) ∧ w.cell? ⟨g, off + i * 10 + 1, none⟩ = some (.string l[i].effect) ∧ w.cell? ⟨g, off + i * 10 + 2, none⟩ = some (.int .i64 l[i].arg.kind) ∧ w.cell? ⟨g, off + i * 10 + 3, none⟩ = some (.string l[i].arg.name) ∧ w.cell? ⟨g, off + i * 10 + 4, none⟩ = some (.int .i64 l[i].arg.var) ∧ w.cell? ⟨g, off + i * 10 + 5, none⟩ = some (v2) ∧ w.cell? ⟨g, off + i * 10 + 6, none⟩ = some (.int .i64 l[i].res.kind) ∧ w.cell? ⟨g, off + i * 10 + 7, none⟩ = some (.string l[i].res.name) ∧ w.cell? ⟨g, off + i * 10 + 8, none⟩ = some (.int .i64 l[i].res.var) ∧ w.cell? ⟨g, off + i * 10 + 9, none⟩ = some (v3) ∧ l[i].name.size ≤ maxLen ∧ l[i].effect.size ≤ maxLen ∧ TyC w F l[i].arg v2 ∧ TyC w F l[i].res v3 := by
  obtain ⟨g, off, cs, hA, hg, hr, _, hc⟩ := Sl.get h OpSig.wide hi
  rw [OpSig.rp] at hr
  obtain ⟨v2, v3, rfl, h0, h1, h2, h3⟩ := hr
  exact ⟨g, off, v2, v3, hA, hg, hc 0 _ rfl, hc 1 _ rfl, hc 2 _ rfl, hc 3 _ rfl, hc 4 _ rfl, hc 5 _ rfl, hc 6 _ rfl, hc 7 _ rfl, hc 8 _ rfl, hc 9 _ rfl, h0, h1, h2, h3⟩

structure Iface where
  module : ByteArray
  imports : List ByteArray
  fixes : List FixSig
  datas : List DataSig
  classes : List ClassSig
  insts : List InstSig
  ops : List OpSig
  vals : List ValSig
def Iface.d (x : Iface) : D := .agg [.str x.module, .sl (x.imports.map dStr), .sl (x.fixes.map FixSig.d), .sl (x.datas.map DataSig.d), .sl (x.classes.map ClassSig.d), .sl (x.insts.map InstSig.d), .sl (x.ops.map OpSig.d), .sl (x.vals.map ValSig.d)]
theorem Iface.rp {w : World} {F : Nat → Prop} {x : Iface} {cs : List Value} : Rp w F x.d cs ↔ ∃ (v1 : Value) (v2 : Value) (v3 : Value) (v4 : Value) (v5 : Value) (v6 : Value) (v7 : Value), cs = [.string x.module, v1, v2, v3, v4, v5, v6, v7] ∧ x.module.size ≤ maxLen ∧ Sl w F dStr x.imports v1 ∧ Sl w F FixSig.d x.fixes v2 ∧ Sl w F DataSig.d x.datas v3 ∧ Sl w F ClassSig.d x.classes v4 ∧ Sl w F InstSig.d x.insts v5 ∧ Sl w F OpSig.d x.ops v6 ∧ Sl w F ValSig.d x.vals v7
    := by
  unfold Iface.d; rw [rp_agg]; simp only [rpAll_cons, rpAll_nil, rp_str]
  constructor
  · rintro ⟨_, _, rfl, ⟨rfl, h0⟩, a1, _, rfl, h1, a2, _, rfl, h2, a3, _, rfl, h3, a4, _, rfl, h4, a5, _, rfl, h5, a6, _, rfl, h6, a7, _, rfl, h7, rfl⟩
    obtain ⟨v1, rfl⟩ := rp_sl_one h1
    obtain ⟨v2, rfl⟩ := rp_sl_one h2
    obtain ⟨v3, rfl⟩ := rp_sl_one h3
    obtain ⟨v4, rfl⟩ := rp_sl_one h4
    obtain ⟨v5, rfl⟩ := rp_sl_one h5
    obtain ⟨v6, rfl⟩ := rp_sl_one h6
    obtain ⟨v7, rfl⟩ := rp_sl_one h7
    exact ⟨v1, v2, v3, v4, v5, v6, v7, by simp, h0, h1, h2, h3, h4, h5, h6, h7⟩
  · rintro ⟨v1, v2, v3, v4, v5, v6, v7, rfl, h0, h1, h2, h3, h4, h5, h6, h7⟩
    exact ⟨[_], _, rfl, ⟨rfl, h0⟩, [_], _, rfl, h1, [_], _, rfl, h2, [_], _, rfl, h3, [_], _, rfl, h4, [_], _, rfl, h5, [_], _, rfl, h6, [_], _, rfl, h7, rfl⟩
theorem Iface.wide : Wide Iface.d 8 := fun w F x cs h => by
  rw [Iface.rp] at h
  obtain ⟨v1, v2, v3, v4, v5, v6, v7, rfl, h0, h1, h2, h3, h4, h5, h6, h7⟩ := h
  rfl
theorem Iface.get {w : World} {F : Nat → Prop} {l : List Iface} {A : Option Addr} {n c : Nat} (h : Sl w F Iface.d l (.slice A n c)) {i : Nat} (hi : i < l.length) :
    ∃ (g off : Nat) (v1 : Value) (v2 : Value) (v3 : Value) (v4 : Value) (v5 : Value) (v6 : Value) (v7 : Value), A = some ⟨g, off, none⟩ ∧ F g ∧ w.cell? ⟨g, off + i * 8, none⟩ = some (.string l[i].module) ∧ w.cell? ⟨g, off + i * 8 + 1, none⟩ = some (v1) ∧ w.cell? ⟨g, off + i * 8 + 2, none⟩ = some (v2) ∧ w.cell? ⟨g, off + i * 8 + 3, none⟩ = some (v3) ∧ w.cell? ⟨g, off + i * 8 + 4, none⟩ = some (v4) ∧ w.cell? ⟨g, off + i * 8 + 5, none⟩ = some (v5) ∧ w.cell? ⟨g, off + i * 8 + 6, none⟩ = some (v6) ∧ w.cell? ⟨g, off + i * 8 + 7, none⟩ = some (v7) ∧ l[i].module.size ≤ maxLen ∧ Sl w F dStr l[i].imports v1 ∧ Sl w F FixSig.d l[i].fixes v2 ∧ Sl w F DataSig.d l[i].datas v3 ∧ Sl w F ClassSig.d l[i].classes v4 ∧ Sl w F InstSig.d l[i].insts v5 ∧ Sl w F OpSig.d l[i].ops v6 ∧ Sl w F ValSig.d l[i].vals v7 := by
  obtain ⟨g, off, cs, hA, hg, hr, _, hc⟩ := Sl.get h Iface.wide hi
  rw [Iface.rp] at hr
  obtain ⟨v1, v2, v3, v4, v5, v6, v7, rfl, h0, h1, h2, h3, h4, h5, h6, h7⟩ := hr
  exact ⟨g, off, v1, v2, v3, v4, v5, v6, v7, hA, hg, hc 0 _ rfl, hc 1 _ rfl, hc 2 _ rfl, hc 3 _ rfl, hc 4 _ rfl, hc 5 _ rfl, hc 6 _ rfl, hc 7 _ rfl, h0, h1, h2, h3, h4, h5, h6, h7⟩

end Go.Proofs.YtcbkihplchdhhaaDoor
