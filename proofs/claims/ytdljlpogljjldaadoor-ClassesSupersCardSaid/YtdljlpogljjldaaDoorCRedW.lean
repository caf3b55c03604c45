/- classes.reduce. -/
import Derived.Test.YtdljlpogljjldaaDoorCRedL
namespace Go.Proofs.YtdljlpogljjldaaDoor
open Go.RowKit Go.Shelf Go.Sort

set_option maxHeartbeats 400000 in
theorem red_clo (x p : Pred) (F : Nat → Prop) (W : World) (b : Nat) (cs : List Value) (v : Value) (h : Blk W b 35 [.string p.cls, .int .i64 p.ty.kind, .string p.ty.name, .int .i64 p.ty.var, v]) (hx : Rp W F (Pred.d x) cs) :
    Calls Tryd.prog 36 (#[.agg cs.toArray] ++ #[.pointer (some ⟨b, 0, none⟩)]) W fun e w' => e = .returned (.bool (decide (x.cls = p.cls) && decide (x.ty.var = p.ty.var))) ∧ Below W.heap.size W w' := by
  obtain ⟨v1, rfl, _⟩ := Pred.rp.1 hx
  have h1 := h.cell (i := 0) rfl
  have h2 := h.cell (i := 3) rfl
  have hbl := h.lt
  clear hx h
  change Calls Tryd.prog 36 #[.agg #[.string x.cls, .int .i64 x.ty.kind, .string x.ty.name, .int .i64 x.ty.var, v1], .pointer (some ⟨b, 0, none⟩)] W _
  have HE : Hid ((x.ty.var == p.ty.var) = decide (x.ty.var = p.ty.var)) := by
    show _ = _
    by_cases e : x.ty.var = p.ty.var
    · rw [decide_eq_true e]; exact beq_iff_eq.2 e
    · rw [decide_eq_false e]; exact beq_eq_false_iff_ne.2 e
  by_cases he : x.cls = p.cls
  · have e := str_yes he
    have HD := Lib.hid (decide_eq_true he)
    clear he
    go_enter Tryd.func36, Tryd.ntmps36
    go_wp2_with fail
    go_ret
    exact ⟨ret_bool (by rw [HD.out]; exact HE.out), (Below.refl _ _).alloc (Nat.le_refl _) _⟩
  · have e := str_no he
    have HD := Lib.hid (decide_eq_false he)
    clear he
    go_enter Tryd.func36, Tryd.ntmps36
    go_wp2_with fail
    go_ret
    exact ⟨ret_bool (by rw [HD.out]; rfl), (Below.refl _ _).alloc (Nat.le_refl _) _⟩
/-- What has been gathered, in memory behind a pointer. -/
structure Gat (W : World) (bo : Nat) (ov : Value) (U : List (Pred × Value)) (G : Nat → Prop) : Prop where
  box : Blk W bo 36 [ov]
  own : W.ownsRow 0 35 5 ov U.length (U.flatMap prCells)
  each : ∀ u ∈ U, u.1.cls.size ≤ maxLen ∧ TyC W G u.1.ty u.2
  ne : ¬ ov.ownBlock = some bo
def SafeR (W : World) (bl bo : Nat) (ov : Value) (b : Nat) : Prop := b < W.heap.size ∧ b ≠ bl ∧ b ≠ bo ∧ ¬ ov.ownBlock = some b
theorem Gat.keeps {W W' : World} {bl bo : Nat} {ov : Value} {U : List (Pred × Value)} {X : Nat → Prop} (h : Gat W bo ov U (SafeR W bl bo ov)) (hk : Keeps X W W') (h1 : ¬ X bo) (h2 : ∀ i, ov.ownBlock = some i → ¬ X i) (h3 : ∀ i, X i → i < W.heap.size → i = bl) : Gat W' bo ov U (SafeR W' bl bo ov) :=
  ⟨h.box.keeps hk h1, own_keeps h.own hk h2, fun u hu => ⟨(h.each u hu).1, ((h.each u hu).2.keeps hk (fun i hi hx => hi.2.1 (h3 i hx hi.1))).mono (fun b hb => ⟨by have := hk.size; have := hb.1; omega, hb.2⟩)⟩, h.ne⟩
/-- What reduce leaves and answers. -/
def RedPost (bl bo : Nat) (ov : Value) (W : World) (e : Int) (out' : List Pred) (left' : Int) (E : Ending) (w' : World) : Prop :=
  ∃ (ov' : Value) (U' : List (Pred × Value)), Gat w' bo ov' U' (SafeR w' bl bo ov') ∧ U'.map Prod.fst = out' ∧ ¬ ov'.ownBlock = some bl ∧ (ov'.ownBlock = ov.ownBlock ∨ ∀ b, ov'.ownBlock = some b → W.heap.size ≤ b) ∧
    Blk w' bl 3 [.int .i64 left'] ∧ Keeps (fun i => i = bl ∨ i = bo ∨ ov.ownBlock = some i) W w' ∧ E = .returned (.int .i64 e)
def RedAt (insts : List InstSig) (q : Nat) : Prop := ∀ (W : World) (F G : Nat → Prop) (vi : Value) (A : Option Addr) (c : Nat) (p : Pred) (depth left : Int) (bo bl : Nat) (ov : Value) (U : List (Pred × Value)) (e : Int) (out' : List Pred) (left' : Int),
  Sl W F InstSig.d insts vi → (∀ b, F b → SafeR W bl bo ov b) → TyC W G p.ty (.slice A p.ty.args.length c) → (∀ b, G b → SafeR W bl bo ov b) → p.cls.size ≤ maxLen → Gat W bo ov U (SafeR W bl bo ov) → bl ≠ bo → ¬ ov.ownBlock = some bl →
  Blk W bl 3 [.int .i64 left] → 0 ≤ left → (U.length : Int) + left ≤ 4096 → 0 ≤ depth → depth ≤ 401 → reduceP insts q p depth (U.map Prod.fst) left = some (e, out', left') →
  Calls Tryd.prog 25 #[vi, .agg #[.string p.cls, .int .i64 p.ty.kind, .string p.ty.name, .int .i64 p.ty.var, .slice A p.ty.args.length c], .pointer (some ⟨bo, 0, none⟩), .int .i64 depth, .pointer (some ⟨bl, 0, none⟩)] W (RedPost bl bo ov W e out' left')
theorem reduceL_step (f : Pred → List Pred → Int → Option (Int × List Pred × Int)) (needs : List Pred) (j : Nat) (h : j < needs.length) (out : List Pred) (left : Int) : reduceL f (needs.drop j) out left = match f needs[j] out left with
    | none => none
    | some (e, out', left') => if e ≠ 0 then some (e, out', left') else reduceL f (needs.drop (j + 1)) out' left' := by
  rw [List.drop_eq_getElem_cons h, reduceL]
  rfl
/-- One more is gathered. -/
theorem gat_more {w w6 w7 : World} {bl bo g1 cap1 : Nat} {Au : Option Addr} {cu : Nat} {U : List (Pred × Value)} {G : Nat → Prop} {p : Pred} {A : Option Addr} {c : Nat}
    (h : Gat w bo (.slice Au U.length cu) U (SafeR w bl bo (.slice Au U.length cu))) (hk : Keeps (fun k => (Value.slice Au U.length cu).ownBlock = some k) w w6)
    (hown : w6.ownsRow 0 35 5 (.slice (some ⟨g1, 0, none⟩) (U.length + 1) cap1) (U.length + 1) (U.flatMap prCells ++ [.string p.cls, .int .i64 p.ty.kind, .string p.ty.name, .int .i64 p.ty.var, .slice A p.ty.args.length c]))
    (hat : (Value.slice Au U.length cu).ownBlock = some g1 ∨ w.heap.size ≤ g1) (hps : p.cls.size ≤ maxLen) (hT : TyC w G p.ty (.slice A p.ty.args.length c)) (hG : ∀ b, G b → SafeR w bl bo (.slice Au U.length cu) b)
    (hw7 : w6.setCell ⟨bo, 0, none⟩ (.slice (some ⟨g1, 0, none⟩) (U.length + 1) cap1) = w7) (hbl : bl < w.heap.size) (hnl : ¬ (Value.slice Au U.length cu).ownBlock = some bl) :
    Gat w7 bo (.slice (some ⟨g1, 0, none⟩) (U.length + 1) cap1) (U ++ [(p, .slice A p.ty.args.length c)]) (SafeR w7 bl bo (.slice (some ⟨g1, 0, none⟩) (U.length + 1) cap1)) ∧ ¬ (Value.slice (some ⟨g1, 0, none⟩) (U.length + 1) cap1).ownBlock = some bl ∧
      Keeps (fun i => i = bo ∨ (Value.slice Au U.length cu).ownBlock = some i) w w7 := by
  have hk7 : Keeps (· = bo) w6 w7 := by rw [← hw7]; exact (Keeps.refl (· = bo) w6).setCell (p := ⟨bo, 0, none⟩) (fun _ => rfl) _
  have hob : ∀ i, (Value.slice (some ⟨g1, 0, none⟩) (U.length + 1) cap1).ownBlock = some i → i = g1 := fun i hi => by simpa [Value.ownBlock] using hi.symm
  have hbo := h.box.lt
  have hg1o : g1 ≠ bo := fun e => by
    rcases hat with h1 | h1
    · exact h.ne (by rw [h1, e])
    · omega
  have hk67 : Keeps (fun i => i = bo ∨ (Value.slice Au U.length cu).ownBlock = some i) w w7 := (hk.mono (fun i _ h => .inr h)).trans hk7 (fun i _ h => .inl h)
  have hs := hk67.size
  have hsafe : ∀ b, SafeR w bl bo (.slice Au U.length cu) b → ¬ (b = bo ∨ (Value.slice Au U.length cu).ownBlock = some b) := fun b hb hx => by
    rcases hx with hx | hx
    · exact hb.2.2.1 hx
    · exact hb.2.2.2 hx
  have hmono : ∀ b, SafeR w bl bo (.slice Au U.length cu) b → SafeR w7 bl bo (.slice (some ⟨g1, 0, none⟩) (U.length + 1) cap1) b := fun b hb => ⟨by have := hb.1; omega, hb.2.1, hb.2.2.1, fun hx => by
    have := hob b hx
    subst this
    rcases hat with h1 | h1
    · exact hb.2.2.2 h1
    · have := hb.1; omega⟩
  refine ⟨⟨?_, ?_, ?_, fun hx => hg1o (hob bo hx).symm⟩, fun hx => ?_, hk67⟩
  · rw [← hw7]; exact (h.box.keeps hk h.ne).set_ 0 _
  · rw [List.length_append, List.flatMap_append]
    have := own_keeps hown hk7 (fun i hi e => by have := hob i hi; have e3 : i = bo := e; omega)
    simpa [prCells] using this
  · intro u hu
    rcases List.mem_append.1 hu with hu | hu
    · exact ⟨(h.each u hu).1, ((h.each u hu).2.keeps hk67 (fun i hi => hsafe i hi)).mono hmono⟩
    · rw [List.mem_singleton.1 hu]
      exact ⟨hps, (hT.keeps hk67 (fun i hi => hsafe i (hG i hi))).mono (fun b hb => hmono b (hG b hb))⟩
  · have := hob bl hx
    rcases hat with h1 | h1
    · exact hnl (by rw [h1, this])
    · omega
end Go.Proofs.YtdljlpogljjldaaDoor
