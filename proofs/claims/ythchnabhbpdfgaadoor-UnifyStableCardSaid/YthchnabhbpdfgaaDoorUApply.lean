/- unify.Apply, walked. No conditions but a bound on the number of nodes. -/
import Derived.Test.YthchnabhbpdfgaaDoorMAcy
import Derived.Test.YthchnabhbpdfgaaDoorNorm
namespace Go.Proofs.YthchnabhbpdfgaaDoor
open Go.RowKit Go.Shelf Go.Sort Stab
/-- What Apply returns: in blocks of old, or in new ones. -/
def ApPost (G : Nat → Prop) (r : Ty) (W : World) (e : Ending) (w' : World) : Prop := ∃ A c, e = .returned (.agg #[.int .i64 r.kind, .string r.name, .int .i64 r.var, .slice A r.args.length c]) ∧ TyC w' (fun b => (G b ∨ W.heap.size ≤ b) ∧ b < w'.heap.size) r (.slice A r.args.length c) ∧ Keeps (fun _ => False) W w'
def ApAt (σ : List Ty) (k q : Nat) : Prop := ∀ (W : World) (G : Nat → Prop) (sv av : Value) (t r : Ty), Sl W G tyD σ sv → TyC W G t av → (∀ b, G b → b < W.heap.size) → t.Wf → nodes t ≤ 33554432 → applyP σ k q t = some r →
  Calls Tryd.prog 9 #[sv, tyV t av] W (ApPost G r W)
theorem infoTyA : (Tryd.prog.info? 24).map (fun i => (i.zero, i.size, i.bytes)) = some (some (.agg #[.int .i64 0, .string ⟨#[]⟩, .int .i64 0, .slice none 0 0]), 4, 56) := by kernel_rfl
/-- At the head of Apply's loop. -/
structure Ap (σ : List Ty) (f : Ty → Option Ty) (W : World) (G : Nat → Prop) (b0 : Nat) (cur : Ty) (sv cv : Value) (b4 : Nat) (ov : Value) (U : List (Ty × Value)) (wr : World) : Prop where
  out : Blk wr b4 24 [.int .i64 cur.kind, .string cur.name, .int .i64 cur.var, ov]
  ty : TyC wr G cur cv
  sub : Sl wr G tyD σ sv
  uown : wr.ownsRow (b4 + 1) 24 4 ov U.length ((U.map pv4).flatMap V4.cells)
  ueach : ∀ p ∈ U, TyC wr (fun b => ((G b ∨ b4 + 1 ≤ b) ∧ b < wr.heap.size) ∧ ¬ ov.ownBlock = some b) p.1 p.2
  res : Blk wr (b0 + 1) 24 [.int .i64 0, .string ⟨#[]⟩, .int .i64 0, .slice none 0 0]
  keeps : Keeps (fun i => b0 ≤ i) W wr
  bb : b0 + 2 ≤ b4
  few : U.length ≤ cur.args.length
  done_ : mapO f (cur.args.take U.length) = some (U.map Prod.fst)
/-- One more argument. -/
theorem ap_next {σ : List Ty} {f : Ty → Option Ty} {W : World} {G : Nat → Prop} {b0 b4 g1 cap1 co : Nat} {cur x y : Ty} {sv cv : Value} {Ao Ar : Option Addr} {cr : Nat} {U : List (Ty × Value)} {wx w5 wq w6 : World}
    (hm : Ap σ f W G b0 cur sv cv b4 (.slice Ao U.length co) U wx) (hG : ∀ b, G b → b < b0) (hlt : U.length < cur.args.length) (hx : cur.args[U.length] = x) (hy : f x = some y) (hk5 : Keeps (fun _ => False) wx w5) (hz5 : w5.heap.size = wx.heap.size + 1)
    (hk1 : Keeps (fun k => (Value.slice Ao U.length co).ownBlock = some k) w5 w6) (hkq : Keeps (fun _ => False) w5 wq) (hTr : TyC wq (fun b => (G b ∨ w5.heap.size ≤ b) ∧ b < wq.heap.size) y (.slice Ar y.args.length cr))
    (hkq6 : Keeps (fun k => (Value.slice Ao U.length co).ownBlock = some k) wq w6) (hown : w6.ownsRow (b4 + 1) 24 4 (.slice (some ⟨g1, 0, none⟩) (U.length + 1) cap1) (U.length + 1) ((U.map pv4).flatMap V4.cells ++ [.int .i64 y.kind, .string y.name, .int .i64 y.var, .slice Ar y.args.length cr]))
    (hat : (Value.slice Ao U.length co).ownBlock = some g1 ∨ wq.heap.size ≤ g1) :
    Ap σ f W G b0 cur sv cv b4 (.slice (some ⟨g1, 0, none⟩) (U.length + 1) cap1) (U ++ [(y, .slice Ar y.args.length cr)]) (w6.setCell ⟨b4, 3, none⟩ (.slice (some ⟨g1, 0, none⟩) (U.length + 1) cap1)) := by
  have hul : ∀ i, (Value.slice Ao U.length co).ownBlock = some i → b4 + 1 ≤ i ∧ i < wx.heap.size := fun i hi => hm.uown.lt i hi
  have hbl := hm.out.lt
  have hg1 : b4 + 1 ≤ g1 := (hown.lt g1 rfl).1
  have hne : ¬ (g1 = b4) := by omega
  have hzq := hkq.size
  have hz6 := hkq6.size
  have hbb := hm.bb
  have hK7 : Keeps (· = b4) w6 (w6.setCell ⟨b4, 3, none⟩ (.slice (some ⟨g1, 0, none⟩) (U.length + 1) cap1)) := (Keeps.refl (· = b4) _).setCell (p := ⟨b4, 3, none⟩) (fun _ => rfl) _
  have hz7 := hK7.size
  have hK6 : Keeps (fun i => b4 + 1 ≤ i) wx w6 := (hk5.mono (fun _ _ h => h.elim)).trans hk1 (fun i _ h => (hul i h).1)
  have hKA : Keeps (fun i => b4 ≤ i) wx (w6.setCell ⟨b4, 3, none⟩ (.slice (some ⟨g1, 0, none⟩) (U.length + 1) cap1)) := (hK6.mono (fun i _ h => by omega)).trans hK7 (fun i _ h => by omega)
  refine ⟨?_, hm.ty.keeps hKA (fun i hi h => by have := hG i hi; omega), hm.sub.keeps hKA (fun i hi h => by have := hG i hi; omega), ?_, fun p hp => ?_, hm.res.keeps hKA (by omega), hm.keeps.trans hKA (fun i _ h => by omega), hbb, ?_, ?_⟩
  · exact ((hm.out.keeps hk5 (fun h => h)).keeps hk1 (fun h => by have := (hul _ h).1; omega)).set_ 3 _
  · have h1 := own_keeps hown hK7 (fun i hi e => hne ((show g1 = i from by simpa [Value.ownBlock] using hi).trans e))
    rw [List.length_append, List.map_append, List.flatMap_append]
    exact h1
  · rcases List.mem_append.1 hp with hp | hp
    · refine ((((hm.ueach p hp).keeps hk5 (fun _ _ h => h)).keeps hk1 (fun i hi => hi.2)).mono (G := fun b => (((G b ∨ b4 + 1 ≤ b) ∧ b < (w6.setCell ⟨b4, 3, none⟩ (.slice (some ⟨g1, 0, none⟩) (U.length + 1) cap1)).heap.size) ∧ ¬ (Value.slice (some ⟨g1, 0, none⟩) (U.length + 1) cap1).ownBlock = some b)) (fun b hb => ⟨⟨hb.1.1, by have := hb.1.2; omega⟩, fun h => ?_⟩)).keeps hK7 (fun i hi h => ?_)
      · have e2 : g1 = b := by simpa [Value.ownBlock] using h
        subst e2
        rcases hat with h | h
        · exact hb.2 h
        · have := hb.1.2; omega
      · rcases hi.1.1 with h1 | h1
        · have := hG _ h1; omega
        · omega
    · rw [List.mem_singleton] at hp
      subst hp
      have hnul : ∀ i, G i → (Value.slice Ao U.length co).ownBlock = some i → False := fun i hi h => by have := hG i hi; have := (hul i h).1; omega
      refine ((hTr.keeps hkq6 (fun i hi h => by
        rcases hi.1 with h1 | h1
        · exact hnul i h1 h
        · have := (hul i h).2; omega)).mono (G := fun b => (((G b ∨ b4 + 1 ≤ b) ∧ b < (w6.setCell ⟨b4, 3, none⟩ (.slice (some ⟨g1, 0, none⟩) (U.length + 1) cap1)).heap.size) ∧ ¬ (Value.slice (some ⟨g1, 0, none⟩) (U.length + 1) cap1).ownBlock = some b)) (fun b hb => ⟨⟨hb.1.imp id (fun h => by omega), by have := hb.2; omega⟩, fun h => ?_⟩)).keeps hK7 (fun i hi h => ?_)
      · have e2 : g1 = b := by simpa [Value.ownBlock] using h
        subst e2
        rcases hb.1 with h1 | h1
        · have := hG _ h1; omega
        · rcases hat with h | h
          · have := (hul _ h).2; omega
          · omega
      · rcases hi.1.1 with h1 | h1
        · have := hG _ h1; omega
        · omega
  · rw [List.length_append]; simp only [List.length_cons, List.length_nil]; omega
  · rw [List.length_append, List.map_append]
    simp only [List.length_cons, List.length_nil, Nat.zero_add, List.map_cons, List.map_nil]
    rw [List.take_succ_eq_append_getElem hlt, hx]
    exact mapO_snoc hy hm.done_
/-- The result, behind the loop. -/
theorem ap_end {σ : List Ty} {f : Ty → Option Ty} {W : World} {G : Nat → Prop} {b0 b4 : Nat} {cur : Ty} {sv cv ov : Value} {U : List (Ty × Value)} {wx : World} (hm : Ap σ f W G b0 cur sv cv b4 ov U wx) (hu : U.length = cur.args.length) :
    ∃ l, mapO f cur.args = some l ∧ U.length = l.length ∧ TyC wx (fun b => ((G b ∨ b4 + 1 ≤ b) ∧ b < wx.heap.size)) (.mk cur.kind cur.name cur.var l) ov := by
  have hd := hm.done_
  rw [hu, List.take_of_length_le (Nat.le_refl _)] at hd
  refine ⟨_, hd, (List.length_map _).symm, hm.ty.kind, hm.ty.name, hm.ty.var, ?_⟩
  exact Sl.of_own (f := tyD) (l := U.map Prod.fst) (F := fun b => ((G b ∨ b4 + 1 ≤ b) ∧ b < wx.heap.size) ∧ ¬ ov.ownBlock = some b) (G := fun b => (G b ∨ b4 + 1 ≤ b) ∧ b < wx.heap.size) hm.uown (List.length_map _).symm (prs_rp hm.ueach) (fun b hb => hb.1) (fun b hb => by have := hm.uown.lt b hb; exact ⟨.inr this.1, this.2⟩)
set_option maxRecDepth 100000 in
set_option maxHeartbeats 16000000 in
theorem apply_step (σ : List Ty) (hσ : ∀ x ∈ σ, x.Wf ∧ nodes x ≤ 33554432) (k q : Nat) (ih : ApAt σ k q) : ApAt σ k (q + 1) := by
  intro W G sv av t r hS hT hG hnn hN hr
  obtain ⟨i0, hi0, hz0, hz1, hz2⟩ := info_parts infoTyA
  obtain ⟨A0, c0, rfl, _⟩ := hT.form
  rw [applyP] at hr
  cases hw : walkP σ k t with
  | none => rw [hw] at hr; cases hr
  | some cur =>
  rw [hw] at hr
  dsimp only at hr
  obtain ⟨hcn, hcN⟩ := walk_fine hσ k t cur hnn hN hw
  have hWk := fun (X : World) (hk : Keeps (fun _ => False) W X) => walk_any σ sv G G X (SlE.of_sl (hS.keeps hk (fun _ _ h => h))) (fun b hb => Nat.lt_of_lt_of_le (hG b hb) hk.size) (fun b hb => Nat.lt_of_lt_of_le (hG b hb) hk.size) (fun x hx => (hσ x hx).1.varOk) k t cur _ (hT.keeps hk (fun _ _ h => h)) hnn.varOk hw
  unfold tyV at hWk
  have HW := Lib.hid hWk
  have HIH := Lib.hid ih
  have HS := Lib.hid hS
  have HT := Lib.hid hT
  have HG := Lib.hid hG
  have HN := Lib.hid hcN
  have HNN := Lib.hid hcn
  have HR := Lib.hid hr
  have hal : cur.args.length ≤ 33554432 := by have := nodess_len cur.args; have := nodes_eq cur; omega
  clear ih hS hT hG hnn hN hr hWk hw hcn hcN
  unfold tyV
  obtain ⟨b0, hb0⟩ : ∃ b0, W.heap.size = b0 := ⟨_, rfl⟩
  obtain ⟨W0, hW0⟩ : ∃ W0, (W.alloc (.cells #[.int .i64 t.kind, .string t.name, .int .i64 t.var, .slice A0 t.args.length c0] 24)).alloc (.cells #[.int .i64 0, .string ⟨#[]⟩, .int .i64 0, .slice none 0 0] 24) = W0 := ⟨_, rfl⟩
  have hk0 : Keeps (fun _ => False) W W0 := by rw [← hW0]; exact ((Keeps.refl _ _).alloc _).alloc _
  have hx := (Blk.new W 24 [.int .i64 t.kind, .string t.name, .int .i64 t.var, .slice A0 t.args.length c0]).alloc (.cells #[.int .i64 0, .string ⟨#[]⟩, .int .i64 0, .slice none 0 0] 24)
  have hy := Blk.new (W.alloc (.cells #[.int .i64 t.kind, .string t.name, .int .i64 t.var, .slice A0 t.args.length c0] 24)) 24 [.int .i64 0, .string ⟨#[]⟩, .int .i64 0, .slice none 0 0]
  rw [hW0] at hx hy
  rw [World.size_alloc] at hy
  simp only [hb0] at hx hy
  have hz0' : W0.heap.size = b0 + 2 := by rw [← hW0, ← hb0]; simp
  have c0' := hx.cell (i := 0) rfl
  have c1' := hx.cell (i := 1) rfl
  have c2' := hx.cell (i := 2) rfl
  have c3' := hx.cell (i := 3) rfl
  have HX0 := Lib.hid hx
  have HY0 := Lib.hid hy
  have HK0 := Lib.hid hk0
  have HB0 := Lib.hid hb0
  have HW0 := Lib.hid hW0
  have HZ0 := Lib.hid hz0'
  clear hx hy hk0 hb0 hW0 hz0'
  go_enter Tryd.func9, Tryd.ntmps9
  go_wp2_with (fail)
  rw [HW0.out, HB0.out]
  go_wp2_with (fail)
  with_reducible refine (HW.out _ HK0.out).mono ?_
  rintro e w1 ⟨cv, rfl, hT1, hb1⟩
  obtain ⟨A3, c3, rfl, _⟩ := hT1.form
  unfold tyV
  have hk1 : Keeps (fun _ => False) W0 w1 := Keeps.of_below (X := fun _ => False) hb1
  have hx1 := HX0.out.keeps hk1 (fun h => h)
  have hy1 := HY0.out.keeps hk1 (fun h => h)
  have f0 := hx1.free 0
  have f1 := hx1.free 1
  have f2 := hx1.free 2
  have f3 := hx1.free 3
  have k0' := hx1.cell (i := 0) rfl
  have k1' := hx1.cell (i := 1) rfl
  have k2' := hx1.cell (i := 2) rfl
  have k3' := hx1.cell (i := 3) rfl
  have hxl := hx1.lt
  obtain ⟨hB2, hK2⟩ := four hx1 (.int .i64 cur.kind) (.string cur.name) (.int .i64 cur.var) (.slice A3 cur.args.length c3)
  have hk02 : Keeps (· = b0) W _ := (((HK0.out.trans hk1 (fun _ _ h => h)).mono (fun _ _ h => h.elim)).trans hK2 (fun i _ h => h))
  have hGb : ∀ b, G b → b < b0 := fun b hb => by have := HG.out b hb; have := HB0.out; omega
  have hT2 := hT1.keeps hK2 (fun i hi h => by have := hGb i hi; omega)
  have hS2 := HS.out.keeps hk02 (fun i hi h => by have := hGb i hi; omega)
  have hy2 := hy1.keeps hK2 (by omega)
  have hz2' : b0 + 2 ≤ w1.heap.size := by have := hk1.size; have := HZ0.out; omega
  have hz3 := hK2.size
  obtain ⟨w2, hw2⟩ : ∃ w2, ((((w1.setCell ⟨b0, 0, none⟩ (.int .i64 cur.kind)).setCell ⟨b0, 1, none⟩ (.string cur.name)).setCell ⟨b0, 2, none⟩ (.int .i64 cur.var)).setCell ⟨b0, 3, none⟩ (.slice A3 cur.args.length c3)) = w2 := ⟨_, rfl⟩
  rw [hw2] at hB2 hK2 hk02 hT2 hS2 hy2 hz3
  have d0 := hB2.cell (i := 0) rfl
  have d1 := hB2.cell (i := 1) rfl
  have d2 := hB2.cell (i := 2) rfl
  have d3 := hB2.cell (i := 3) rfl
  have e0 := hy2.free 0
  have e1 := hy2.free 1
  have e2 := hy2.free 2
  have e3 := hy2.free 3
  have r0 := hy2.cell (i := 0) rfl
  have r1 := hy2.cell (i := 1) rfl
  have r2 := hy2.cell (i := 2) rfl
  have r3 := hy2.cell (i := 3) rfl
  have hyl := hy2.lt
  have HW2 := Lib.hid hw2
  have HY2 := Lib.hid hy2
  have HT2 := Lib.hid hT2
  have HS2 := Lib.hid hS2
  have HK02 := Lib.hid hk02
  have HGB := Lib.hid hGb
  have hw2s : b0 + 2 ≤ w2.heap.size := by omega
  have hxl2 : b0 < w2.heap.size := by omega
  clear hw2 hT1 hb1 hk1 hx1 hy1 hB2 hK2 hk02 hT2 hS2 hy2 hGb hz2' hz3 c0' c1' c2' c3'
  go_upto_region 2 with (fail)
  rw [HW2.out]
  clear f0 f1 f2 f3 hxl k0' k1' k2' k3'
  by_cases hl0 : cur.args.length = 0
  · have hr := HR.out
    rw [if_pos hl0] at hr
    obtain rfl := Option.some.inj hr
    have hl0b : ((cur.args.length : Int) == 0) = true := by rw [hl0]; rfl
    clear hl0 hr
    go_wp2_with (fail)
    obtain ⟨hB4, hK4⟩ := four HY2.out (.int .i64 cur.kind) (.string cur.name) (.int .i64 cur.var) (.slice A3 cur.args.length c3)
    have hkk : Keeps (fun i => b0 ≤ i) W _ := (HK02.out.mono (Y := fun i => b0 ≤ i) (fun _ _ h => by omega)).trans hK4 (fun i _ h => by omega)
    have hB := HB0.out
    exact ret_row Tryd.results9 rfl hB4 Tryd.underlying24 (by kernel_rfl) rfl
      ⟨A3, c3, rfl, (HT2.out.keeps hK4 (fun i hi e => by have := HGB.out i hi; omega)).mono (fun b hb => ⟨.inl hb, by have := HGB.out b hb; have := hK4.size; omega⟩), Keeps.of_below (X := fun _ => False) (hkk.below (fun i hi => by omega) (Nat.le_refl _))⟩
  · have hr := HR.out
    rw [if_neg hl0] at hr
    have hl0b : ((cur.args.length : Int) == 0) = false := by rw [beq_eq_false_iff_ne]; omega
    have HR2 := Lib.hid hr
    clear hr HR hl0
    go_wp2_with (fail)
    obtain ⟨b4, hb4⟩ : ∃ b4, w2.heap.size = b4 := ⟨_, rfl⟩
    obtain ⟨W4, hW4⟩ : ∃ W4, w2.alloc (.cells #[.int .i64 cur.kind, .string cur.name, .int .i64 cur.var, .slice none 0 0] 24) = W4 := ⟨_, rfl⟩
    have hb4w := Blk.new w2 24 [.int .i64 cur.kind, .string cur.name, .int .i64 cur.var, .slice none 0 0]
    have hk4 : Keeps (fun _ => False) w2 W4 := by rw [← hW4]; exact (Keeps.refl _ _).alloc _
    rw [hW4] at hb4w ⊢
    simp only [hb4] at hb4w ⊢
    have HM0 : Hid (Ap σ (applyP σ k q) W G b0 cur sv (.slice A3 cur.args.length c3) b4 (.slice none 0 0) [] W4) :=
      ⟨hb4w, HT2.out.keeps hk4 (fun _ _ h => h), HS2.out.keeps hk4 (fun _ _ h => h), World.ownsRow_nil _ _ _ _, (fun p hp => by cases hp), HY2.out.keeps hk4 (fun h => h), (HK02.out.mono (Y := fun i => b0 ≤ i) (fun _ _ h => by omega)).trans hk4 (fun _ _ h => h.elim), by omega, Nat.zero_le _, rfl⟩
    clear hb4w hk4 hW4 hb4 hw2s hxl2 hyl d0 d1 d2 d3 e0 e1 e2 e3 r0 r1 r2 r3 HT2 HS2 HK02 HY2 HW2 HX0 HY0 HW0 HK0
    go_loopw [21] (fun s21 wx => ∃ (ov : Value) (U : List (Ty × Value)), s21 = .int .i64 (U.length : Int) ∧ Ap σ (applyP σ k q) W G b0 cur sv (.slice A3 cur.args.length c3) b4 ov U wx) (fun s21 _ => cur.args.length - (intOf s21).toNat)
    case atStart => exact ⟨_, [], rfl, HM0.out⟩
    case round =>
      clear HM0
      obtain ⟨ov, U, rfl, hm⟩ := hrel
      obtain ⟨Ao, co, rfl⟩ := own_slform hm.uown
      obtain ⟨wx, hwx⟩ : ∃ wx, wx = wr := ⟨_, rfl⟩
      rw [← hwx] at hm ⊢
      clear hwx
      by_cases hlt : U.length < cur.args.length
      · have kz : (U.length : Int) < (cur.args.length : Int) := by omega
        have hrq := HR2.out
        obtain ⟨y, hyy⟩ : ∃ y, applyP σ k q cur.args[U.length] = some y := by
          cases hm2 : mapO (applyP σ k q) cur.args with
          | none => rw [hm2] at hrq; cases hrq
          | some l => exact (mapO_at hm2 U.length hlt).imp fun y h => h.1
        clear hrq
        obtain ⟨gx, offx, vx, hadr, hgx, a0, a1, a2, a3, hTx⟩ := tyD.get hm.ty.args hlt
        obtain rfl := hadr
        obtain ⟨x, hx⟩ : ∃ x, cur.args[U.length] = x := ⟨_, rfl⟩
        rw [hx] at a0 a1 a2 hTx hyy
        obtain ⟨Ax, cx, rfl, _⟩ := hTx.form
        have hxm : x ∈ cur.args := by rw [← hx]; exact List.getElem_mem hlt
        have HM := Lib.hid hm
        have HX := Lib.hid hx
        have HY := Lib.hid hyy
        have HTX := Lib.hid hTx
        have HXM := Lib.hid hxm
        have HGW := HGB
        clear hm hx hTx hxm hyy
        go_wp2_with (fail)
        obtain ⟨w5, hw5⟩ : ∃ w5, wx.alloc (.cells #[.int .i64 x.kind, .string x.name, .int .i64 x.var, .slice Ax x.args.length cx] 24) = w5 := ⟨_, rfl⟩
        have hb6w := Blk.new wx 24 [.int .i64 x.kind, .string x.name, .int .i64 x.var, .slice Ax x.args.length cx]
        have hk5 : Keeps (fun _ => False) wx w5 := by rw [← hw5]; exact (Keeps.refl _ _).alloc _
        have hz5 : w5.heap.size = wx.heap.size + 1 := by rw [← hw5]; simp
        obtain ⟨b6, hb6⟩ : ∃ b6, wx.heap.size = b6 := ⟨_, rfl⟩
        rw [hw5] at hb6w ⊢
        simp only [hb6] at hb6w hz5 ⊢
        have ho5 := HM.out.out.keeps hk5 (fun h => h)
        have hb4l : b4 < w5.heap.size := ho5.lt
        have d3 := ho5.cell (i := 3) rfl
        have f3 := ho5.free 3
        have x0 := hb6w.cell (i := 0) rfl
        have x1 := hb6w.cell (i := 1) rfl
        have x2 := hb6w.cell (i := 2) rfl
        have x3 := hb6w.cell (i := 3) rfl
        have hul : ∀ i, (Value.slice Ao U.length co).ownBlock = some i → b4 + 1 ≤ i ∧ i < b6 := fun i hi => by have := HM.out.uown.lt i hi; omega
        have HUL : Hid (∀ i, (Value.slice Ao U.length co).ownBlock = some i → b4 + 1 ≤ i ∧ i < b6) := hul
        have HOn : Hid (¬ (Value.slice Ao U.length co).ownBlock = some b4) := fun h => by have := hul _ h; omega
        have hQ : Hid (∀ X, Keeps (fun i => b4 + 1 ≤ i ∧ i < b6) w5 X → (X.cell? ⟨b4, 3, none⟩ = some (.slice Ao U.length co) ∧ X.cell? ⟨b6, 0, none⟩ = some (.int .i64 x.kind) ∧ X.cell? ⟨b6, 1, none⟩ = some (.string x.name) ∧ X.cell? ⟨b6, 2, none⟩ = some (.int .i64 x.var) ∧ X.cell? ⟨b6, 3, none⟩ = some (.slice Ax x.args.length cx))) := fun X hb =>
          ⟨hb.cell d3 (fun h => by have h1 : b4 + 1 ≤ b4 := h.1; omega), hb.cell x0 (fun h => by have h1 : b6 < b6 := h.2; omega), hb.cell x1 (fun h => by have h1 : b6 < b6 := h.2; omega), hb.cell x2 (fun h => by have h1 : b6 < b6 := h.2; omega), hb.cell x3 (fun h => by have h1 : b6 < b6 := h.2; omega)⟩
        have HUOwn := Lib.hid (own_keeps HM.out.uown hk5 (fun _ _ h => h))
        have HMq : Hid (U.length + 1 ≤ maxLen) := by show _ ≤ _; unfold maxLen; omega
        have HBq : Hid ((U.length + 1) * 56 ≤ 140737488355328) := by show _ ≤ _; omega
        have HBZ : Hid (b4 + 1 ≤ w5.heap.size) := by show _ ≤ _; omega
        have HAp : Hid (∀ X, Keeps (fun _ => False) w5 X → Calls Tryd.prog 9 #[sv, .agg #[.int .i64 x.kind, .string x.name, .int .i64 x.var, .slice Ax x.args.length cx]] X
            (fun e w' => ∃ A c, e = .returned (.agg #[.int .i64 y.kind, .string y.name, .int .i64 y.var, .slice A y.args.length c]) ∧ TyC w' (fun b => (G b ∨ w5.heap.size ≤ b) ∧ b < w'.heap.size) y (.slice A y.args.length c) ∧ Keeps (fun _ => False) w5 w')) := fun X hk =>
          (HIH.out X G sv _ x y ((HM.out.sub.keeps hk5 (fun _ _ h => h)).keeps hk (fun _ _ h => h)) ((HTX.out.keeps hk5 (fun _ _ h => h)).keeps hk (fun _ _ h => h)) (fun b hb => by have := HGW.out b hb; have := hk.size; have := HM.out.bb; omega) (HNN.out.arg HXM.out) (by have := nodess_mem cur.args x HXM.out; have := nodes_eq cur; have := HN.out; omega) HY.out).mono
            fun e w' ⟨A, c, he, hT, hkk⟩ => ⟨A, c, he, hT.mono (fun b hb => ⟨hb.1.imp id (fun h => Nat.le_trans hk.size h), hb.2⟩), hk.trans hkk (fun _ _ h => h)⟩
        have HK5 := Lib.hid hk5
        have HB6 := Lib.hid hb6
        have HZ5 := Lib.hid hz5
        have hu0 : (0 : Int) ≤ (U.length : Int) := by omega
        have huu : (U.length : Int) < ((U.length : Int) + 1) := by omega
        clear hb6w hk5 ho5 hw5 x0 x1 x2 x3 hul a0 a1 a2 a3 hb6 hz5
        go_wp2_with (fail)
        refine wp_region_noPanic ?_
        refine wp_region_till [8] (fun X => X.cell? ⟨b4, 3, none⟩ = some (.slice Ao U.length co) ∧ X.cell? ⟨b6, 0, none⟩ = some (.int .i64 x.kind) ∧ X.cell? ⟨b6, 1, none⟩ = some (.string x.name) ∧ X.cell? ⟨b6, 2, none⟩ = some (.int .i64 x.var) ∧ X.cell? ⟨b6, 3, none⟩ = some (.slice Ax x.args.length cx)) (by kernel_rfl) ?_ (fun hE => ?_)
        · first | exact hQ.out _ (hk1.mono (fun i _ h => HUL.out i h)) | exact hQ.out _ (Keeps.mono (show Keeps (fun _ => False) w5 _ from (by repeat (first | (with_reducible assumption) | (with_reducible exact Keeps.refl _ _) | (with_reducible refine Keeps.drewN ?_ _) | (with_reducible refine Keeps.drew ?_) | with_reducible refine Keeps.setCell ?_ (by first | (intro _; exact rfl) | (intro _; exact Or.inl rfl) | (intro _; exact Or.inr rfl) | (simp; done) | (simp; omega)) _ | (with_reducible refine Keeps.alloc ?_ _)))) (fun _ _ h => h.elim))
        have hS := hE (by kernel_rfl)
        refine wpAnyT_pure (i := 0) (oi := { dst := some 25, op := Op.fieldAddr 24 (Operand.tmp 5) 3, type := 0, pos := "unify.go:101", after := #[], guard := none }) (v := ?v9_0_1) rfl (by kernel_rfl) (fun _ _ _ h => h) (Or.inl ⟨by rfl, ?y9_0_1⟩) (fun _ => hS) ?_
        case y9_0_1 => (intro w hSw; go_simp; try with_reducible rfl)
        try simp only [Act.put, List.setIfInBounds_toArray, List.set_cons_zero, List.set_cons_succ]
        refine wpAnyT_take (i := 1) (oi := { dst := some 26, op := Op.load 22 (Operand.tmp 25), type := 22, pos := "unify.go:101", after := #[{ on := 0, ground := Ground.data }], guard := none }) (v := ?v9_1_2) rfl (by kernel_rfl) (fun _ _ _ h => h) (Or.inl ⟨by rfl, ?y9_1_2⟩) hS ?_
        case y9_1_2 => (intro w hSw; (try dsimp only at hSw); go_simp; try with_reducible rfl)
        try simp only [Act.put, List.setIfInBounds_toArray, List.set_cons_zero, List.set_cons_succ]
        refine wpAnyT_pure (i := 2) (oi := { dst := some 27, op := Op.move (Operand.tmp 0), type := 25, pos := "unify.go:101", after := #[], guard := none }) (v := ?v9_2_3) rfl (by kernel_rfl) (fun _ _ _ h => h) (Or.inl ⟨by rfl, ?y9_2_3⟩) (fun _ => hS) ?_
        case y9_2_3 => (intro w hSw; go_simp; try with_reducible rfl)
        try simp only [Act.put, List.setIfInBounds_toArray, List.set_cons_zero, List.set_cons_succ]
        refine wpAnyT_take (i := 3) (oi := { dst := some 28, op := Op.load 24 (Operand.tmp 7), type := 24, pos := "unify.go:101", after := #[], guard := none }) (v := ?v9_3_4) rfl (by kernel_rfl) (fun _ _ _ h => h) (Or.inl ⟨by rfl, ?y9_3_4⟩) hS ?_
        case y9_3_4 => (intro w hSw; (try dsimp only at hSw); go_simp; try with_reducible rfl)
        try simp only [Act.put, List.setIfInBounds_toArray, List.set_cons_zero, List.set_cons_succ]
        refine wpAnyT_ready (rs := [4]) (by kernel_rfl) rfl ?_
        refine AllT.cons (o := { dst := some 29, op := Op.call { callee := Callee.value (Operand.func 9), args := #[Operand.tmp 27, Operand.tmp 28], argTypes := #[25, 24] }, type := 24, pos := "unify.go:101", after := #[{ on := 2, ground := Ground.data }, { on := 3, ground := Ground.data }], guard := none }) rfl (fun K hK => ?_) ?_
        · (go_simp; go_at_call 9; with_reducible refine (HAp.out _ (by repeat (first | (with_reducible assumption) | (with_reducible exact Keeps.refl _ _) | (with_reducible refine Keeps.drewN ?_ _) | (with_reducible refine Keeps.drew ?_) | with_reducible refine Keeps.setCell ?_ (by first | (intro _; exact rfl) | (intro _; exact Or.inl rfl) | (intro _; exact Or.inr rfl) | (simp; done) | (simp; omega)) _ | (with_reducible refine Keeps.alloc ?_ _)))).mono ?_; rintro e wq ⟨Ar, cr, rfl, hTr, hkq⟩; go_wp2_with fail)
          refine hK.out _ _ (fun _ => ?_) (fun hE => ?_)
          · first | exact hQ.out _ (hk1.mono (fun i _ h => HUL.out i h)) | exact hQ.out _ (Keeps.mono (show Keeps (fun _ => False) w5 _ from (by repeat (first | (with_reducible assumption) | (with_reducible exact Keeps.refl _ _) | (with_reducible refine Keeps.drewN ?_ _) | (with_reducible refine Keeps.drew ?_) | with_reducible refine Keeps.setCell ?_ (by first | (intro _; exact rfl) | (intro _; exact Or.inl rfl) | (intro _; exact Or.inr rfl) | (simp; done) | (simp; omega)) _ | (with_reducible refine Keeps.alloc ?_ _)))) (fun _ _ h => h.elim))
          have hS := hE (by kernel_rfl)
          clear hK K hE
          try simp only [Act.put, List.setIfInBounds_toArray, List.set_cons_zero, List.set_cons_succ]
          refine wpAnyT_ready (rs := [5]) (by kernel_rfl) rfl ?_
          refine AllT.cons (o := { dst := some 30, op := Op.buildSlice 22 1 #[(0, Operand.tmp 29)], type := 22, pos := "unify.go:101", after := #[{ on := 4, ground := Ground.data }], guard := none }) rfl (fun K hK => ?_) ?_
          · go_simp
            refine hK.out _ _ (fun _ => ?_) (fun hE => ?_)
            · first | exact hQ.out _ (hk1.mono (fun i _ h => HUL.out i h)) | exact hQ.out _ (Keeps.mono (show Keeps (fun _ => False) w5 _ from (by repeat (first | (with_reducible assumption) | (with_reducible exact Keeps.refl _ _) | (with_reducible refine Keeps.drewN ?_ _) | (with_reducible refine Keeps.drew ?_) | with_reducible refine Keeps.setCell ?_ (by first | (intro _; exact rfl) | (intro _; exact Or.inl rfl) | (intro _; exact Or.inr rfl) | (simp; done) | (simp; omega)) _ | (with_reducible refine Keeps.alloc ?_ _)))) (fun _ _ h => h.elim))
            have hS := hE (by kernel_rfl)
            clear hK K hE
            try simp only [Act.put, List.setIfInBounds_toArray, List.set_cons_zero, List.set_cons_succ]
            refine wpAnyT_ready (rs := [6]) (by kernel_rfl) rfl ?_
            refine AllT.cons (o := { dst := some 31, op := Op.call { callee := Callee.builtin Builtin.append, args := #[Operand.tmp 26, Operand.tmp 30], argTypes := #[22, 22] }, type := 22, pos := "unify.go:101", after := #[{ on := 1, ground := Ground.data }, { on := 5, ground := Ground.data }, { on := 4, ground := Ground.chain }], guard := none }) rfl (fun K hK => ?_) ?_
            · (refine step_append_kept2n (W0 := w5) rfl (.tmp 26) (.tmp 30) 22 rfl (b4 + 1) 24 i0 _ 4 56 Tryd.underlying22 hi0 hz0 hz1 hz2 rfl (by decide) (.slice Ao U.length co) U.length ((U.map pv4).flatMap V4.cells) rfl HUOwn.out (by repeat (first | (with_reducible assumption) | with_reducible exact Keeps.refl _ _ | with_reducible refine Keeps.drew ?_ | with_reducible refine Keeps.alloc ?_ _)) _ _ #[.int .i64 y.kind, .string y.name, .int .i64 y.var, .slice Ar y.args.length cr] rfl rfl (by first | exact heap_new_at (by simp) | exact heap_up (heap_new_at (by simp)) _) (by simp [Value.oneCell']) HMq.out HBq.out HBZ.out ?_; intro g1 cap1 w6 hown1 hk1 hkp1 hat1; have y3 := hk1.cell d3 HOn.out; have yf := hk1.frozen f3 hb4l HOn.out)
              refine hK.out _ _ (fun _ => ?_) (fun hE => ?_)
              · first | exact hQ.out _ (hk1.mono (fun i _ h => HUL.out i h)) | exact hQ.out _ (Keeps.mono (show Keeps (fun _ => False) w5 _ from (by repeat (first | (with_reducible assumption) | (with_reducible exact Keeps.refl _ _) | (with_reducible refine Keeps.drewN ?_ _) | (with_reducible refine Keeps.drew ?_) | with_reducible refine Keeps.setCell ?_ (by first | (intro _; exact rfl) | (intro _; exact Or.inl rfl) | (intro _; exact Or.inr rfl) | (simp; done) | (simp; omega)) _ | (with_reducible refine Keeps.alloc ?_ _)))) (fun _ _ h => h.elim))
              have hS := hE (by kernel_rfl)
              clear hK K hE
              try simp only [Act.put, List.setIfInBounds_toArray, List.set_cons_zero, List.set_cons_succ]
              refine wpAnyT_pure (i := 7) (oi := { dst := some 32, op := Op.fieldAddr 24 (Operand.tmp 5) 3, type := 0, pos := "unify.go:101", after := #[{ on := 0, ground := Ground.phase }, { on := 1, ground := Ground.phase }, { on := 2, ground := Ground.phase }, { on := 3, ground := Ground.phase }, { on := 4, ground := Ground.phase }, { on := 5, ground := Ground.phase }, { on := 6, ground := Ground.phase }], guard := none }) (v := ?v9_7_5) rfl (by kernel_rfl) (fun _ _ _ h => h) (Or.inl ⟨by rfl, ?y9_7_5⟩) (fun _ => hS) ?_
              case y9_7_5 => (intro w hSw; go_simp; try with_reducible rfl)
              try simp only [Act.put, List.setIfInBounds_toArray, List.set_cons_zero, List.set_cons_succ]
              refine wpAnyT_ready (rs := [8]) (by kernel_rfl) rfl ?_
              refine AllT.cons (o := { dst := none, op := Op.store 22 (Operand.tmp 32) (Operand.tmp 31), type := 0, pos := "unify.go:101", after := #[{ on := 7, ground := Ground.data }, { on := 6, ground := Ground.data }, { on := 6, ground := Ground.chain }, { on := 0, ground := Ground.phase }, { on := 1, ground := Ground.phase }, { on := 2, ground := Ground.phase }, { on := 3, ground := Ground.phase }, { on := 4, ground := Ground.phase }, { on := 5, ground := Ground.phase }, { on := 6, ground := Ground.phase }], guard := none }) rfl (fun K hK => ?_) ?_
              · go_simp
                refine hK.out _ _ (fun he => Bool.noConfusion (show false = true from he)) (fun hE => ?_)
                clear hK K hE
                try simp only [Act.put, List.setIfInBounds_toArray, List.set_cons_zero, List.set_cons_succ]
                refine wpAnyT_done (by kernel_rfl) ?_ _
                refine NoPanic.normal ?_
                have hkq6 := keeps_of_app2 hkq hk1 (fun k hk => by have := HUL.out k hk; have := HZ5.out; have := HB6.out; omega) hkp1 (by first | exact fun k o h => heap_up h _ | exact fun k o h => heap_up (heap_up h _) _ | exact fun k o h => h)
                have HNX := Lib.hid (ap_next HM.out HGW.out hlt HX.out HY.out HK5.out (by rw [HZ5.out, HB6.out]) hk1 hkq hTr hkq6 hown1 (hat1.imp id (fun h => by (try simp at h); omega)))
                clear hkq6 hown1 hk1 hkp1 hat1 hkq hTr
                go_wp2_with fail
                go_roundw
                case rel => exact ⟨_, U ++ [(y, .slice Ar y.args.length cr)], by simp, HNX.out⟩
                case measure => simp [intOf]; omega
              exact AllT.nil
            exact AllT.nil
          exact AllT.nil
        exact AllT.nil
      · have kz : ¬ (U.length : Int) < (cur.args.length : Int) := by omega
        have hul : U.length = cur.args.length := by have := hm.few; omega
        obtain ⟨l, hl1, hl2, hl3⟩ := ap_end hm hul
        have hrq := HR2.out
        rw [hl1] at hrq
        obtain rfl := Option.some.inj hrq
        have hyr := hm.res
        have hyo := hm.out
        have hkw := hm.keeps
        have hbb := hm.bb
        have d0 := hyo.cell (i := 0) rfl
        have d1 := hyo.cell (i := 1) rfl
        have d2 := hyo.cell (i := 2) rfl
        have d3 := hyo.cell (i := 3) rfl
        have e0 := hyr.free 0
        have e1 := hyr.free 1
        have e2 := hyr.free 2
        have e3 := hyr.free 3
        have r0 := hyr.cell (i := 0) rfl
        have r1 := hyr.cell (i := 1) rfl
        have r2 := hyr.cell (i := 2) rfl
        have r3 := hyr.cell (i := 3) rfl
        have HYR := Lib.hid hyr
        have HKW := Lib.hid hkw
        have HL2 := Lib.hid hl2
        have HL3 := Lib.hid hl3
        clear hm hyr hyo hkw hl1 hl2 hl3 hul hrq HR2
        go_wp2_with (fail)
        have hl2 := HL2.out
        have hl3 := HL3.out
        rw [hl2] at hl3
        rw [hl2]
        obtain ⟨hB4, hK4⟩ := four HYR.out (.int .i64 cur.kind) (.string cur.name) (.int .i64 cur.var) (.slice Ao l.length co)
        have hkk : Keeps (fun i => b0 ≤ i) W _ := HKW.out.trans hK4 (fun i _ h => by omega)
        have hB := HB0.out
        have hz4 := hK4.size
        exact ret_row Tryd.results9 rfl hB4 Tryd.underlying24 (by kernel_rfl) rfl
          ⟨Ao, co, rfl, (hl3.keeps hK4 (fun i hi e => by
            rcases hi.1 with h | h
            · have := HGB.out i h; omega
            · omega)).mono (fun b hb => ⟨hb.1.imp id (fun h => by omega), by have := hb.2; omega⟩), Keeps.of_below (X := fun _ => False) (hkk.below (fun i hi => by omega) (Nat.le_refl _))⟩
theorem apply_any (σ : List Ty) (hσ : ∀ x ∈ σ, x.Wf ∧ nodes x ≤ 33554432) (k : Nat) : ∀ q, ApAt σ k q
  | 0 => fun W G sv av t r _ _ _ _ _ h => by cases h
  | q + 1 => apply_step σ hσ k q (apply_any σ hσ k q)
end Go.Proofs.YthchnabhbpdfgaaDoor
