/- The reader: typ. -/
import Derived.Test.YtcbkihplchdhhaaDoorIfA
import Derived.Defers
import Derived.Deep.RegionHeld3
import Derived.Deep.CutRange
import Derived.Deep.DeepCutAuto
namespace Go.Proofs.YtcbkihplchdhhaaDoor
open Go.RowKit Go.Shelf

namespace If
theorem typR_len : ∀ k, Short (typR k)
  | 0 => fun r => Nat.le_refl _
  | k + 1 => fun r => by
    rw [typR]
    split
    · exact Nat.le_refl _
    · dsimp only
      have h1 := numR_len r
      have h2 := textR_len (numR r).2
      have h3 := numR_len (textR (numR r).2).2
      have h4 := allR_len (typR_len k) (numR (textR (numR r).2).2).2
      omega
theorem typ1_d (bp br : Nat) (d : Int) (u : FrameMode) (w : World) (hp : w.cell? ⟨bp, 0, none⟩ = some (.pointer (some ⟨br, 0, none⟩))) (hc : w.cell? ⟨br, 2, none⟩ = some (.int .i64 d)) (hz : w.frozen? ⟨br, 2, none⟩ = false) (h0 : -1000 ≤ d) (h1 : d ≤ 1000) :
    CallsD Tryd.prog 86 #[.pointer (some ⟨bp, 0, none⟩)] u w fun e u' w' => u' = u ∧ (e = .returned (.tuple #[]) ∧ w' = w.setCell ⟨br, 2, none⟩ (.int .i64 (d - 1))) := by
  go_enter_d Tryd.func86, Tryd.ntmps86
  go_wp2
  go_end0
  exact ⟨rfl, rfl⟩
def RTypAt (k : Nat) : Prop := ∀ (br : Nat), RFn 53 #[.pointer (some ⟨br, 0, none⟩)] argA tyD (typR k) br (400 - (k : Int))
theorem zTy_c (w : World) (F : Nat → Prop) : TyC w F zTy (.slice none 0 0) := ⟨by decide, by decide, by decide, Sl.nil_⟩
/-- The end of typ: the deferred closure, then the result. -/
theorem typ_door {W w5 : World} {br bp b2 : Nat} {y : Ty × R} {av : Value} {d e : Int} {a : Act} (he : e = d + 1) (h0 : -100 ≤ d) (h1 : d ≤ 500) (hd : a.defers = [{ target := .fn (.func 86) #[.pointer (some ⟨bp, 0, none⟩)], args := #[] }]) (h2 : a.tmps.getD 2 undef = .pointer (some ⟨b2, 0, none⟩))
    (hp : Blk w5 bp 63 [.pointer (some ⟨br, 0, none⟩)]) (hb : Blk w5 b2 47 (y.1.cells av)) (hn : ¬ b2 = br) (hT : TyC w5 (fun b => W.heap.size ≤ b ∧ b < w5.heap.size) y.1 av) (hbl : br < W.heap.size) (hr : Blk w5 br 65 [.string (bstr y.2.s), .bool y.2.bad, .int .i64 e]) (hk : Keeps (· = br) W w5) :
    bodyPostD Tryd.prog Tryd.f53 (RPost W br d tyD argA y) Exit.ret a w5 := by
  show Leaves _ _ _ _ a.defers .returning w5
  rw [hd]
  subst he
  refine leaves_cons (f := 86) (args := #[.pointer (some ⟨bp, 0, none⟩)]) (by simp) (by simp [go_sem]) ?_
  refine (typ1_d bp br (d + 1) .returning _ (hp.cell (i := 0) rfl) (hr.cell (i := 2) rfl) (hr.free 2) (by omega) (by omega)).mono ?_
  rintro e u' w'' ⟨rfl, rfl, rfl⟩
  have hkb : Keeps (· = br) w5 (w5.setCell ⟨br, 2, none⟩ (.int .i64 (d + 1 - 1))) := (Keeps.refl (· = br) w5).setCell (p := ⟨br, 2, none⟩) (fun _ => rfl) _
  have hz := hkb.size
  have hz' : (w5.setCell ⟨br, 2, none⟩ (.int .i64 (d + 1 - 1))).heap.size = w5.heap.size := by simp [World.setCell]
  refine ⟨_, results_cell_row rfl _ _ b2 47 (y.1.cells av).toArray (0, 0) _ h2 (hb.keeps hkb hn) Tryd.underlying47 rfl (by kernel_rfl), ?_⟩
  refine ⟨y.1.cells av, rfl, tyD.rp.2 ⟨av, rfl, ?_⟩, ?_, hk.trans hkb (fun _ _ h => h)⟩
  · exact (hT.keeps hkb (fun i hi e => by have := hi.1; omega)).mono (fun b hb => ⟨hb.1, by omega⟩)
  · have h5 := hr.set_ 2 (.int .i64 (d + 1 - 1))
    rw [show d + 1 - 1 = d from by omega] at h5 ⊢
    exact h5
set_option maxRecDepth 100000 in
set_option maxHeartbeats 8000000 in
theorem rtyp_zero : RTypAt 0 := by
  intro br W r hr hl
  obtain ⟨s, bad⟩ := r
  unfold RdAt at hr
  have hmf : ∀ (fn : Fn) (first cap : Array Value) (w : World), (Instr.makeFunc fn first cap).run Tryd.prog w = .ok (.func fn first cap) w := fun _ _ _ _ => rfl
  obtain ⟨bp, hbp⟩ : ∃ bp, W.heap.size = bp := ⟨_, rfl⟩
  obtain ⟨b2, hb2⟩ : ∃ b2, bp + 1 = b2 := ⟨_, rfl⟩
  obtain ⟨W0, hW0⟩ : ∃ W0, (W.alloc (.cells #[.pointer (some ⟨br, 0, none⟩)] 63)).alloc (.cells #[.int .i64 0, .string ⟨#[]⟩, .int .i64 0, .slice none 0 0] 47) = W0 := ⟨_, rfl⟩
  have hkw : Keeps (fun _ => False) W W0 := by rw [← hW0]; exact ((Keeps.refl _ _).alloc _).alloc _
  have hpx : Blk W0 bp 63 [.pointer (some ⟨br, 0, none⟩)] := by rw [← hW0, ← hbp]; exact (Blk.new W _ [_]).alloc _
  have h2x : Blk W0 b2 47 [.int .i64 0, .string ⟨#[]⟩, .int .i64 0, .slice none 0 0] := by
    rw [← hW0, ← hb2, ← hbp]
    have := Blk.new (W.alloc (.cells #[.pointer (some ⟨br, 0, none⟩)] 63)) 47 [.int .i64 0, .string ⟨#[]⟩, .int .i64 0, .slice none 0 0]
    simpa using this
  have hrx := hr.keeps hkw (fun h => h)
  have hbl := hr.lt
  have n1 : ¬ bp = br := by omega
  have n2 : ¬ b2 = br := by omega
  have n3 : ¬ br = bp := by omega
  have n4 : ¬ br = b2 := by omega
  have p0 := hpx.cell (i := 0) rfl
  have r0 := hrx.cell (i := 0) rfl
  have r1 := hrx.cell (i := 1) rfl
  have r2 := hrx.cell (i := 2) rfl
  have f0 := hrx.free 0
  have f1 := hrx.free 1
  have f2 := hrx.free 2
  have y0 := h2x.cell (i := 0) rfl
  have y1 := h2x.cell (i := 1) rfl
  have y2 := h2x.cell (i := 2) rfl
  have y3 := h2x.cell (i := 3) rfl
  have z0 := h2x.free 0
  have z1 := h2x.free 1
  have z2 := h2x.free 2
  have z3 := h2x.free 3
  have HW0 := Lib.hid hW0
  have HBp := Lib.hid hbp
  have HB2 := Lib.hid hb2
  have HK := Lib.hid hkw
  have HP := Lib.hid hpx
  have H2 := Lib.hid h2x
  have HR := Lib.hid hrx
  clear hW0 hbp hb2 hkw hpx h2x hrx hr
  go_enter_defers Tryd.func53, Tryd.ntmps53
  go_upto_region 1 with (fail)
  rw [HW0.out, HBp.out, HB2.out]
  go_wp2_with fail
  have hk1 : Keeps (· = br) W0 ((W0.setCell ⟨br, 2, none⟩ (.int .i64 401)).setCell ⟨br, 1, none⟩ (.bool true)) := ((Keeps.refl (· = br) W0).setCell (p := ⟨br, 2, none⟩) (fun _ => rfl) _).setCell (p := ⟨br, 1, none⟩) (fun _ => rfl) _
  have hk2 : Keeps (· = b2) ((W0.setCell ⟨br, 2, none⟩ (.int .i64 401)).setCell ⟨br, 1, none⟩ (.bool true)) ((((((W0.setCell ⟨br, 2, none⟩ (.int .i64 401)).setCell ⟨br, 1, none⟩ (.bool true)).setCell ⟨b2, 0, none⟩ (.int .i64 0)).setCell ⟨b2, 1, none⟩ (.string ⟨#[]⟩)).setCell ⟨b2, 2, none⟩ (.int .i64 0)).setCell ⟨b2, 3, none⟩ (.slice none 0 0)) := ((((Keeps.refl (· = b2) _).setCell (p := ⟨b2, 0, none⟩) (fun _ => rfl) _).setCell (p := ⟨b2, 1, none⟩) (fun _ => rfl) _).setCell (p := ⟨b2, 2, none⟩) (fun _ => rfl) _).setCell (p := ⟨b2, 3, none⟩) (fun _ => rfl) _
  have e1 := HB2.out
  have e2 := HBp.out
  refine typ_door (e := 401) (d := 400) (av := .slice none 0 0) (y := typR 0 ⟨s, bad⟩) rfl (by decide) (by decide) rfl rfl ((HP.out.keeps hk1 n1).keeps hk2 (by omega)) (((((H2.out.keeps hk1 n2).set_ 0 _).set_ 1 _).set_ 2 _).set_ 3 _) n2 (zTy_c _ _) hbl ((((HR.out.set_ 2 _).set_ 1 _).keeps hk2 n4)) ?_
  exact ((HK.out.mono (fun _ _ h => h.elim)).trans hk1 (fun _ _ h => h)).trans hk2 (fun i hi h => by omega)
theorem wf_num (n : Int) (h : -2147483648 ≤ n ∧ n ≤ 2147483647) : (Lit.int .i64 n).wf = true := WalkArith.wf_i64 (by omega)
theorem textR_size (r : R) : (textR r).1.size ≤ r.s.length := by
  have h1 := manyR_le 1 r
  have h2 := manyR_len 1 r
  rw [Nat.div_one] at h1
  show (List.toArray _).size ≤ _
  rw [List.size_toArray, List.length_take]
  omega
set_option maxRecDepth 100000 in
set_option maxHeartbeats 8000000 in
theorem rtyp_bad (k : Nat) (hk : k < 400) (br : Nat) (W : World) (s : Bs) (d : Int) (hd : d = 399 - (k : Int)) (hr : RdAt W br ⟨s, true⟩ d) :
    Calls Tryd.prog 53 #[.pointer (some ⟨br, 0, none⟩)] W (RPost W br d tyD argA (typR (k + 1) ⟨s, true⟩)) := by
  have d0 : (0 : Int) ≤ d := by omega
  have d1 : d ≤ 399 := by omega
  have d2 : ¬ (400 < d + 1) := by omega
  clear hd
  unfold RdAt at hr
  have hmf : ∀ (fn : Fn) (first cap : Array Value) (w : World), (Instr.makeFunc fn first cap).run Tryd.prog w = .ok (.func fn first cap) w := fun _ _ _ _ => rfl
  obtain ⟨bp, hbp⟩ : ∃ bp, W.heap.size = bp := ⟨_, rfl⟩
  obtain ⟨b2, hb2⟩ : ∃ b2, bp + 1 = b2 := ⟨_, rfl⟩
  obtain ⟨W0, hW0⟩ : ∃ W0, (W.alloc (.cells #[.pointer (some ⟨br, 0, none⟩)] 63)).alloc (.cells #[.int .i64 0, .string ⟨#[]⟩, .int .i64 0, .slice none 0 0] 47) = W0 := ⟨_, rfl⟩
  have hkw : Keeps (fun _ => False) W W0 := by rw [← hW0]; exact ((Keeps.refl _ _).alloc _).alloc _
  have hpx : Blk W0 bp 63 [.pointer (some ⟨br, 0, none⟩)] := by rw [← hW0, ← hbp]; exact (Blk.new W _ [_]).alloc _
  have h2x : Blk W0 b2 47 [.int .i64 0, .string ⟨#[]⟩, .int .i64 0, .slice none 0 0] := by
    rw [← hW0, ← hb2, ← hbp]
    have := Blk.new (W.alloc (.cells #[.pointer (some ⟨br, 0, none⟩)] 63)) 47 [.int .i64 0, .string ⟨#[]⟩, .int .i64 0, .slice none 0 0]
    simpa using this
  have hrx := hr.keeps hkw (fun h => h)
  have hbl := hr.lt
  have n1 : ¬ bp = br := by omega
  have n2 : ¬ b2 = br := by omega
  have n3 : ¬ br = bp := by omega
  have n4 : ¬ br = b2 := by omega
  have p0 := hpx.cell (i := 0) rfl
  have r0 := hrx.cell (i := 0) rfl
  have r1 := hrx.cell (i := 1) rfl
  have r2 := hrx.cell (i := 2) rfl
  have f0 := hrx.free 0
  have f1 := hrx.free 1
  have f2 := hrx.free 2
  have y0 := h2x.cell (i := 0) rfl
  have y1 := h2x.cell (i := 1) rfl
  have y2 := h2x.cell (i := 2) rfl
  have y3 := h2x.cell (i := 3) rfl
  have z0 := h2x.free 0
  have z1 := h2x.free 1
  have z2 := h2x.free 2
  have z3 := h2x.free 3
  have HW0 := Lib.hid hW0
  have HBp := Lib.hid hbp
  have HB2 := Lib.hid hb2
  have HK := Lib.hid hkw
  have HP := Lib.hid hpx
  have H2 := Lib.hid h2x
  have HR := Lib.hid hrx
  clear hW0 hbp hb2 hkw hpx h2x hrx hr
  go_enter_defers Tryd.func53, Tryd.ntmps53
  go_upto_region 1 with (fail)
  rw [HW0.out, HBp.out, HB2.out]
  go_wp2_with fail
  have hk1 : Keeps (· = br) W0 (W0.setCell ⟨br, 2, none⟩ (.int .i64 (d + 1))) := (Keeps.refl (· = br) W0).setCell (p := ⟨br, 2, none⟩) (fun _ => rfl) _
  have hk2 : Keeps (· = b2) (W0.setCell ⟨br, 2, none⟩ (.int .i64 (d + 1))) (((((W0.setCell ⟨br, 2, none⟩ (.int .i64 (d + 1))).setCell ⟨b2, 0, none⟩ (.int .i64 0)).setCell ⟨b2, 1, none⟩ (.string ⟨#[]⟩)).setCell ⟨b2, 2, none⟩ (.int .i64 0)).setCell ⟨b2, 3, none⟩ (.slice none 0 0)) := ((((Keeps.refl (· = b2) _).setCell (p := ⟨b2, 0, none⟩) (fun _ => rfl) _).setCell (p := ⟨b2, 1, none⟩) (fun _ => rfl) _).setCell (p := ⟨b2, 2, none⟩) (fun _ => rfl) _).setCell (p := ⟨b2, 3, none⟩) (fun _ => rfl) _
  have e1 := HB2.out
  have e2 := HBp.out
  refine typ_door (e := d + 1) (d := d) (av := .slice none 0 0) (y := typR (k + 1) ⟨s, true⟩) rfl (by omega) (by omega) rfl rfl ((HP.out.keeps hk1 n1).keeps hk2 (by omega)) (((((H2.out.keeps hk1 n2).set_ 0 _).set_ 1 _).set_ 2 _).set_ 3 _) n2 (zTy_c _ _) hbl (((HR.out.set_ 2 _).keeps hk2 n4)) ?_
  exact ((HK.out.mono (fun _ _ h => h.elim)).trans hk1 (fun _ _ h => h)).trans hk2 (fun i hi h => by omega)
set_option maxRecDepth 100000 in
set_option maxHeartbeats 8000000 in
theorem rtyp_good (k : Nat) (hk : k < 400) (ih : RTypAt k) (br : Nat) (W : World) (s : Bs) (d : Int) (hd : d = 399 - (k : Int)) (hl : s.length ≤ 1048576) (hr : RdAt W br ⟨s, false⟩ d) :
    Calls Tryd.prog 53 #[.pointer (some ⟨br, 0, none⟩)] W (RPost W br d tyD argA (typR (k + 1) ⟨s, false⟩)) := by
  have d0 : (0 : Int) ≤ d := by omega
  have d1 : d ≤ 399 := by omega
  have d2 : ¬ (400 < d + 1) := by omega
  have ih' := ih br
  rw [show 400 - (k : Int) = d + 1 from by omega] at ih'
  have HI := Lib.hid ih'
  clear hd ih ih'
  unfold RdAt at hr
  have hmf : ∀ (fn : Fn) (first cap : Array Value) (w : World), (Instr.makeFunc fn first cap).run Tryd.prog w = .ok (.func fn first cap) w := fun _ _ _ _ => rfl
  obtain ⟨bp, hbp⟩ : ∃ bp, W.heap.size = bp := ⟨_, rfl⟩
  obtain ⟨b2, hb2⟩ : ∃ b2, bp + 1 = b2 := ⟨_, rfl⟩
  obtain ⟨W0, hW0⟩ : ∃ W0, (W.alloc (.cells #[.pointer (some ⟨br, 0, none⟩)] 63)).alloc (.cells #[.int .i64 0, .string ⟨#[]⟩, .int .i64 0, .slice none 0 0] 47) = W0 := ⟨_, rfl⟩
  have hkw : Keeps (fun _ => False) W W0 := by rw [← hW0]; exact ((Keeps.refl _ _).alloc _).alloc _
  have hpx : Blk W0 bp 63 [.pointer (some ⟨br, 0, none⟩)] := by rw [← hW0, ← hbp]; exact (Blk.new W _ [_]).alloc _
  have h2x : Blk W0 b2 47 [.int .i64 0, .string ⟨#[]⟩, .int .i64 0, .slice none 0 0] := by
    rw [← hW0, ← hb2, ← hbp]
    have := Blk.new (W.alloc (.cells #[.pointer (some ⟨br, 0, none⟩)] 63)) 47 [.int .i64 0, .string ⟨#[]⟩, .int .i64 0, .slice none 0 0]
    simpa using this
  have hrx := hr.keeps hkw (fun h => h)
  have hbl := hr.lt
  have n1 : ¬ bp = br := by omega
  have n2 : ¬ b2 = br := by omega
  have n3 : ¬ br = bp := by omega
  have n4 : ¬ br = b2 := by omega
  have p0 := hpx.cell (i := 0) rfl
  have r0 := hrx.cell (i := 0) rfl
  have r1 := hrx.cell (i := 1) rfl
  have r2 := hrx.cell (i := 2) rfl
  have f0 := hrx.free 0
  have f1 := hrx.free 1
  have f2 := hrx.free 2
  have y0 := h2x.cell (i := 0) rfl
  have y1 := h2x.cell (i := 1) rfl
  have y2 := h2x.cell (i := 2) rfl
  have y3 := h2x.cell (i := 3) rfl
  have z0 := h2x.free 0
  have z1 := h2x.free 1
  have z2 := h2x.free 2
  have z3 := h2x.free 3
  have HW0 := Lib.hid hW0
  have HBp := Lib.hid hbp
  have HB2 := Lib.hid hb2
  have HK := Lib.hid hkw
  have HP := Lib.hid hpx
  have H2 := Lib.hid h2x
  have HR := Lib.hid hrx
  clear hW0 hbp hb2 hkw hpx h2x hrx hr
  have eg : Enters Tryd.prog 53 := enters_of Tryd.func53 (by kernel_rfl) rfl
  have HEg := Lib.hid eg
  clear eg
  obtain ⟨a, ha⟩ : ∃ a, numR ⟨s, false⟩ = a := ⟨_, rfl⟩
  obtain ⟨b, hb⟩ : ∃ b, textR a.2 = b := ⟨_, rfl⟩
  obtain ⟨c, hc⟩ : ∃ c, numR b.2 = c := ⟨_, rfl⟩
  obtain ⟨l, hl'⟩ : ∃ l, allR (typR k) c.2 = l := ⟨_, rfl⟩
  have hy : typR (k + 1) ⟨s, false⟩ = (.mk a.1 b.1 c.1 l.1, l.2) := by rw [← hl', ← hc, ← hb, ← ha]; rfl
  rw [hy]
  have la : a.2.s.length ≤ s.length := by have := numR_len ⟨s, false⟩; rw [ha] at this; exact this
  have lb : b.2.s.length ≤ a.2.s.length := by have := textR_len a.2; rw [hb] at this; exact this
  have lc : c.2.s.length ≤ b.2.s.length := by have := numR_len b.2; rw [hc] at this; exact this
  have wa : (Lit.int .i64 a.1).wf = true := by have := numR_wf ⟨s, false⟩; rw [ha] at this; exact wf_num _ this
  have wc : (Lit.int .i64 c.1).wf = true := by have := numR_wf b.2; rw [hc] at this; exact wf_num _ this
  have wb : b.1.size ≤ maxLen := by have := textR_size a.2; rw [hb] at this; unfold maxLen; omega
  have HL := Lib.hid (And.intro la (And.intro lb (And.intro lc (And.intro wa (And.intro wc wb)))))
  have HLs := Lib.hid hl
  have HA := Lib.hid ha
  have HBb := Lib.hid hb
  have HCc := Lib.hid hc
  have HLl := Lib.hid hl'
  clear hy la lb lc wa wc wb ha hb hc hl' hl
  obtain ⟨W1, hW1⟩ : ∃ W1, W0.setCell ⟨br, 2, none⟩ (.int .i64 (d + 1)) = W1 := ⟨_, rfl⟩
  have hk1 : Keeps (· = br) W0 W1 := by rw [← hW1]; exact (Keeps.refl (· = br) W0).setCell (p := ⟨br, 2, none⟩) (fun _ => rfl) _
  have hr1 : RdAt W1 br ⟨s, false⟩ (d + 1) := by rw [← hW1]; exact HR.out.set_ 2 _
  have hp1 := HP.out.keeps hk1 n1
  have h21 := H2.out.keeps hk1 n2
  have hb1 := hr1.cell (i := 1) rfl
  have q1 := hp1.cell (i := 0) rfl
  have HW1 := Lib.hid hW1
  have HR1 := Lib.hid hr1
  have HP1 := Lib.hid hp1
  have H21 := Lib.hid h21
  have HK1 : Hid (Keeps (· = br) W W1) := (HK.out.mono (fun _ _ h => h.elim)).trans hk1 (fun _ _ h => h)
  clear hW1 hr1 hp1 h21 hk1 HR HP H2 HK
  go_enter_defers Tryd.func53, Tryd.ntmps53
  go_upto_region 1 with (fail)
  rw [HW0.out, HBp.out, HB2.out]
  go_upto_region 4 with (fail)
  rw [HW1.out]
  clear r0 r1 r2 f0 f1 f2 y0 y1 y2 y3 z0 z1 z2 z3 p0
  go_wp2_with fail
  have hN := rnum_any W1 br ⟨s, false⟩ (d + 1) HR1.out
  rw [HA.out] at hN
  refine hN.mono ?_
  clear hN
  rintro e w2 ⟨rfl, hr2, hk2⟩
  obtain ⟨bt, hbt⟩ : ∃ bt, w2.heap.size = bt := ⟨_, rfl⟩
  obtain ⟨W3, hW3⟩ : ∃ W3, w2.alloc (.cells #[.int .i64 a.1, .string ⟨#[]⟩, .int .i64 0, .slice none 0 0] 47) = W3 := ⟨_, rfl⟩
  have hk3 : Keeps (fun _ => False) w2 W3 := by rw [← hW3]; exact (Keeps.refl _ _).alloc _
  have ht3 : Blk W3 bt 47 [.int .i64 a.1, .string ⟨#[]⟩, .int .i64 0, .slice none 0 0] := by rw [← hW3, ← hbt]; exact Blk.new w2 _ [_, _, _, _]
  have hr3 := hr2.keeps hk3 (fun h => h)
  have hp3 := (HP1.out.keeps hk2 n1).keeps hk3 (fun h => h)
  have h23 := (H21.out.keeps hk2 n2).keeps hk3 (fun h => h)
  have hkW3 := (HK1.out.trans hk2 (fun _ _ h => h)).trans hk3 (fun _ _ h => h.elim)
  have hbl3 : bp < w2.heap.size ∧ b2 < w2.heap.size ∧ br < w2.heap.size := ⟨(HP1.out.keeps hk2 n1).lt, (H21.out.keeps hk2 n2).lt, Blk.lt hr2⟩
  have n5 : ¬ bt = br := by omega
  have n6 : ¬ bt = bp := by omega
  have n7 : ¬ bt = b2 := by omega
  have n8 : ¬ bp = bt := by omega
  have n9 : ¬ b2 = bt := by omega
  have n10 : ¬ br = bt := by omega
  have q2 := hp3.cell (i := 0) rfl
  have HW3 := Lib.hid hW3
  have HBt := Lib.hid hbt
  have HR3 := Lib.hid hr3
  have HP3 := Lib.hid hp3
  have H23 := Lib.hid h23
  have HT3 := Lib.hid ht3
  have HK3 := Lib.hid hkW3
  have hwl : W.heap.size ≤ bt := by rw [← hbt]; exact (HK1.out.trans hk2 (fun _ _ h => h)).size
  have HWl := Lib.hid hwl
  clear hW3 hbt hr3 hp3 h23 ht3 hkW3 hbl3 hr2 hk2 hk3 HR1 HP1 H21 HK1 hb1 q1 hwl
  go_upto_region 8 with (fail)
  rw [HW3.out, HBt.out]
  go_wp2_with fail
  have hN := rtext_any W3 br a.2 (d + 1) HR3.out (Nat.le_trans HL.out.1 HLs.out)
  rw [HBb.out] at hN
  refine hN.mono ?_
  clear hN
  rintro e w4 ⟨rfl, hr4, hk4⟩
  have g1 := (HT3.out.keeps hk4 n5).free 1
  have g2 := (HT3.out.keeps hk4 n5).cell (i := 1) rfl
  obtain ⟨W5, hW5⟩ : ∃ W5, w4.setCell ⟨bt, 1, none⟩ (.string b.1) = W5 := ⟨_, rfl⟩
  have hk5 : Keeps (· = bt) w4 W5 := by rw [← hW5]; exact (Keeps.refl (· = bt) w4).setCell (p := ⟨bt, 1, none⟩) (fun _ => rfl) _
  have ht5 : Blk W5 bt 47 [.int .i64 a.1, .string b.1, .int .i64 0, .slice none 0 0] := by rw [← hW5]; exact (HT3.out.keeps hk4 n5).set_ 1 _
  have hr5 := hr4.keeps hk5 n10
  have hp5 := (HP3.out.keeps hk4 n1).keeps hk5 n8
  have h25 := (H23.out.keeps hk4 n2).keeps hk5 n9
  have q3 := hp5.cell (i := 0) rfl
  have HW5 := Lib.hid hW5
  have HR5 := Lib.hid hr5
  have HP5 := Lib.hid hp5
  have H25 := Lib.hid h25
  have HT5 := Lib.hid ht5
  have HK5 : Hid (Keeps (· = br) W W5) := (HK3.out.trans hk4 (fun _ _ h => h)).trans hk5 (fun i hi h => by have := HWl.out; omega)
  clear hW5 hr5 hp5 h25 ht5 hk4 hk5 hr4 HR3 HP3 H23 HT3 HK3 q2
  go_upto_region 9 with (fail)
  rw [HW5.out]
  clear g1 g2
  go_wp2_with fail
  have hN := rnum_any W5 br b.2 (d + 1) HR5.out
  rw [HCc.out] at hN
  refine hN.mono ?_
  clear hN
  rintro e w6 ⟨rfl, hr6, hk6⟩
  have g1 := (HT5.out.keeps hk6 n5).free 2
  have g2 := (HT5.out.keeps hk6 n5).cell (i := 2) rfl
  obtain ⟨W7, hW7⟩ : ∃ W7, w6.setCell ⟨bt, 2, none⟩ (.int .i64 c.1) = W7 := ⟨_, rfl⟩
  have hk7 : Keeps (· = bt) w6 W7 := by rw [← hW7]; exact (Keeps.refl (· = bt) w6).setCell (p := ⟨bt, 2, none⟩) (fun _ => rfl) _
  have ht7 : Blk W7 bt 47 [.int .i64 a.1, .string b.1, .int .i64 c.1, .slice none 0 0] := by rw [← hW7]; exact (HT5.out.keeps hk6 n5).set_ 2 _
  have hr7 := hr6.keeps hk7 n10
  have hp7 := (HP5.out.keeps hk6 n1).keeps hk7 n8
  have h27 := (H25.out.keeps hk6 n2).keeps hk7 n9
  have q4 := hp7.cell (i := 0) rfl
  have HW7 := Lib.hid hW7
  have HR7 := Lib.hid hr7
  have HP7 := Lib.hid hp7
  have H27 := Lib.hid h27
  have HT7 := Lib.hid ht7
  have HK7 : Hid (Keeps (· = br) W W7) := (HK5.out.trans hk6 (fun _ _ h => h)).trans hk7 (fun i hi h => by have := HWl.out; omega)
  clear hW7 hr7 hp7 h27 ht7 hk6 hk7 hr6 HR5 HP5 H25 HT5 HK5 q3
  go_upto_region 10 with (fail)
  rw [HW7.out]
  clear g1 g2
  go_wp2_with fail
  have hN := allTy_any br (d + 1) 53 #[.pointer (some ⟨br, 0, none⟩)] HEg.out (typR k) (typR_len k) HI.out W7 c.2 HR7.out (Nat.le_trans HL.out.2.2.1 (Nat.le_trans HL.out.2.1 (Nat.le_trans HL.out.1 HLs.out)))
  rw [HLl.out] at hN
  refine hN.mono ?_
  clear hN
  rintro e w8 ⟨lv, rfl, hSl, hr8, hk8⟩
  obtain ⟨Al', cl', rfl, -, -, -⟩ := hSl.form
  have ht8 := HT7.out.keeps hk8 n5
  have g1 := ht8.free 3
  have g2 := ht8.cell (i := 3) rfl
  have h28 := H27.out.keeps hk8 n2
  have hz7 : bt < W7.heap.size := HT7.out.lt
  have hb7 : b2 < W7.heap.size := H27.out.lt
  obtain ⟨W9, hW9⟩ : ∃ W9, w8.setCell ⟨bt, 3, none⟩ (.slice Al' l.1.length cl') = W9 := ⟨_, rfl⟩
  have hk9 : Keeps (· = bt) w8 W9 := by rw [← hW9]; exact (Keeps.refl (· = bt) w8).setCell (p := ⟨bt, 3, none⟩) (fun _ => rfl) _
  have ht9 : Blk W9 bt 47 [.int .i64 a.1, .string b.1, .int .i64 c.1, .slice Al' l.1.length cl'] := by rw [← hW9]; exact ht8.set_ 3 _
  have hz9 : W9.heap.size = w8.heap.size := by rw [← hW9]; simp [World.setCell]
  have hr9 := hr8.keeps hk9 n10
  have hp9 := (HP7.out.keeps hk8 n1).keeps hk9 n8
  have h29 := h28.keeps hk9 n9
  have t0 := ht9.cell (i := 0) rfl
  have t1 := ht9.cell (i := 1) rfl
  have t2 := ht9.cell (i := 2) rfl
  have t3 := ht9.cell (i := 3) rfl
  have y0 := h29.cell (i := 0) rfl
  have y1 := h29.cell (i := 1) rfl
  have y2 := h29.cell (i := 2) rfl
  have y3 := h29.cell (i := 3) rfl
  have z0 := h29.free 0
  have z1 := h29.free 1
  have z2 := h29.free 2
  have z3 := h29.free 3
  have HW9 := Lib.hid hW9
  have HR9 := Lib.hid hr9
  have HP9 := Lib.hid hp9
  have H29 := Lib.hid h29
  have HK9 : Hid (Keeps (· = br) W W9) := (HK7.out.trans hk8 (fun _ _ h => h)).trans hk9 (fun i hi h => by have := HWl.out; omega)
  have HS9 : Hid (Sl W9 (fun b => W.heap.size ≤ b ∧ b < W9.heap.size ∧ ¬ b = b2) tyD l.1 (.slice Al' l.1.length cl')) := (hSl.keeps hk9 (fun i hi h => by have := hi.1; omega)).mono (fun b hb => ⟨Nat.le_trans HK7.out.size hb.1, by rw [hz9]; exact hb.2, by have := hb.1; omega⟩)
  clear hW9 hr9 hp9 h29 ht9 hk8 hk9 hr8 ht8 h28 hSl hz7 hb7 hz9 HR7 HP7 H27 HT7 HK7 q4
  go_upto_region 11 with (fail)
  rw [HW9.out]
  clear g1 g2
  go_wp2_with fail
  have hk10 : Keeps (· = b2) W9 ((((W9.setCell ⟨b2, 0, none⟩ (.int .i64 a.1)).setCell ⟨b2, 1, none⟩ (.string b.1)).setCell ⟨b2, 2, none⟩ (.int .i64 c.1)).setCell ⟨b2, 3, none⟩ (.slice Al' l.1.length cl')) := ((((Keeps.refl (· = b2) _).setCell (p := ⟨b2, 0, none⟩) (fun _ => rfl) _).setCell (p := ⟨b2, 1, none⟩) (fun _ => rfl) _).setCell (p := ⟨b2, 2, none⟩) (fun _ => rfl) _).setCell (p := ⟨b2, 3, none⟩) (fun _ => rfl) _
  have hz10 := hk10.size
  have e1 := HB2.out
  have e2 := HBp.out
  refine typ_door (e := d + 1) (d := d) (av := .slice Al' l.1.length cl') (y := (.mk a.1 b.1 c.1 l.1, l.2)) rfl (by omega) (by omega) rfl rfl (HP9.out.keeps hk10 (by omega)) ((((H29.out.set_ 0 _).set_ 1 _).set_ 2 _).set_ 3 _) n2 ⟨HL.out.2.2.2.1, HL.out.2.2.2.2.2, HL.out.2.2.2.2.1, (HS9.out.keeps hk10 (fun i hi => hi.2.2)).mono (fun b hb => ⟨hb.1, Nat.lt_of_lt_of_le hb.2.1 hz10⟩)⟩ hbl (HR9.out.keeps hk10 n4) ?_
  exact HK9.out.trans hk10 (fun i hi h => by omega)
theorem rtyp_any : ∀ k, k ≤ 400 → RTypAt k
  | 0, _ => rtyp_zero
  | k + 1, hk => by
    intro br W r hr hl
    obtain ⟨s, bad⟩ := r
    have hd : 400 - ((k + 1 : Nat) : Int) = 399 - (k : Int) := by omega
    cases bad with
    | true => exact rtyp_bad k (by omega) br W s _ hd hr
    | false => exact rtyp_good k (by omega) (rtyp_any k (by omega)) br W s _ hd hl hr
end If
end Go.Proofs.YtcbkihplchdhhaaDoor
