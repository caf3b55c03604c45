/- Parse, walked. -/
import Derived.Test.YtcjoapmodaioiaaGreatDoorMPe
set_option linter.unusedVariables false
set_option linter.unusedSimpArgs false
namespace Go.Proofs.YtcjoapmodaioiaaGreatDoor
open Go.RowKit Go.Shelf Pa

section
variable {c : Cx} {W w2 : World} {nv bv : Value} {G : Nat → Prop} {ns : List Nv} {s : Ps}
theorem PaAt.worseAt (h : PaAt c W nv bv G ns s) (e : Int) (jj : Nat) {g1 cap1 : Nat} (hk1 : Keeps (fun k => bv.ownBlock = some k) W w2)
    (hown : w2.ownsRow c.B 28 4 (.slice (some ⟨g1, 0, none⟩) (s.bad.length + 1) cap1) (s.bad.length + 1) (s.bad.flatMap (badCells c.l) ++ badCells c.l (e, jj))) (hat : bv.ownBlock = some g1 ∨ W.heap.size ≤ g1)
    (hn : s.bad.length < 1000000) : PaTo c W nv bv G { s with bad := s.bad ++ [(e, jj)] } (w2.setCell ⟨c.bp, 5, none⟩ (.slice (some ⟨g1, 0, none⟩) (s.bad.length + 1) cap1)) := by
  have hb2 := h.box.keeps hk1 h.nB; (have k2 : Keeps (· = c.bp) w2 (w2.setCell ⟨c.bp, 5, none⟩ (.slice (some ⟨g1, 0, none⟩) (s.bad.length + 1) cap1)) := (Keeps.refl (· = c.bp) w2).setCell (p := ⟨c.bp, 5, none⟩) (fun _ => rfl) _); have hs1 := hk1.size; have hs2 := k2.size; have hk : Keeps (fun i => i = c.bp ∨ bv.ownBlock = some i) W (w2.setCell ⟨c.bp, 5, none⟩ (.slice (some ⟨g1, 0, none⟩) (s.bad.length + 1) cap1)) := (hk1.mono (Y := fun i => i = c.bp ∨ bv.ownBlock = some i) (fun i _ hi => .inr hi)).trans k2 (fun i _ e => .inl e)
  have hg : ∀ i, (Value.slice (some ⟨g1, 0, none⟩) (s.bad.length + 1) cap1).ownBlock = some i → bv.ownBlock = some i ∨ W.heap.size ≤ i := fun i hi => by
    (have e1 : g1 = i := by simpa [Value.ownBlock] using hi); rw [← e1]; exact hat
  refine ⟨nv, .slice (some ⟨g1, 0, none⟩) (s.bad.length + 1) cap1, G, ns, ⟨hb2.set_ 5 _, ?_, fun i hi => ⟨by have := (h.far i hi).1; omega, ?_⟩, ?_, h.nds, fun x hx => ?_, fun i hi => ⟨by have := (h.old i hi).1; omega, ?_⟩, ?_, h.pos, h.opn, h.deep, h.few, ?_⟩, hk.mono (fun i _ hi => hi.elim .inl (fun hi => .inr (.inr hi))), fun _ h => h, fun i hi => ?_⟩
  · exact h.toks.keeps hk (fun i hi hx => (h.far i hi).2 (.inl (hx.elim .inl (fun hx => .inr (.inr hx)))))
  · rintro ((e | e | e) | e)
    · exact (h.far i hi).2 (.inl (.inl e))
    · exact (h.far i hi).2 (.inl (.inr (.inl e)))
    · rcases hg i e with e | e
      · exact (h.far i hi).2 (.inl (.inr (.inr e)))
      · have := (h.far i hi).1; omega
    · exact (h.far i hi).2 (.inr e)
  · exact own_keeps h.nod hk (fun i hi hx => hx.elim (fun e => h.nN (by rw [hi, e])) (fun e => h.nNB i hi e))
  · exact (h.kids x hx).keeps hk (fun i hi hx => (h.old i hi).2 (hx.elim .inl (fun hx => .inr (.inr hx))))
  · rintro (e | e | e)
    · exact (h.old i hi).2 (.inl e)
    · exact (h.old i hi).2 (.inr (.inl e))
    · rcases hg i e with e | e
      · exact (h.old i hi).2 (.inr (.inr e))
      · have := (h.old i hi).1; omega
  · (have := own_keeps hown k2 (fun i hi e => own_ne_blk hown hb2 (by decide) (by rw [hi, e]))); simpa [List.length_append, List.flatMap_append] using this
  · show (s.bad ++ [(e, jj)]).length ≤ 1000000
    rw [List.length_append]; simp only [List.length_cons, List.length_nil]; omega
  · rcases hi with (e | e | e) | e
    · exact .inl (.inl (.inl e))
    · exact .inl (.inl (.inr (.inl e)))
    · rcases hg i e with e | e
      · exact .inl (.inl (.inr (.inr e)))
      · exact .inr e
    · exact .inl (.inr e)
end
def toksP (s : ByteArray) : List Tok := (lexS s).1.map Tk.tok
def Laid1 (s : ByteArray) : Prop := chk s = 0 ∧ (lexS s).2 = false ∧ layChk (toksP s) = 0
def ScanP (Y : Nat → World → Value → Int → Prop) (s : ByteArray) (w : World) (e : Ending) (w' : World) : Prop :=
  Below w.heap.size w w' ∧ ((∃ v1 A n k c, c ≠ 0 ∧ e = .returned (.tuple #[v1, .slice A n k, .int .i64 c]) ∧ Y w.heap.size w' (.slice A n k) c ∧ (chk s ≠ 0 ∨ (lexS s).2 = true)) ∨
    (chk s = 0 ∧ (lexS s).2 = false ∧ ∃ v, e = .returned (.tuple #[v, .slice none 0 0, .int .i64 0]) ∧ w'.ownsRow w.heap.size 59 5 v (toksP s).length ((toksP s).flatMap Tok.cells)))
def ParseP (Y : Nat → World → Value → Int → Prop) (s : ByteArray) (W : World) (e : Ending) (w' : World) : Prop := Keeps (fun _ => False) W w' ∧
  ((∃ v c B, c ≠ 0 ∧ W.heap.size ≤ B ∧ e = .returned (.tuple #[.slice none 0 0, v, .int .i64 c]) ∧ Y B w' v c ∧ ¬ Laid1 s) ∨
   (Laid1 s ∧ ∃ e0, (toksP s).getLast? = some e0 ∧
    ((∃ nodes u, parse ((markP (toksP s) e0).map Tok.bt) 400000 = some (.inl nodes) ∧ e = .returned (.tuple #[u, .slice none 0 0, .int .i64 0]) ∧ TreeAt w' W.heap.size nodes u) ∨
     (∃ y r v, parse ((markP (toksP s) e0).map Tok.bt) 400000 = some (.inr (y :: r)) ∧ e = .returned (.tuple #[.slice none 0 0, v, .int .i64 y.1]) ∧ BadAt w' (markP (toksP s) e0) (y :: r) v))))
theorem own_low {w : World} {b b' : Nat} {e : TypeId} {k n : Nat} {v : Value} {xs : List Value} (h : b' ≤ b) (ho : w.ownsRow b e k v n xs) : w.ownsRow b' e k v n xs := by
  obtain ⟨h1, h2⟩ := ho; refine ⟨h1, h2.imp id ?_⟩; rintro ⟨g, cap, cur, e1, e2, e3⟩; exact ⟨g, cap, cur, e1, Nat.le_trans h e2, e3⟩
set_option maxRecDepth 100000 in
set_option maxHeartbeats 8000000 in
theorem parse_any (Y : Nat → World → Value → Int → Prop) (hYk : ∀ (B : Nat) (X : Nat → Prop) w w' v c, (∀ i, X i → i < B) → Keeps X w w' → Y B w v c → Y B w' v c) (hY0 : ∀ B w c, Y B w (.slice none 0 0) c) (s : ByteArray) (W : World) (m : Int) (hL : Lim W W.heap.size m)
    (HS : ∀ w, Lim w w.heap.size m → Calls Tryz.prog 15 #[.string s] w (ScanP Y s w)) : Calls Tryz.prog 6 #[.string s] W (ParseP Y s W) := by
  obtain ⟨b2, hb2⟩ : ∃ b, W.heap.size = b := ⟨_, rfl⟩; obtain ⟨b3, hb3⟩ : ∃ b, b2 + 1 = b := ⟨_, rfl⟩; obtain ⟨b4, hb4⟩ : ∃ b, b3 + 1 = b := ⟨_, rfl⟩; obtain ⟨w3, hw3⟩ : ∃ w, ((W.alloc (.cells #[.slice none 0 0] 22)).alloc (.cells #[.slice none 0 0] 23)).alloc (.cells #[.int .i64 0] 24) = w := ⟨_, rfl⟩; (have hk3 : Keeps (fun _ => False) W w3 := by rw [← hw3]; exact (((Keeps.refl _ _).alloc _).alloc _).alloc _); (have hbl3 : Below W.heap.size W w3 := hk3.below (fun _ h => h.elim) (Nat.le_refl _)); have hz3 : w3.heap.size = b4 + 1 := by rw [← hw3]; simp; omega
  have q2 : Blk w3 b2 22 [.slice none 0 0] := by
    rw [← hw3, ← hb2]; exact ((Blk.new W 22 [.slice none 0 0]).alloc _).alloc _
  have q3 : Blk w3 b3 23 [.slice none 0 0] := by
    have := Blk.new (W.alloc (.cells #[.slice none 0 0] 22)) 23 [.slice none 0 0]; (rw [show (W.alloc (.cells #[.slice none 0 0] 22)).heap.size = b3 from by simp; omega] at this); rw [← hw3]; exact this.alloc _
  have q4 : Blk w3 b4 24 [.int .i64 0] := by
    have := Blk.new ((W.alloc (.cells #[.slice none 0 0] 22)).alloc (.cells #[.slice none 0 0] 23)) 24 [.int .i64 0]; (rw [show ((W.alloc (.cells #[.slice none 0 0] 22)).alloc (.cells #[.slice none 0 0] 23)).heap.size = b4 from by simp; omega] at this); rw [← hw3]; exact this
  have HSc := Lib.hid (HS w3 (hL.here hbl3 (Nat.le_refl _))); have HW3 := Lib.hid hw3; have HB2 := Lib.hid hb2; have HB3 := Lib.hid hb3; have HB4 := Lib.hid hb4; have HK3 := Lib.hid hk3; have HZ3 := Lib.hid hz3; have Q2 := Lib.hid q2; have Q3 := Lib.hid q3; have Q4 := Lib.hid q4; have HYk := Lib.hid hYk; have HY0 := Lib.hid hY0; (have nb3b2 : b3 ≠ b2 := by omega); (have nb2b3 : b2 ≠ b3 := by omega); (have nb4b2 : b4 ≠ b2 := by omega); (have nb2b4 : b2 ≠ b4 := by omega); (have nb4b3 : b4 ≠ b3 := by omega); (have nb3b4 : b3 ≠ b4 := by omega); clear hw3 hb2 hb3 hb4 hk3 hbl3 hz3 q2 q3 q4 hYk hY0 HS; go_enter_defers Tryz.func6, Tryz.ntmps6; go_upto_region 1 with (fail); rw [HW3.out, HB2.out, HB3.out, HB4.out]; go_wp2_with fail
  with_reducible refine HSc.out.mono ?_
  rintro e w4 ⟨hbl, (⟨v1, A2, N2, k2, ce, hce, rfl, hY, hx⟩ | ⟨hc1, hc2, v, rfl, hown⟩)⟩
  · have hz := HZ3.out; have hq2 := HB2.out; have hq3 := HB3.out; have hq4 := HB4.out; (have kb2 := Q2.out.below hbl (by omega)); (have kb3 := Q3.out.below hbl (by omega)); (have kb4 := Q4.out.below hbl (by omega)); have hne : (ce != 0) = true := bne_iff_ne.2 hce
    have HNl : Hid (¬ Laid1 s) := fun h => by
      rcases hx with hx | hx
      · exact hx h.1
      · rw [h.2.1] at hx; cases hx
    have HRes : Hid (∀ X, Keeps (fun i => i = b2 ∨ i = b3 ∨ i = b4) w4 X → ParseP Y s W (.returned (.tuple #[.slice none 0 0, .slice A2 N2 k2, .int .i64 ce])) X) := fun X hk =>
      ⟨(HK3.out.trans (Keeps.of_below (X := fun _ => False) hbl) (fun _ _ h => h)).trans hk (fun i hi h => by have := HB2.out; have := HB3.out; have := HB4.out; omega), .inl ⟨.slice A2 N2 k2, ce, w3.heap.size, hce, HK3.out.size, rfl, HYk.out _ _ _ _ _ _ (fun i hi => by have := HZ3.out; have := HB2.out; have := HB3.out; have := HB4.out; omega) hk hY, HNl.out⟩⟩
    have x3 := kb3.cell (i := 0) rfl; have x3f := kb3.free 0; have x3l := kb3.lt; have x4 := kb4.cell (i := 0) rfl; have x4f := kb4.free 0; have x4l := kb4.lt; clear hbl hY hx hce hz hq2 hq3 hq4; go_upto_region 3 with (fail); obtain ⟨w5, hw5⟩ : ∃ x, (w4.setCell ⟨b3, 0, none⟩ (.slice A2 N2 k2)).setCell ⟨b4, 0, none⟩ (.int .i64 ce) = x := ⟨_, rfl⟩; (have kk : Keeps (fun i => i = b2 ∨ i = b3 ∨ i = b4) w4 w5.drew := by rw [← hw5]; exact (((Keeps.refl (fun i => i = b2 ∨ i = b3 ∨ i = b4) w4).setCell (p := ⟨b3, 0, none⟩) (fun _ => .inr (.inl rfl)) _).setCell (p := ⟨b4, 0, none⟩) (fun _ => .inr (.inr rfl)) _).drew); (have kb2 : Blk w5.drew b2 22 [.slice none 0 0] := by rw [← hw5]; exact ((kb2.far (p := ⟨b3, 0, none⟩) nb2b3 _).far (p := ⟨b4, 0, none⟩) nb2b4 _).drew); (have kb3 : Blk w5.drew b3 23 [.slice A2 N2 k2] := by rw [← hw5]; exact ((kb3.set_ 0 _).far (p := ⟨b4, 0, none⟩) nb3b4 _).drew); (have kb4 : Blk w5.drew b4 24 [.int .i64 ce] := by rw [← hw5]; exact ((kb4.far (p := ⟨b3, 0, none⟩) nb4b3 _).set_ 0 _).drew); have Ob2 : Hid (Blk w5 b2 _ _) := (kb2 : Blk w5 b2 _ _); have Ob3 : Hid (Blk w5 b3 _ _) := (kb3 : Blk w5 b3 _ _); have Ob4 : Hid (Blk w5 b4 _ _) := (kb4 : Blk w5 b4 _ _); rw [hw5]; clear hw5 x3 x3f x3l x4 x4f x4l; refine wp_region_noPanic ?_; refine wp_region_till [] (fun X => X.cell? ⟨b3, 0, none⟩ = some (.slice A2 N2 k2) ∧ X.cell? ⟨b4, 0, none⟩ = some (.int .i64 ce)) (by kernel_rfl) ?_ (fun hE => ?_)
    · exact ⟨kb3.cell (i := 0) rfl, kb4.cell (i := 0) rfl⟩
    (have hS := hE (by kernel_rfl)); refine wpAnyT_take (i := 0) (v := ?v3_0_1) rfl (by kernel_rfl) (fun _ _ _ h => h) (Or.inl ⟨by rfl, ?y3_0_1⟩) hS ?_
    case y3_0_1 => (intro w hSw; (try dsimp only at hSw); go_simp; try with_reducible rfl)
    (try simp only [AP]); refine wpAnyT_take (i := 1) (v := ?v3_1_2) rfl (by kernel_rfl) (fun _ _ _ h => h) (Or.inl ⟨by rfl, ?y3_1_2⟩) hS ?_
    case y3_1_2 => (intro w hSw; (try dsimp only at hSw); go_simp; try with_reducible rfl)
    (try simp only [AP]); (refine wpAnyT_ready (rs := [2]) (by kernel_rfl) rfl ?_); refine AllT.cons rfl (fun K hK => ?_) ?_
    · (have y1 := Ob2.out.cell (i := 0) rfl; have y2 := Ob2.out.free 0; have y3 := Ob2.out.lt; have z1 := kb2.cell (i := 0) rfl; have zf := kb2.free 0; have zl := kb2.lt; go_simp; clear y1 y2 y3 z1 zf zl; have kb3 := kb3.far (p := ⟨b2, 0, none⟩) nb3b2 (.slice none 0 0); have kb4 := kb4.far (p := ⟨b2, 0, none⟩) nb4b2 (.slice none 0 0); have kb2 := kb2.set_ 0 (.slice none 0 0); have kk := kk.setCell (p := ⟨b2, 0, none⟩) (fun _ => .inl rfl) (.slice none 0 0)); refine hK.out _ _ (fun _ => ?_) (fun hE => ?_)
      · exact ⟨kb3.cell (i := 0) rfl, kb4.cell (i := 0) rfl⟩
      (have hS := hE (by kernel_rfl)); clear hK K hE; (try simp only [AP]); (refine wpAnyT_ready (rs := [3]) (by kernel_rfl) rfl ?_); refine AllT.cons rfl (fun K hK => ?_) ?_
      · (have y1 := Ob3.out.cell (i := 0) rfl; have y2 := Ob3.out.free 0; have y3 := Ob3.out.lt; have z1 := kb3.cell (i := 0) rfl; have zf := kb3.free 0; have zl := kb3.lt; go_simp; clear y1 y2 y3 z1 zf zl; have kb2 := kb2.far (p := ⟨b3, 0, none⟩) nb2b3 (.slice A2 N2 k2); have kb4 := kb4.far (p := ⟨b3, 0, none⟩) nb4b3 (.slice A2 N2 k2); have kb3 := kb3.set_ 0 (.slice A2 N2 k2); have kk := kk.setCell (p := ⟨b3, 0, none⟩) (fun _ => .inr (.inl rfl)) (.slice A2 N2 k2)); refine hK.out _ _ (fun _ => ?_) (fun hE => ?_)
        · exact ⟨kb3.cell (i := 0) rfl, kb4.cell (i := 0) rfl⟩
        (have hS := hE (by kernel_rfl)); clear hK K hE; (try simp only [AP]); (refine wpAnyT_ready (rs := [4]) (by kernel_rfl) rfl ?_); refine AllT.cons rfl (fun K hK => ?_) ?_
        · (have y1 := Ob4.out.cell (i := 0) rfl; have y2 := Ob4.out.free 0; have y3 := Ob4.out.lt; have z1 := kb4.cell (i := 0) rfl; have zf := kb4.free 0; have zl := kb4.lt; go_simp; clear y1 y2 y3 z1 zf zl; have kb2 := kb2.far (p := ⟨b4, 0, none⟩) nb2b4 (.int .i64 ce); have kb3 := kb3.far (p := ⟨b4, 0, none⟩) nb3b4 (.int .i64 ce); have kb4 := kb4.set_ 0 (.int .i64 ce); have kk := kk.setCell (p := ⟨b4, 0, none⟩) (fun _ => .inr (.inr rfl)) (.int .i64 ce)); refine hK.out _ _ (fun _ => ?_) (fun hE => ?_)
          · exact ⟨kb3.cell (i := 0) rfl, kb4.cell (i := 0) rfl⟩
          (have hS := hE (by kernel_rfl)); clear hK K hE; (try simp only [AP]); (refine wpAnyT_done (by kernel_rfl) ?_ _); refine NoPanic.normal ?_; clear hS; go_wp2_with fail; exact pend0 rfl rfl rfl rfl (kb2.cell (i := 0) rfl) (kb3.cell (i := 0) rfl) (kb4.cell (i := 0) rfl) (HRes.out _ kk)
        exact AllT.nil
      exact AllT.nil
    exact AllT.nil
  · have hz := HZ3.out; have hq2 := HB2.out; have hq3 := HB3.out; have hq4 := HB4.out; (have kb2 := Q2.out.below hbl (by omega)); (have kb3 := Q3.out.below hbl (by omega)); (have kb4 := Q4.out.below hbl (by omega)); have hsz1 := chk_size hc1; obtain ⟨l, hl⟩ : ∃ l, toksP s = l := ⟨_, rfl⟩; (have hok : ∀ x ∈ l, TokOk x := by rw [← hl]; exact lexS_ok s (by omega)); rw [hl] at hown; obtain ⟨A1, c1, rfl, _, _⟩ := own_form hown; obtain ⟨w5, hw5⟩ : ∃ x, (w4.setCell ⟨b3, 0, none⟩ (.slice none 0 0)).setCell ⟨b4, 0, none⟩ (.int .i64 0) = x := ⟨_, rfl⟩; (have hk5 : Keeps (fun i => i = b2 ∨ i = b3 ∨ i = b4) w4 w5 := by rw [← hw5]; exact ((Keeps.refl (fun i => i = b2 ∨ i = b3 ∨ i = b4) w4).setCell (p := ⟨b3, 0, none⟩) (fun _ => .inr (.inl rfl)) _).setCell (p := ⟨b4, 0, none⟩) (fun _ => .inr (.inr rfl)) _); have x3 := kb3.cell (i := 0) rfl; have x3f := kb3.free 0; have x3l := kb3.lt; have x4 := kb4.cell (i := 0) rfl; have x4f := kb4.free 0; have x4l := kb4.lt; (have jb2 : Blk w5 b2 22 [.slice none 0 0] := by rw [← hw5]; exact (kb2.far (p := ⟨b3, 0, none⟩) nb2b3 _).far (p := ⟨b4, 0, none⟩) nb2b4 _); (have jb3 : Blk w5 b3 23 [.slice none 0 0] := by rw [← hw5]; exact (kb3.set_ 0 _).far (p := ⟨b4, 0, none⟩) nb3b4 _); (have jb4 : Blk w5 b4 24 [.int .i64 0] := by rw [← hw5]; exact (kb4.far (p := ⟨b3, 0, none⟩) nb4b3 _).set_ 0 _); (have hown5 := own_keeps hown hk5 (fun i hi h => by have := (hown.lt i hi).1; omega)); (have hsl := Sl.of_own (f := Tok.d) (F := fun _ => False) (G := fun b => w3.heap.size ≤ b ∧ b < w5.heap.size) hown5 rfl (toks_rp l hok) (fun _ h => h.elim) (fun b hb => hown5.lt b hb)); (have hk05 : Keeps (fun _ => False) W w5 := (HK3.out.trans (Keeps.of_below (X := fun _ => False) hbl) (fun _ _ h => h)).trans hk5 (fun i hi h => by omega)); have hs5 : b4 < w5.heap.size := jb4.lt; (have HMk := Lib.hid (lmark_any l _ _ w5 hsl (fun b hb => hb.2))); have HW5 := Lib.hid hw5; have JB2 := Lib.hid jb2; have JB3 := Lib.hid jb3; have JB4 := Lib.hid jb4; have HK5 := Lib.hid hk05; have HS5 := Lib.hid hs5; have HC1 := Lib.hid hc1; have HC2 := Lib.hid hc2; have HLl := Lib.hid hl; clear hz hq2 hq3 hq4 kb2 kb3 kb4 hsz1 hl hok hown hown5 hsl hk05 hk5 hs5 hw5 jb2 jb3 jb4 hbl hc1 hc2; go_upto_region 4 with (fail); rw [HW5.out]; clear x3 x3f x3l x4 x4f x4l; go_wp2_with fail
    with_reducible refine HMk.out.mono ?_
    rintro e w6 ⟨hk6, (⟨hne, rfl⟩ | ⟨he, e0, u, hlast, rfl, ho, hto⟩)⟩
    · obtain ⟨ce, hce⟩ : ∃ ce, layChk l = ce := ⟨_, rfl⟩; rw [hce] at hne ⊢; have hcb : (ce != 0) = true := bne_iff_ne.2 hne; (have kb2 := JB2.out.keeps hk6 (fun h => h)); (have kb3 := JB3.out.keeps hk6 (fun h => h)); (have kb4 := JB4.out.keeps hk6 (fun h => h)); have hnl : ¬ Laid1 s := fun h => hne (by rw [← hce, ← HLl.out]; exact h.2.2)
      have HRes : Hid (∀ X, Keeps (fun i => i = b2 ∨ i = b3 ∨ i = b4) w6 X → ParseP Y s W (.returned (.tuple #[.slice none 0 0, .slice none 0 0, .int .i64 ce])) X) := fun X hk =>
        ⟨(HK5.out.trans hk6 (fun _ _ h => h)).trans hk (fun i hi h => by have := HB2.out; have := HB3.out; have := HB4.out; omega), .inl ⟨_, ce, W.heap.size, hne, Nat.le_refl _, rfl, HY0.out _ _ _, hnl⟩⟩
      have x4 := kb4.cell (i := 0) rfl; have x4f := kb4.free 0; have x4l := kb4.lt; clear hk6 hne hce hnl; go_upto_region 6 with (fail); obtain ⟨w7, hw7⟩ : ∃ x, w6.setCell ⟨b4, 0, none⟩ (.int .i64 ce) = x := ⟨_, rfl⟩; (have kk : Keeps (fun i => i = b2 ∨ i = b3 ∨ i = b4) w6 w7.drew := by rw [← hw7]; exact ((Keeps.refl (fun i => i = b2 ∨ i = b3 ∨ i = b4) w6).setCell (p := ⟨b4, 0, none⟩) (fun _ => .inr (.inr rfl)) _).drew); (have kb2 : Blk w7.drew b2 22 [.slice none 0 0] := by rw [← hw7]; exact (kb2.far (p := ⟨b4, 0, none⟩) nb2b4 _).drew); (have kb3 : Blk w7.drew b3 23 [.slice none 0 0] := by rw [← hw7]; exact (kb3.far (p := ⟨b4, 0, none⟩) nb3b4 _).drew); (have kb4 : Blk w7.drew b4 24 [.int .i64 ce] := by rw [← hw7]; exact (kb4.set_ 0 _).drew); have Ob2 : Hid (Blk w7 b2 _ _) := (kb2 : Blk w7 b2 _ _); have Ob3 : Hid (Blk w7 b3 _ _) := (kb3 : Blk w7 b3 _ _); have Ob4 : Hid (Blk w7 b4 _ _) := (kb4 : Blk w7 b4 _ _); rw [hw7]; clear hw7 x4 x4f x4l; refine wp_region_noPanic ?_; refine wp_region_till [] (fun X => X.cell? ⟨b4, 0, none⟩ = some (.int .i64 ce)) (by kernel_rfl) ?_ (fun hE => ?_)
      · exact kb4.cell (i := 0) rfl
      (have hS := hE (by kernel_rfl)); refine wpAnyT_take (i := 0) (v := ?v6_0_1) rfl (by kernel_rfl) (fun _ _ _ h => h) (Or.inl ⟨by rfl, ?y6_0_1⟩) hS ?_
      case y6_0_1 => (intro w hSw; (try dsimp only at hSw); go_simp; try with_reducible rfl)
      (try simp only [AP]); (refine wpAnyT_ready (rs := [1]) (by kernel_rfl) rfl ?_); refine AllT.cons rfl (fun K hK => ?_) ?_
      · (have y1 := Ob2.out.cell (i := 0) rfl; have y2 := Ob2.out.free 0; have y3 := Ob2.out.lt; have z1 := kb2.cell (i := 0) rfl; have zf := kb2.free 0; have zl := kb2.lt; go_simp; clear y1 y2 y3 z1 zf zl; have kb3 := kb3.far (p := ⟨b2, 0, none⟩) nb3b2 (.slice none 0 0); have kb4 := kb4.far (p := ⟨b2, 0, none⟩) nb4b2 (.slice none 0 0); have kb2 := kb2.set_ 0 (.slice none 0 0); have kk := kk.setCell (p := ⟨b2, 0, none⟩) (fun _ => .inl rfl) (.slice none 0 0)); refine hK.out _ _ (fun _ => ?_) (fun hE => ?_)
        · exact kb4.cell (i := 0) rfl
        (have hS := hE (by kernel_rfl)); clear hK K hE; (try simp only [AP]); (refine wpAnyT_ready (rs := [2]) (by kernel_rfl) rfl ?_); refine AllT.cons rfl (fun K hK => ?_) ?_
        · (have y1 := Ob3.out.cell (i := 0) rfl; have y2 := Ob3.out.free 0; have y3 := Ob3.out.lt; have z1 := kb3.cell (i := 0) rfl; have zf := kb3.free 0; have zl := kb3.lt; go_simp; clear y1 y2 y3 z1 zf zl; have kb2 := kb2.far (p := ⟨b3, 0, none⟩) nb2b3 (.slice none 0 0); have kb4 := kb4.far (p := ⟨b3, 0, none⟩) nb4b3 (.slice none 0 0); have kb3 := kb3.set_ 0 (.slice none 0 0); have kk := kk.setCell (p := ⟨b3, 0, none⟩) (fun _ => .inr (.inl rfl)) (.slice none 0 0)); refine hK.out _ _ (fun _ => ?_) (fun hE => ?_)
          · exact kb4.cell (i := 0) rfl
          (have hS := hE (by kernel_rfl)); clear hK K hE; (try simp only [AP]); (refine wpAnyT_ready (rs := [3]) (by kernel_rfl) rfl ?_); refine AllT.cons rfl (fun K hK => ?_) ?_
          · (have y1 := Ob4.out.cell (i := 0) rfl; have y2 := Ob4.out.free 0; have y3 := Ob4.out.lt; have z1 := kb4.cell (i := 0) rfl; have zf := kb4.free 0; have zl := kb4.lt; go_simp; clear y1 y2 y3 z1 zf zl; have kb2 := kb2.far (p := ⟨b4, 0, none⟩) nb2b4 (.int .i64 ce); have kb3 := kb3.far (p := ⟨b4, 0, none⟩) nb3b4 (.int .i64 ce); have kb4 := kb4.set_ 0 (.int .i64 ce); have kk := kk.setCell (p := ⟨b4, 0, none⟩) (fun _ => .inr (.inr rfl)) (.int .i64 ce)); refine hK.out _ _ (fun _ => ?_) (fun hE => ?_)
            · exact kb4.cell (i := 0) rfl
            (have hS := hE (by kernel_rfl)); clear hK K hE; (try simp only [AP]); (refine wpAnyT_done (by kernel_rfl) ?_ _); refine NoPanic.normal ?_; clear hS; go_wp2_with fail; exact pend0 rfl rfl rfl rfl (kb2.cell (i := 0) rfl) (kb3.cell (i := 0) rfl) (kb4.cell (i := 0) rfl) (HRes.out _ kk)
          exact AllT.nil
        exact AllT.nil
      exact AllT.nil
    · obtain ⟨M, hM⟩ : ∃ M, markP l e0 = M := ⟨_, rfl⟩; obtain ⟨hst, hM0⟩ := mark_st he hlast; rw [hM] at ho hto hst hM0; obtain ⟨A6, c6, rfl, _, _⟩ := own_form ho; (have kb2 := JB2.out.keeps hk6 (fun h => h)); (have kb3 := JB3.out.keeps hk6 (fun h => h)); (have kb4 := JB4.out.keeps hk6 (fun h => h)); have x4 := kb4.cell (i := 0) rfl; have x4f := kb4.free 0; have x4l := kb4.lt; (have hmf : ∀ (fn : Fn) (first cap : Array Value) (w : World), (Instr.makeFunc fn first cap).run Tryz.prog w = .ok (.func fn first cap) w := fun _ _ _ _ => rfl); have HSt := Lib.hid hst; have HM0 := Lib.hid hM0; have HM := Lib.hid hM; have HO6 := Lib.hid ho; have HTo := Lib.hid hto; have HE := Lib.hid he; have HLast := Lib.hid hlast; have HK6 := Lib.hid hk6; have KB2 := Lib.hid kb2; have KB3 := Lib.hid kb3; have KB4 := Lib.hid kb4; clear hst hM0 hM ho hto he hlast hk6 kb2 kb3 kb4; go_upto_region 9 with (fail); clear hmf x4 x4f x4l; obtain ⟨bp, hbp⟩ : ∃ b, w6.heap.size = b := ⟨_, rfl⟩; obtain ⟨w7, hw7⟩ : ∃ x, w6.setCell ⟨b4, 0, none⟩ (.int .i64 0) = x := ⟨_, rfl⟩; (have hz7 : w7.heap.size = bp := by rw [← hw7, ← hbp]; simp [World.setCell]); obtain ⟨w8, hw8⟩ : ∃ x, w7.alloc (.cells #[.slice A6 M.length c6, .int .i64 0, .int .i64 0, .int .i64 0, .slice none 0 0, .slice none 0 0] 52) = x := ⟨_, rfl⟩; (have hz8 : w8.heap.size = bp + 1 := by rw [← hw8, ← hz7]; simp); obtain ⟨w9, hw9⟩ : ∃ x, w8.alloc (.cells #[.pointer (some ⟨bp, 0, none⟩)] 50) = x := ⟨_, rfl⟩; rw [hbp, hw7, hw8, hw9]
      have hpb : Blk w9 bp 52 [.slice A6 M.length c6, .int .i64 0, .int .i64 0, .int .i64 0, .slice none 0 0, .slice none 0 0] := by
        have := Blk.new w7 52 [.slice A6 M.length c6, .int .i64 0, .int .i64 0, .int .i64 0, .slice none 0 0, .slice none 0 0]; rw [hz7] at this; rw [← hw9, ← hw8]; exact this.alloc _
      have hpp : Blk w9 (bp + 1) 50 [.pointer (some ⟨bp, 0, none⟩)] := by
        have := Blk.new w8 50 [.pointer (some ⟨bp, 0, none⟩)]; rw [hz8] at this; rw [← hw9]; exact this
      (have hk69 : Keeps (fun i => i = b4) w6 w9 := by rw [← hw9, ← hw8, ← hw7]; exact (((Keeps.refl (fun i => i = b4) w6).setCell (p := ⟨b4, 0, none⟩) (fun _ => rfl) _).alloc _).alloc _); (have hk9 : Keeps (fun _ => False) W w9 := (HK5.out.trans HK6.out (fun _ _ h => h)).trans hk69 (fun i hi h => by have := HB2.out; have := HB3.out; have := HB4.out; omega)); have kb2 := KB2.out.keeps hk69 nb2b4; have kb3 := KB3.out.keeps hk69 nb3b4
      have kb4 : Blk w9 b4 24 [.int .i64 0] := by
        rw [← hw9, ← hw8, ← hw7]; exact ((KB4.out.set_ 0 _).alloc _).alloc _
      (have hown9 := own_keeps HO6.out hk69 (fun i hi h => by have := (HO6.out.lt i hi).1; have := HS5.out; omega)); (have h4p : b4 < bp := by rw [← hbp]; exact KB4.out.lt); (have hFl : ∀ i, (Value.slice A6 M.length c6).ownBlock = some i → b4 < i ∧ i < bp := fun i hi => by have := HO6.out.lt i hi; have := HS5.out; omega); (obtain ⟨c, hcl, hlv, hcF, hcB, hcb⟩ : ∃ c : Cx, c.l = M ∧ c.lv = .slice A6 M.length c6 ∧ c.F = (fun b => (Value.slice A6 M.length c6).ownBlock = some b) ∧ c.B = bp ∧ c.bp = bp := ⟨⟨M, .slice A6 M.length c6, fun b => (Value.slice A6 M.length c6).ownBlock = some b, bp, bp⟩, rfl, rfl, rfl, rfl, rfl⟩); subst hcb; subst hcl; obtain ⟨bP, hbP⟩ : ∃ b, c.bp + 1 = b := ⟨_, rfl⟩; rw [hbP] at hpp ⊢
      have hpa : PaAt c w9 (.slice none 0 0) (.slice none 0 0) (fun _ => False) [] s00 := by
        refine ⟨by rw [hlv]; exact hpb, ?_, fun i hi => ?_, World.ownsRow_nil _ _ _ _, rfl, fun x hx => (nomatch hx), fun i hi => hi.elim, World.ownsRow_nil _ _ _ _, HM0.out, ⟨by show -((0 : Nat) : Int) ≤ 0; omega, by show (0 : Int) ≤ ((0 : Nat) : Int); omega⟩, ⟨by show (0 : Int) ≤ 0; omega, by show (0 : Int) ≤ 101; omega⟩, by show 0 ≤ 4096; omega, by show 0 ≤ 1000000; omega⟩
        · rw [hlv, hcF]; exact Sl.of_own (F := fun _ => False) hown9 rfl (toks_rp _ HTo.out) (fun _ h => h.elim) (fun b hb => hb)
        · rw [hcF] at hi; have := hFl i hi; have h9 := hpb.lt; (refine ⟨by omega, ?_⟩); rintro ((h | h | h) | h)
          · omega
          · cases h
          · cases h
          · exact h
      (have hF := Fr.start hpa (by omega) (by show (0 : Int) ≤ 100; omega)); have hlk : Lk (c.l.map Tok.bt) := lk_of HSt.out HM0.out; (have hn4 : ((c.l.map Tok.bt).length : Int) + 2 + 12 * 101 + 8 ≤ (400000 : Nat) := by rw [List.length_map]; have := HSt.out.len; omega); (have hmo : ∀ s s', s.pos < c.l.length → 0 ≤ s.deep → s.deep ≤ 100 → decl (c.l.map Tok.bt) 400000 s = .no s' → s.nodes.length ≤ s'.nodes.length := fun s s' h1 h2 h3 h4 => decl_len hlk hn4 s s' (by simpa using h1) h2 h3 h4); obtain ⟨r, hr⟩ : ∃ r, module (c.l.map Tok.bt) 400000 s00 = r := ⟨_, rfl⟩; have hmod := module_ok (T := True) hlk hn4; unfold Wp at hmod; rw [hr] at hmod; (have hro : r ≠ .out := fun h => by rw [h] at hmod; exact hmod); (have HMod := Lib.hid (module_any HSt.out 400000 (by omega) hmo hF (Int.le_refl _) (by show 0 < 1000000; omega) (BB := 800000) (by show 0 ≤ 800000; omega) (by show 0 + 2 * 400000 ≤ 800000; omega) (by show 800000 < 1000000; omega) hr hro)); (have hLd : Laid1 s := ⟨HC1.out, HC2.out, by rw [HLl.out]; exact HE.out⟩); (have hla : (toksP s).getLast? = some e0 := by rw [HLl.out]; exact HLast.out); (have hmk : markP (toksP s) e0 = c.l := by rw [HLl.out]; exact HM.out); have HR := Lib.hid hr; have HMd := Lib.hid hmod; have HRo := Lib.hid hro; have HLd := Lib.hid hLd; have HLa := Lib.hid hla; have HMk2 := Lib.hid hmk; have HK9 := Lib.hid hk9; have HPp := Lib.hid hpp; have KB2 := Lib.hid kb2; have KB3 := Lib.hid kb3; have KB4 := Lib.hid kb4; have H4p := Lib.hid h4p; have HcB := Lib.hid hcB; have HcF := Lib.hid hcF; have HlV := Lib.hid hlv; have HFl := Lib.hid hFl; have HbP := Lib.hid hbP; have HOw := Lib.hid hown9; have xP := hpp.cell (i := 0) rfl; clear hr hmod hro hLd hla hmk hk9 hpp kb2 kb3 kb4 h4p hcB hcF hlv hFl hbP hown9 hpa hF hlk hn4 hmo hk69 hpb hz7 hz8 hw7 hw8 hw9 hbp; go_wp2_with fail; clear xP
      with_reducible refine HMod.out.mono ?_
      rintro e w10 hres; have h4p := H4p.out; have hB3 := HB3.out; have hB4 := HB4.out; have hbP := HbP.out
      cases r with
      | out => exact absurd rfl HRo.out
      | no s' =>
        obtain ⟨rfl, d, hF⟩ := hres; obtain ⟨nv, bv, G, ns, hC⟩ := hF
        have hkp : Keeps (fun i => i = c.bp) w9 w10 := hC.keep.mono (fun i _ h => by
          rcases h with h | h | h
          · exact h
          · cases h
          · cases h)
        (have hEn : Ends c w10 nv bv G ns { s' with deep := d } b2 b3 b4 bP (.slice none 0 0) (.slice none 0 0) (.int .i64 0) := ⟨hC.pa, HPp.out.keeps hkp (by omega), KB2.out.keeps hkp (by omega), KB3.out.keeps hkp (by omega), KB4.out.keeps hkp (by omega), HcB.out, by omega, by omega, by omega, by omega⟩); have HEn := Lib.hid hEn; have HKp := Lib.hid hkp; have hsome : s'.bad ≠ [] := HMd.out.some
        obtain ⟨y, rr, hyr⟩ : ∃ y r, s'.bad = y :: r := by
          cases hb : s'.bad with
          | nil => exact absurd hb hsome
          | cons y r => exact ⟨y, r, rfl⟩
        have HYr := Lib.hid hyr; clear hC hEn hkp hsome hyr; go_wp2_with fail; refine ppan HEn.out rfl rfl rfl rfl HYr.out (fun w' v hk hb => ?_)
        have hpr : parse ((markP (toksP s) e0).map Tok.bt) 400000 = some (.inr (y :: rr)) := by
          rw [HMk2.out]; unfold parse; have h := HR.out; unfold s00 at h; rw [h, ← HYr.out]
        (refine ⟨(HK9.out.trans HKp.out (fun i hi h => by have := HB2.out; omega)).trans hk (fun i hi h => by have := HB2.out; omega), .inr ⟨HLd.out, e0, HLa.out, .inr ⟨y, rr, v, hpr, rfl, ?_⟩⟩⟩); rw [HMk2.out, ← HYr.out]; exact hb
      | ok uu s' =>
        obtain ⟨he, hF⟩ := hres; obtain rfl := he; obtain ⟨nv, bv, G, ns, hC⟩ := hF
        have hkp : Keeps (fun i => i = c.bp) w9 w10 := hC.keep.mono (fun i _ h => by
          rcases h with h | h | h
          · exact h
          · cases h
          · cases h)
        obtain ⟨xl, rl, hnodes, hx0, hSt⟩ := HMd.out; (have hlen : ns.length = s'.nodes.length := by rw [← hC.pa.nds]; simp); (have hn0 : 0 < ns.length := by rw [hlen, hnodes]; simp); obtain ⟨gn, cn, hv, hgn, hgl⟩ := World.ownsRow.form hC.pa.nod hn0
        have hOP : ∀ i, OwnP c nv bv G i → i = c.bp ∨ w9.heap.size ≤ i := fun i hi => by
          rcases hC.own i hi with ((h | h | h) | h) | h
          · exact .inl h
          · cases h
          · cases h
          · exact h.elim
          · exact .inr h
        have hns : NsAt w10 G ns gn := ⟨fun i hi j u hj => by
          have hu : (ns.flatMap Nv.cells)[i * 6 + j]? = some u := by
            have hlen6 : ∀ (l : List Nv), (l.flatMap Nv.cells).length = l.length * 6 := fun l => by
              induction l with
              | nil => rfl
              | cons x l ih => rw [List.flatMap_cons, List.length_append, ih, List.length_cons]; simp [Nv.cells]; omega
            have hj6 : j < 6 := by
              have := (List.getElem?_eq_some_iff.1 hj).1; simpa [Nv.cells] using this
            (have hsp : ns = ns.take i ++ ns[i] :: ns.drop (i + 1) := by rw [List.getElem_cons_drop]; exact (List.take_append_drop i ns).symm); (rw [hsp, List.flatMap_append, List.getElem?_append_right (by rw [hlen6, List.length_take]; omega), hlen6, List.length_take, Nat.min_eq_left (by omega), Nat.add_sub_cancel_left, List.flatMap_cons, List.getElem?_append_left (by simp [Nv.cells]; omega)]); exact hj
          (have := hC.pa.nod.cells (g := gn) (by rw [hv]; rfl) _ u hu); rw [Go.WideShapes.add_plain] at this
          simpa using this, hC.pa.kids⟩
        have hord : ∀ i (h : i < ns.length), ∀ k ∈ ns[i].nd.kids, k < i := fun i h k hk => by
          refine hSt.tr.ord trivial i ns[i].nd ?_ k hk; rw [← hC.pa.nds, List.getElem?_map, List.getElem?_eq_getElem h]; rfl
        (have hD := depth_any (cap := cn) hns hgl (fun i hi => (hC.pa.old i hi).1) hn0 (by have := hC.pa.few; omega) hord); rw [hC.pa.nds] at hD; have HD := Lib.hid hD; have HPa := Lib.hid hC.pa; have HKp := Lib.hid hkp; have HOP := Lib.hid hOP; have HV := Lib.hid hv; have HBd : Hid (s'.bad.length ≤ 800000) := hC.room; (have xP := (HPp.out.keeps hkp (by omega)).cell (i := 0) rfl); have xN := hC.pa.box.cell (i := 4) rfl; rw [hv] at xN; clear hD hC hkp hOP hv hSt hns hord hgn hgl hn0 hlen; go_upto_region 10 with (fail); go_wp2_with fail
        with_reducible refine HD.out.mono ?_
        rintro e w11 ⟨rfl, hk11⟩; clear xP xN; have hpa := HPa.out.same hk11; (have hkk : Keeps (fun i => i = c.bp) w9 w11 := HKp.out.trans (hk11.mono (Y := fun i => i = c.bp) (fun _ _ h => h.elim)) (fun _ _ h => h)); have hOP := HOP.out; have HKk := Lib.hid hkk; obtain ⟨dp, hdp⟩ : ∃ d, depth s'.nodes = d := ⟨_, rfl⟩; rw [hdp]; have HDp := Lib.hid hdp; clear hdp hk11 hkk; by_cases hbig : 400 < dp
        · (have hbI : (400 : Int) < (dp : Int) := by omega); obtain ⟨t0, ht0⟩ : ∃ t, c.l.getD 0 endTok = t := ⟨_, rfl⟩; (have hbc : badCells c.l (2, 0) = [.int .i64 2, .int .i64 t0.line, .int .i64 t0.col, .string ⟨#[]⟩] := by unfold badCells; rw [ht0]); obtain ⟨n5, hnl⟩ : ∃ n, s'.bad.length = n := ⟨_, rfl⟩; have hbd := HBd.out; rw [hnl] at hbd; (have HMq : Hid (n5 + 1 ≤ maxLen) := by show _ ≤ _; unfold maxLen; omega); (have HBq : Hid ((n5 + 1) * 40 ≤ 140737488355328) := by show _ ≤ _; omega); have hown := hpa.bad; rw [hnl] at hown; have HOwn := Lib.hid hown; (have HBZ : Hid (c.B ≤ w11.heap.size) := by show _ ≤ _; rw [HcB.out]; have := hpa.box.lt; omega); have HNO := Lib.hid hpa.nB; have HBox := Lib.hid hpa.box; obtain ⟨tg, ct, hvt, _, htl⟩ := World.ownsRow.form HOw.out HM0.out; simp only [Value.slice.injEq] at hvt; obtain ⟨rfl, _, rfl⟩ := hvt; have htF := HFl.out tg rfl
          obtain ⟨l0, lr, hl0⟩ : ∃ x r, c.l = x :: r := by
            cases hcl : c.l with
            | nil => have := HM0.out; rw [hcl] at this; simp at this
            | cons x r => exact ⟨x, r, rfl⟩
          (have ht0' : l0 = t0 := by rw [← ht0, hl0]; rfl); have hkW9 : Keeps (fun i => i = c.bp) w9 w11 := HKk.out
          have tc3 : w11.cell? ⟨tg, 3, none⟩ = some (.int .i64 t0.line) := hkW9.cell (by
            (have := HOw.out.cells (g := tg) rfl 3 (.int .i64 t0.line) (by rw [hl0, ht0']; rfl)); rw [Go.WideShapes.add_plain] at this
            simpa using this) (by show ¬ tg = c.bp; omega)
          have tc4 : w11.cell? ⟨tg, 4, none⟩ = some (.int .i64 t0.col) := hkW9.cell (by
            (have := HOw.out.cells (g := tg) rfl 4 (.int .i64 t0.col) (by rw [hl0, ht0']; rfl)); rw [Go.WideShapes.add_plain] at this
            simpa using this) (by show ¬ tg = c.bp; omega)
          (have xP := (HPp.out.keeps hkW9 (by omega)).cell (i := 0) rfl); (have hbv : ∀ i, bv.ownBlock = some i → i = c.bp ∨ w9.heap.size ≤ i := fun i hi => hOP i (.inl (.inr (.inr hi)))); have hpl := HPp.out.lt
          have hQ : Hid (∀ X, Keeps (fun i => bv.ownBlock = some i) w11 X → (X.cell? ⟨bP, 0, none⟩ = some (.pointer (some ⟨c.bp, 0, none⟩)) ∧ X.cell? ⟨c.bp, 5, none⟩ = some bv ∧ X.cell? ⟨tg, 3, none⟩ = some (.int .i64 t0.line) ∧ X.cell? ⟨tg, 4, none⟩ = some (.int .i64 t0.col))) := fun X hk =>
            ⟨hk.cell xP (fun h => by have := hbv bP h; omega), (HBox.out.keeps hk HNO.out).cell (i := 5) rfl, hk.cell tc3 (fun h => by have := hbv tg h; omega), hk.cell tc4 (fun h => by have := hbv tg h; omega)⟩
          have HOut : Hid (∀ (w2 : World) (g1 cap1 : Nat), Keeps (fun k => bv.ownBlock = some k) w11 w2 → w2.ownsRow c.B 28 4 (.slice (some ⟨g1, 0, none⟩) (n5 + 1) cap1) (n5 + 1) (s'.bad.flatMap (badCells c.l) ++ [.int .i64 2, .int .i64 t0.line, .int .i64 t0.col, .string ⟨#[]⟩]) → (bv.ownBlock = some g1 ∨ w11.heap.size ≤ g1) →
              PaTo c w11 nv bv G { s' with bad := s'.bad ++ [(2, 0)] } (w2.setCell ⟨c.bp, 5, none⟩ (.slice (some ⟨g1, 0, none⟩) (n5 + 1) cap1))) := fun w2 g1 cap1 q1 q2 q3 => by
            rw [← hnl, ← hbc] at q2; rw [← hnl]; exact hpa.worseAt 2 0 q1 q2 q3 (by omega)
          have hm1 : 0 < c.l.length := HM0.out; (have hm0 : (0 : Int) < ((c.l.length : Nat) : Int) := by have := HM0.out; omega); obtain ⟨i0, hi0, hz0, hz1, hz2⟩ := info_parts infoDiagP; clear hbc hnl hbd hown tc3 tc4 xP hbv hpl ht0 ht0' hl0 hkW9 hpa; go_upto_region 11 with (fail); refine wp_region_noPanic ?_; refine wp_region_till [18] (fun X => X.cell? ⟨bP, 0, none⟩ = some (.pointer (some ⟨c.bp, 0, none⟩)) ∧ X.cell? ⟨c.bp, 5, none⟩ = some bv ∧ X.cell? ⟨tg, 3, none⟩ = some (.int .i64 t0.line) ∧ X.cell? ⟨tg, 4, none⟩ = some (.int .i64 t0.col)) (by kernel_rfl) ?_ (fun hE => ?_)
          · first | exact hQ.out _ hk1 | exact hQ.out _ (Keeps.mono (show Keeps (fun _ => False) w11 _ from (by repeat (first | (with_reducible exact Keeps.refl _ _) | (with_reducible refine Keeps.drew ?_) | (with_reducible refine Keeps.drewN ?_ _) | (with_reducible refine Keeps.alloc ?_ _) | (with_reducible refine Keeps.trans ?_ (by assumption) (fun _ _ h => h))))) (fun _ _ h => h.elim))
          (have hS := hE (by kernel_rfl)); refine wpAnyT_take (i := 0) (v := ?v11_0_1) rfl (by kernel_rfl) (fun _ _ _ h => h) (Or.inl ⟨by rfl, ?y11_0_1⟩) hS ?_
          case y11_0_1 => (intro w hSw; (try dsimp only at hSw); go_simp; try with_reducible rfl)
          (try simp only [AP]); refine wpAnyT_take (i := 1) (v := ?v11_1_2) rfl (by kernel_rfl) (fun _ _ _ h => h) (Or.inl ⟨by rfl, ?y11_1_2⟩) hS ?_
          case y11_1_2 => (intro w hSw; (try dsimp only at hSw); go_simp; try with_reducible rfl)
          (try simp only [AP]); refine wpAnyT_pure (i := 2) (v := ?v11_2_3) rfl (by kernel_rfl) (fun _ _ _ h => h) (Or.inl ⟨by rfl, ?y11_2_3⟩) (fun _ => hS) ?_
          case y11_2_3 => (intro w hSw; go_simp; try with_reducible rfl)
          (try simp only [AP]); refine wpAnyT_pure (i := 3) (v := ?v11_3_4) rfl (by kernel_rfl) (fun _ _ _ h => h) (Or.inl ⟨by rfl, ?y11_3_4⟩) (fun _ => hS) ?_
          case y11_3_4 => (intro w hSw; go_simp; try with_reducible rfl)
          (try simp only [AP]); refine wpAnyT_take (i := 4) (v := ?v11_4_5) rfl (by kernel_rfl) (fun _ _ _ h => h) (Or.inl ⟨by rfl, ?y11_4_5⟩) hS ?_
          case y11_4_5 => (intro w hSw; (try dsimp only at hSw); go_simp; try with_reducible rfl)
          (try simp only [AP]); refine wpAnyT_pure (i := 5) (v := ?v11_5_6) rfl (by kernel_rfl) (fun _ _ _ h => h) (Or.inl ⟨by rfl, ?y11_5_6⟩) (fun _ => hS) ?_
          case y11_5_6 => (intro w hSw; go_simp; try with_reducible rfl)
          (try simp only [AP]); refine wpAnyT_pure (i := 6) (v := ?v11_6_7) rfl (by kernel_rfl) (fun _ _ _ h => h) (Or.inl ⟨by rfl, ?y11_6_7⟩) (fun _ => hS) ?_
          case y11_6_7 => (intro w hSw; go_simp; try with_reducible rfl)
          (try simp only [AP]); refine wpAnyT_pure (i := 7) (v := ?v11_7_8) rfl (by kernel_rfl) (fun _ _ _ h => h) (Or.inl ⟨by rfl, ?y11_7_8⟩) (fun _ => hS) ?_
          case y11_7_8 => (intro w hSw; go_simp; try with_reducible rfl)
          (try simp only [AP]); refine wpAnyT_take (i := 8) (v := ?v11_8_9) rfl (by kernel_rfl) (fun _ _ _ h => h) (Or.inl ⟨by rfl, ?y11_8_9⟩) hS ?_
          case y11_8_9 => (intro w hSw; (try dsimp only at hSw); go_simp; try with_reducible rfl)
          (try simp only [AP]); refine wpAnyT_pure (i := 9) (v := ?v11_9_10) rfl (by kernel_rfl) (fun _ _ _ h => h) (Or.inl ⟨by rfl, ?y11_9_10⟩) (fun _ => hS) ?_
          case y11_9_10 => (intro w hSw; go_simp; try with_reducible rfl)
          (try simp only [AP]); refine wpAnyT_pure (i := 10) (v := ?v11_10_11) rfl (by kernel_rfl) (fun _ _ _ h => h) (Or.inl ⟨by rfl, ?y11_10_11⟩) (fun _ => hS) ?_
          case y11_10_11 => (intro w hSw; go_simp; try with_reducible rfl)
          (try simp only [AP]); refine wpAnyT_pure (i := 11) (v := ?v11_11_12) rfl (by kernel_rfl) (fun _ _ _ h => h) (Or.inl ⟨by rfl, ?y11_11_12⟩) (fun _ => hS) ?_
          case y11_11_12 => (intro w hSw; go_simp; try with_reducible rfl)
          (try simp only [AP]); refine wpAnyT_take (i := 12) (v := ?v11_12_13) rfl (by kernel_rfl) (fun _ _ _ h => h) (Or.inl ⟨by rfl, ?y11_12_13⟩) hS ?_
          case y11_12_13 => (intro w hSw; (try dsimp only at hSw); go_simp; try with_reducible rfl)
          (try simp only [AP]); refine wpAnyT_pure (i := 13) (v := ?v11_13_14) rfl (by kernel_rfl) (fun _ _ _ h => h) (Or.inl ⟨by rfl, ?y11_13_14⟩) (fun _ => hS) ?_
          case y11_13_14 => (intro w hSw; go_simp; try with_reducible rfl)
          (try simp only [AP]); (refine wpAnyT_ready (rs := [14]) (by kernel_rfl) rfl ?_); refine AllT.cons rfl (fun K hK => ?_) ?_
          · go_simp; refine hK.out _ _ (fun _ => ?_) (fun hE => ?_)
            · first | exact hQ.out _ hk1 | exact hQ.out _ (Keeps.mono (show Keeps (fun _ => False) w11 _ from (by repeat (first | (with_reducible exact Keeps.refl _ _) | (with_reducible refine Keeps.drew ?_) | (with_reducible refine Keeps.drewN ?_ _) | (with_reducible refine Keeps.alloc ?_ _) | (with_reducible refine Keeps.trans ?_ (by assumption) (fun _ _ h => h))))) (fun _ _ h => h.elim))
            (have hS := hE (by kernel_rfl)); clear hK K hE; (try simp only [AP]); (refine wpAnyT_ready (rs := [15]) (by kernel_rfl) rfl ?_); refine AllT.cons rfl (fun K hK => ?_) ?_
            · (refine step_append_kept2 (W0 := w11) rfl (.tmp 41) (.tmp 51) 23 rfl c.B 28 i0 _ 4 40 Tryz.underlying23 hi0 hz0 hz1 hz2 rfl (by decide) bv n5 (s'.bad.flatMap (badCells c.l)) rfl HOwn.out (by repeat (first | (with_reducible exact Keeps.refl _ _) | (with_reducible refine Keeps.drew ?_) | (with_reducible refine Keeps.drewN ?_ _) | (with_reducible refine Keeps.alloc ?_ _) | (with_reducible refine Keeps.trans ?_ (by assumption) (fun _ _ h => h)))) _ _ #[.int .i64 2, .int .i64 t0.line, .int .i64 t0.col, .string ⟨#[]⟩] rfl rfl (by first | exact heap_new_at (by simp) | exact heap_new_at (w := w11) (by simp)) (by simp [Value.oneCell']) HMq.out HBq.out HBZ.out ?_; intro g1 cap1 w22 hown1 hk1 hkp1 hat1; have hb2 := HBox.out.keeps hk1 HNO.out); refine hK.out _ _ (fun _ => ?_) (fun hE => ?_)
              · first | exact hQ.out _ hk1 | exact hQ.out _ (Keeps.mono (show Keeps (fun _ => False) w11 _ from (by repeat (first | (with_reducible exact Keeps.refl _ _) | (with_reducible refine Keeps.drew ?_) | (with_reducible refine Keeps.drewN ?_ _) | (with_reducible refine Keeps.alloc ?_ _) | (with_reducible refine Keeps.trans ?_ (by assumption) (fun _ _ h => h))))) (fun _ _ h => h.elim))
              (have hS := hE (by kernel_rfl)); clear hK K hE; (try simp only [AP]); refine wpAnyT_pure (i := 16) (v := ?v11_16_15) rfl (by kernel_rfl) (fun _ _ _ h => h) (Or.inl ⟨by rfl, ?y11_16_15⟩) (fun _ => hS) ?_
              case y11_16_15 => (intro w hSw; go_simp; try with_reducible rfl)
              (try simp only [AP]); refine wpAnyT_pure (i := 17) (v := ?v11_17_16) rfl (by kernel_rfl) (fun _ _ _ h => h) (Or.inl ⟨by rfl, ?y11_17_16⟩) (fun _ => hS) ?_
              case y11_17_16 => (intro w hSw; go_simp; try with_reducible rfl)
              (try simp only [AP]); (refine wpAnyT_ready (rs := [18]) (by kernel_rfl) rfl ?_); refine AllT.cons rfl (fun K hK => ?_) ?_
              · (have z1 := hb2.cell (i := 5) rfl; have zf := hb2.free 5; have zl := hb2.lt; go_simp); (refine hK.out _ _ (fun he => Bool.noConfusion (show false = true from he)) (fun hE => ?_)); clear hK K hE; (try simp only [AP]); (refine wpAnyT_done (by kernel_rfl) ?_ _); refine NoPanic.normal ?_; (have hTo := HOut.out _ _ _ hk1 hown1 (hat1.imp id (fun h => Nat.le_trans (Keeps.size (show Keeps (fun _ => False) w11 _ from (by repeat (first | (with_reducible exact Keeps.refl _ _) | (with_reducible refine Keeps.drew ?_) | (with_reducible refine Keeps.drewN ?_ _) | (with_reducible refine Keeps.alloc ?_ _) | (with_reducible refine Keeps.trans ?_ (by assumption) (fun _ _ h => h)))))) h))); obtain ⟨w12, hw12⟩ : ∃ x, (w22.setCell ⟨c.bp, 5, none⟩ (.slice (some ⟨g1, 0, none⟩) (n5 + 1) cap1)) = x := ⟨_, rfl⟩; rw [hw12] at hTo; clear hown1 hk1 hkp1 hat1 hb2 hS z1 zf zl; skip; obtain ⟨nv2, bv2, G2, ns2, hpE, hkT, hGG, hOw2⟩ := hTo; obtain ⟨s5, hs5⟩ : ∃ x, ({ s' with bad := s'.bad ++ [(2, 0)] } : Ps) = x := ⟨_, rfl⟩; rw [hs5] at hpE; have hkE : Keeps (fun i => i = c.bp) w9 w12 := HKk.out.trans hkT (fun i hi h => by have := hOP i (.inl h); omega)
                have hOPE : ∀ i, OwnP c nv2 bv2 G2 i → i = c.bp ∨ w9.heap.size ≤ i := fun i hi => by
                  rcases hOw2 i hi with h | h
                  · exact hOP i h
                  · have := HKk.out.size; omega
                have hparse : parse (c.l.map Tok.bt) 400000 = if s5.bad = [] then some (.inl s5.nodes) else some (.inr s5.bad) := by
                  unfold parse; have h := HR.out; unfold s00 at h; rw [h, ← hs5]; dsimp only; rw [HDp.out, if_pos hbig]
                clear hkT hGG hOw2 hs5; (have xP := (HPp.out.keeps hkE (by omega)).cell (i := 0) rfl); obtain ⟨AN, cN, hnv, _, _⟩ := own_form hpE.nod; have xN := hpE.box.cell (i := 4) rfl; rw [hnv] at xN; (have jb2 := KB2.out.keeps hkE (by omega)); (have jb3 := KB3.out.keeps hkE (by omega)); (have jb4 := KB4.out.keeps hkE (by omega)); have y2c := jb2.cell (i := 0) rfl; have y2f := jb2.free 0; have y2l := jb2.lt; have y3c := jb3.cell (i := 0) rfl; have y3f := jb3.free 0; have y3l := jb3.lt; have y4c := jb4.cell (i := 0) rfl; have y4f := jb4.free 0; have y4l := jb4.lt; obtain ⟨wF, hwF⟩ : ∃ x, ((w12.setCell ⟨b2, 0, none⟩ (.slice AN ns2.length cN)).setCell ⟨b3, 0, none⟩ (.slice none 0 0)).setCell ⟨b4, 0, none⟩ (.int .i64 0) = x := ⟨_, rfl⟩; (have hkF : Keeps (fun i => i = b2 ∨ i = b3 ∨ i = b4) w12 wF := by rw [← hwF]; exact (((Keeps.refl (fun i => i = b2 ∨ i = b3 ∨ i = b4) w12).setCell (p := ⟨b2, 0, none⟩) (fun _ => .inl rfl) _).setCell (p := ⟨b3, 0, none⟩) (fun _ => .inr (.inl rfl)) _).setCell (p := ⟨b4, 0, none⟩) (fun _ => .inr (.inr rfl)) _); (have f2 : Blk wF b2 22 [.slice AN ns2.length cN] := by rw [← hwF]; exact ((jb2.set_ 0 _).far (p := ⟨b3, 0, none⟩) nb2b3 _).far (p := ⟨b4, 0, none⟩) nb2b4 _); (have f3 : Blk wF b3 23 [.slice none 0 0] := by rw [← hwF]; exact ((jb3.far (p := ⟨b2, 0, none⟩) nb3b2 _).set_ 0 _).far (p := ⟨b4, 0, none⟩) nb3b4 _); (have f4 : Blk wF b4 24 [.int .i64 0] := by rw [← hwF]; exact ((jb4.far (p := ⟨b2, 0, none⟩) nb4b2 _).far (p := ⟨b3, 0, none⟩) nb4b3 _).set_ 0 _); have hpl := HPp.out.lt
                have hpF := hpE.keeps hkF (fun i hi h => by
                  rcases hi with hi | hi
                  · have := hOPE i hi; omega
                  · rw [HcF.out] at hi; have := HFl.out i hi; omega)
                (have hEn : Ends c wF nv2 bv2 G2 ns2 s5 b2 b3 b4 bP (.slice AN ns2.length cN) (.slice none 0 0) (.int .i64 0) := ⟨hpF, (HPp.out.keeps hkE (by omega)).keeps hkF (by omega), f2, f3, f4, HcB.out, by omega, by omega, by omega, by omega⟩); (have hkW : Keeps (fun _ => False) W wF := (HK9.out.trans hkE (fun i hi h => by have := HB2.out; omega)).trans hkF (fun i hi h => by have := HB2.out; omega)); have HEn := Lib.hid hEn; have HKW := Lib.hid hkW; have HPF := Lib.hid hpF; have HWF := Lib.hid hwF; have HNv := Lib.hid hnv; have HOPE := Lib.hid hOPE; have HPE2 := Lib.hid hparse; clear hEn hkW hpF hwF hnv hOPE hparse hkF f2 f3 f4 hpl hpE hkE jb2 jb3 jb4; go_wp2_with fail; rw [HWF.out]; refine pfin HEn.out rfl rfl rfl rfl (fun hb w' hk => ?_) (fun y rr hb w' v hk hba => ?_)
                · have hpr := HPE2.out; rw [hb, if_pos rfl, ← HMk2.out] at hpr; refine ⟨HKW.out.trans hk (fun _ _ h => h), .inr ⟨HLd.out, e0, HLa.out, .inl ⟨_, _, hpr, rfl, ns2, G2, HPF.out.nds, ?_, fun x hx => (HPF.out.kids x hx).keeps hk (fun _ _ h => h), fun i hi => ?_⟩⟩⟩
                  · (have h5 := own_keeps HPF.out.nod hk (fun _ _ h => h)); rw [HNv.out] at h5; exact own_low (by rw [HcB.out]; have := HB2.out; omega) h5
                  · have h5 := HPF.out.old i hi; have h6 := HOPE.out i (.inr hi); have h7 := hk.size; have h8 := HB2.out; have h9 := HPp.out.lt; refine ⟨by omega, by omega, fun h => h5.2 (.inr (.inl (by rw [HNv.out]; exact h)))⟩
                · have hpr := HPE2.out; (rw [if_neg (by rw [hb]; exact List.cons_ne_nil _ _), hb, ← HMk2.out] at hpr); (refine ⟨HKW.out.trans hk (fun i hi h => by have := HB2.out; omega), .inr ⟨HLd.out, e0, HLa.out, .inr ⟨y, rr, v, hpr, rfl, ?_⟩⟩⟩); rw [HMk2.out, ← hb]; exact hba
              exact AllT.nil
            exact AllT.nil
          exact AllT.nil
        · (have hbI : ¬ (400 : Int) < (dp : Int) := by omega); have hpE := hpa; have hkE := HKk.out; have hOPE := hOP
          have hparse : parse (c.l.map Tok.bt) 400000 = if s'.bad = [] then some (.inl s'.nodes) else some (.inr s'.bad) := by
            unfold parse; have h := HR.out; unfold s00 at h; rw [h]; dsimp only; rw [HDp.out, if_neg hbig]
          clear hpa; (have xP := (HPp.out.keeps hkE (by omega)).cell (i := 0) rfl); obtain ⟨AN, cN, hnv, _, _⟩ := own_form hpE.nod; have xN := hpE.box.cell (i := 4) rfl; rw [hnv] at xN; (have jb2 := KB2.out.keeps hkE (by omega)); (have jb3 := KB3.out.keeps hkE (by omega)); (have jb4 := KB4.out.keeps hkE (by omega)); have y2c := jb2.cell (i := 0) rfl; have y2f := jb2.free 0; have y2l := jb2.lt; have y3c := jb3.cell (i := 0) rfl; have y3f := jb3.free 0; have y3l := jb3.lt; have y4c := jb4.cell (i := 0) rfl; have y4f := jb4.free 0; have y4l := jb4.lt; obtain ⟨wF, hwF⟩ : ∃ x, ((w11.setCell ⟨b2, 0, none⟩ (.slice AN ns.length cN)).setCell ⟨b3, 0, none⟩ (.slice none 0 0)).setCell ⟨b4, 0, none⟩ (.int .i64 0) = x := ⟨_, rfl⟩; (have hkF : Keeps (fun i => i = b2 ∨ i = b3 ∨ i = b4) w11 wF := by rw [← hwF]; exact (((Keeps.refl (fun i => i = b2 ∨ i = b3 ∨ i = b4) w11).setCell (p := ⟨b2, 0, none⟩) (fun _ => .inl rfl) _).setCell (p := ⟨b3, 0, none⟩) (fun _ => .inr (.inl rfl)) _).setCell (p := ⟨b4, 0, none⟩) (fun _ => .inr (.inr rfl)) _); (have f2 : Blk wF b2 22 [.slice AN ns.length cN] := by rw [← hwF]; exact ((jb2.set_ 0 _).far (p := ⟨b3, 0, none⟩) nb2b3 _).far (p := ⟨b4, 0, none⟩) nb2b4 _); (have f3 : Blk wF b3 23 [.slice none 0 0] := by rw [← hwF]; exact ((jb3.far (p := ⟨b2, 0, none⟩) nb3b2 _).set_ 0 _).far (p := ⟨b4, 0, none⟩) nb3b4 _); (have f4 : Blk wF b4 24 [.int .i64 0] := by rw [← hwF]; exact ((jb4.far (p := ⟨b2, 0, none⟩) nb4b2 _).far (p := ⟨b3, 0, none⟩) nb4b3 _).set_ 0 _); have hpl := HPp.out.lt
          have hpF := hpE.keeps hkF (fun i hi h => by
            rcases hi with hi | hi
            · have := hOPE i hi; omega
            · rw [HcF.out] at hi; have := HFl.out i hi; omega)
          (have hEn : Ends c wF nv bv G ns s' b2 b3 b4 bP (.slice AN ns.length cN) (.slice none 0 0) (.int .i64 0) := ⟨hpF, (HPp.out.keeps hkE (by omega)).keeps hkF (by omega), f2, f3, f4, HcB.out, by omega, by omega, by omega, by omega⟩); (have hkW : Keeps (fun _ => False) W wF := (HK9.out.trans hkE (fun i hi h => by have := HB2.out; omega)).trans hkF (fun i hi h => by have := HB2.out; omega)); have HEn := Lib.hid hEn; have HKW := Lib.hid hkW; have HPF := Lib.hid hpF; have HWF := Lib.hid hwF; have HNv := Lib.hid hnv; have HOPE := Lib.hid hOPE; have HPE2 := Lib.hid hparse; clear hEn hkW hpF hwF hnv hOPE hparse hkF f2 f3 f4 hpl hpE hkE jb2 jb3 jb4; go_wp2_with fail; rw [HWF.out]; refine pfin HEn.out rfl rfl rfl rfl (fun hb w' hk => ?_) (fun y rr hb w' v hk hba => ?_)
          · have hpr := HPE2.out; rw [hb, if_pos rfl, ← HMk2.out] at hpr; refine ⟨HKW.out.trans hk (fun _ _ h => h), .inr ⟨HLd.out, e0, HLa.out, .inl ⟨_, _, hpr, rfl, ns, G, HPF.out.nds, ?_, fun x hx => (HPF.out.kids x hx).keeps hk (fun _ _ h => h), fun i hi => ?_⟩⟩⟩
            · (have h5 := own_keeps HPF.out.nod hk (fun _ _ h => h)); rw [HNv.out] at h5; exact own_low (by rw [HcB.out]; have := HB2.out; omega) h5
            · have h5 := HPF.out.old i hi; have h6 := HOPE.out i (.inr hi); have h7 := hk.size; have h8 := HB2.out; have h9 := HPp.out.lt; refine ⟨by omega, by omega, fun h => h5.2 (.inr (.inl (by rw [HNv.out]; exact h)))⟩
          · have hpr := HPE2.out; (rw [if_neg (by rw [hb]; exact List.cons_ne_nil _ _), hb, ← HMk2.out] at hpr); (refine ⟨HKW.out.trans hk (fun i hi h => by have := HB2.out; omega), .inr ⟨HLd.out, e0, HLa.out, .inr ⟨y, rr, v, hpr, rfl, ?_⟩⟩⟩); rw [HMk2.out, ← hb]; exact hba
end Go.Proofs.YtcjoapmodaioiaaGreatDoor
