/- The writer of an encoding in memory; num, text. -/
import Derived.Test.YtcbkihplchdhhaaDoorIfD
import Derived.Test.YtcbkihplchdhhaaDoorAppS
import Derived.WalkSmall
namespace Go.Proofs.YtcbkihplchdhhaaDoor
open Go.RowKit Go.Shelf

theorem infoU8 : (Tryd.prog.info? 5).map (fun i => (i.zero, i.size, i.bytes)) = some (some (.int .u8 0), 1, 1) := by kernel_rfl
namespace If
def argS (cs : List Value) : Value := cs.headD (.int .i64 0)
def argA (cs : List Value) : Value := .agg cs.toArray
def u8s (l : Bs) : List Value := l.map fun b => .int .u8 b.toNat
theorem u8s_len (l : Bs) : (u8s l).length = l.length := by simp [u8s]
theorem u8s_app (a b : Bs) : u8s (a ++ b) = u8s a ++ u8s b := by simp [u8s]
/-- The writer: its row is its own. -/
structure WrAt (W : World) (B bw : Nat) (v : Value) (bs : Bs) : Prop where
  box : Blk W bw 43 [v]
  row : W.ownsRow B 5 1 v bs.length (u8s bs)
def Own2 (bw : Nat) (v : Value) (i : Nat) : Prop := i = bw ∨ v.ownBlock = some i
section
variable {W W' : World} {B bw : Nat} {v : Value} {bs : Bs}
theorem WrAt.keeps {X : Nat → Prop} (h : WrAt W B bw v bs) (hk : Keeps X W W') (hX : ∀ i, Own2 bw v i → ¬ X i) : WrAt W' B bw v bs :=
  ⟨h.box.keeps hk (hX bw (.inl rfl)), own_keeps h.row hk (fun i hi => hX i (.inr hi))⟩
theorem WrAt.same (h : WrAt W B bw v bs) (hk : Keeps (fun _ => False) W W') : WrAt W' B bw v bs := h.keeps hk (fun _ _ h => h)
theorem WrAt.nV (h : WrAt W B bw v bs) : ¬ v.ownBlock = some bw := own_ne_blk h.row h.box (by decide)
theorem WrAt.lt (h : WrAt W B bw v bs) (i : Nat) (hi : Own2 bw v i) : i < W.heap.size := by
  rcases hi with rfl | hi
  · exact h.box.lt
  · exact (h.row.lt i hi).2
/-- What a method of the writer leaves. -/
def WrTo (B bw : Nat) (v : Value) (W : World) (bs' : Bs) (w' : World) : Prop := ∃ v', WrAt w' B bw v' bs' ∧ Keeps (Own2 bw v) W w' ∧ ∀ i, Own2 bw v' i → Own2 bw v i ∨ W.heap.size ≤ i
theorem WrTo.same (h : WrAt W B bw v bs) (hk : Keeps (fun _ => False) W W') : WrTo B bw v W bs W' := ⟨v, h.same hk, hk.mono (fun _ _ h => h.elim), fun _ hi => .inl hi⟩
theorem WrTo.trans {w1 w2 : World} {v1 : Value} {bs2 : Bs} (hk : Keeps (Own2 bw v) W w1) (hn : ∀ i, Own2 bw v1 i → Own2 bw v i ∨ W.heap.size ≤ i) (h2 : WrTo B bw v1 w1 bs2 w2) : WrTo B bw v W bs2 w2 := by
  obtain ⟨v2, g1, g2, g3⟩ := h2
  have hs := hk.size
  refine ⟨v2, g1, hk.trans g2 (fun i hi hx => ?_), fun i hi => ?_⟩
  · rcases hn i hx with h | h
    · exact h
    · omega
  · rcases g3 i hi with h | h
    · exact hn i h
    · exact .inr (by omega)
/-- The row behind an append, laid into the writer. -/
theorem WrAt.put (h : WrAt W B bw v bs) {w2 : World} {v2 : Value} {bs2 : Bs} (hown : w2.ownsRow B 5 1 v2 bs2.length (u8s bs2)) (hk : Keeps (fun i => v.ownBlock = some i) W w2) (hat : ∀ j, v2.ownBlock = some j → v.ownBlock = some j ∨ W.heap.size ≤ j) :
    WrTo B bw v W bs2 (w2.setCell ⟨bw, 0, none⟩ v2) := by
  have hb2 := h.box.keeps hk h.nV
  have k2 : Keeps (· = bw) w2 (w2.setCell ⟨bw, 0, none⟩ v2) := (Keeps.refl (· = bw) w2).setCell (p := ⟨bw, 0, none⟩) (fun _ => rfl) _
  refine ⟨v2, ⟨hb2.set_ 0 _, own_keeps hown k2 (fun i hi e => own_ne_blk hown hb2 (by decide) (by rw [hi, e]))⟩, (hk.mono (Y := Own2 bw v) (fun i _ hi => .inr hi)).trans k2 (fun i _ e => .inl e), fun i hi => ?_⟩
  rcases hi with e | e
  · exact .inl (.inl e)
  · rcases hat i e with h1 | h1
    · exact .inl (.inr h1)
    · exact .inr h1
end
theorem b8_nat (x : Int) : ((b8 x).toNat : Int) = x % 256 := by
  unfold b8
  have h1 : 0 ≤ x % 256 := Int.emod_nonneg _ (by decide)
  have h2 : x % 256 < 256 := Int.emod_lt_of_pos _ (by decide)
  simp
  omega
theorem u8s_enc4 (n : Int) : u8s (enc4 n) = [.int .u8 (n / 16777216 % 256), .int .u8 (n / 65536 % 256), .int .u8 (n / 256 % 256), .int .u8 (n % 256)] := by
  simp only [u8s, enc4, List.map_cons, List.map_nil, b8_nat]
theorem at_of {v : Value} {gg n cap H z : Nat} (hat : v.ownBlock = some gg ∨ gg = H) (hz : z ≤ H) : ∀ j, (Value.slice (some ⟨gg, 0, none⟩) n cap).ownBlock = some j → v.ownBlock = some j ∨ z ≤ j := by
  intro j hj
  obtain rfl : gg = j := by simpa [Value.ownBlock] using hj
  rcases hat with e | e
  · exact .inl e
  · exact .inr (by omega)
theorem enc4_len (n : Int) : (enc4 n).length = 4 := rfl
set_option maxRecDepth 100000 in
set_option maxHeartbeats 4000000 in
theorem wnum_any (W : World) (B bw : Nat) (v : Value) (bs : Bs) (h : WrAt W B bw v bs) (hB : B ≤ W.heap.size) (n : Int) (hn : bs.length + 4 ≤ 4194304) :
    Calls Tryd.prog 35 #[.pointer (some ⟨bw, 0, none⟩), .int .i64 n] W (fun e w' => e = .returned (.tuple #[]) ∧ WrTo B bw v W (bs ++ enc4 n) w') := by
  obtain ⟨it, hit, htz0, htz1, htz2⟩ := info_parts infoU8
  have c0 := h.box.cell (i := 0) rfl
  have HW := Lib.hid h
  have HB := Lib.hid hB
  clear h hB
  go_enter Tryd.func35, Tryd.ntmps35
  go_wp2_with (at_builtin; go_loud (refine wpList_append_lies _ rfl _ _ 35 rfl B 5 it _ 1 1 Tryd.underlying35 hit htz0 htz1 htz2 rfl (by omega) v bs.length (u8s bs) rfl (World.ownsRow.alloc HW.out.row _) ⟨W.heap.size, 0, none⟩ 4 4 [.int .u8 (n / 16777216 % 256), .int .u8 (n / 65536 % 256), .int .u8 (n / 256 % 256), .int .u8 (n % 256)] rfl rfl (World.news_of_block (cs := #[.int .u8 (n / 16777216 % 256), .int .u8 (n / 65536 % 256), .int .u8 (n / 256 % 256), .int .u8 (n % 256)]) (t := 5) (fr := (0, 0)) (heap_alloc_new _ _)) (by simp [Value.oneCell']) (by omega) (by unfold maxLen; omega) (by omega) (by have := HB.out; simp; omega) (W.heap.size + 1) (by simp) ?_; intro gg cap w1 hown1 hgrow hat hlt1; have hk1 : Keeps (fun i => v.ownBlock = some i) W w1 := ((Keeps.refl _ _).alloc _).grown hgrow (fun i hi _ => hi); have hb2 := HW.out.box.keeps hk1 HW.out.nV; have z1 := hb2.cell (i := 0) rfl; have zf := hb2.free 0; have zl := hb2.lt; have HTo : Hid (WrTo B bw v W (bs ++ enc4 n) (w1.setCell ⟨bw, 0, none⟩ (.slice (some ⟨gg, 0, none⟩) (bs.length + 4) cap))) := HW.out.put (bs2 := bs ++ enc4 n) (by rw [u8s_app, u8s_enc4, List.length_append, enc4_len]; exact hown1) hk1 (at_of hat (by omega)); clear hown1 hgrow hat hlt1 hk1 hb2))
  go_end0
  exact ⟨rfl, HTo.out⟩
theorem row_form {w : World} {base : Nat} {e : TypeId} {k n : Nat} {v : Value} {xs : List Value} (h : w.ownsRow base e k v n xs) : ∃ A c, v = .slice A n c := by
  rcases h.2 with ⟨h1, h2⟩ | ⟨gg, cap, _, h1, _⟩
  · exact ⟨none, 0, by rw [h1, h2]⟩
  · exact ⟨some ⟨gg, 0, none⟩, cap, h1⟩
theorem strCells_u8s (s : ByteArray) : Lib.strCells s = u8s s.data.toList := rfl
theorem textW_len (s : ByteArray) : (textW s).length = 4 + s.size := by
  unfold textW
  rw [List.length_append, enc4_len]; rfl
set_option maxRecDepth 100000 in
set_option maxHeartbeats 4000000 in
theorem wtext_any (W : World) (B bw : Nat) (v : Value) (bs : Bs) (h : WrAt W B bw v bs) (hB : B ≤ W.heap.size) (s : ByteArray) (hn : bs.length + (textW s).length ≤ 4194304) :
    Calls Tryd.prog 31 #[.pointer (some ⟨bw, 0, none⟩), .string s] W (fun e w' => e = .returned (.tuple #[]) ∧ WrTo B bw v W (bs ++ textW s) w') := by
  obtain ⟨it, hit, htz0, htz1, htz2⟩ := info_parts infoU8
  rw [textW_len] at hn
  have HN := Lib.hid (wnum_any W B bw v bs h hB (s.size : Int) (by omega))
  have HB := Lib.hid hB
  have hsz : s.size ≤ 4194304 := by omega
  clear h hB
  go_enter Tryd.func31, Tryd.ntmps31
  go_wp2_with fail
  with_reducible refine HN.out.mono ?_
  rintro e w1 ⟨rfl, v1, h1, hk1, hn1⟩
  obtain ⟨b1, hb1⟩ : ∃ b1, bs ++ enc4 (s.size : Int) = b1 := ⟨_, rfl⟩
  have HE : Hid (bs ++ textW s = b1 ++ s.data.toList) := by show _ = _; unfold textW; rw [← hb1, List.append_assoc]
  have HL : Hid (b1.length = bs.length + 4) := by show _ = _; rw [← hb1, List.length_append, enc4_len]
  rw [hb1] at h1
  have c1 := h1.box.cell (i := 0) rfl
  have HW := Lib.hid h1
  have HK := Lib.hid hk1
  have HM := Lib.hid hn1
  clear hb1
  clear h1 hk1 hn1 HN
  go_wp2_with (at_builtin; go_loud (refine wpList_append_string_kept _ rfl _ _ 35 9 rfl B 5 it Tryd.underlying35 Tryd.underlying9 hit htz0 htz1 htz2 v1 _ _ rfl HW.out.row s rfl (by rw [HL.out]; unfold maxLen; omega) (by rw [HL.out]; omega) (Nat.le_trans HB.out HK.out.size) ?_; intro v2 w2 hown2 hgrow hat; obtain ⟨A2, c2, rfl⟩ := row_form hown2; have hk2 : Keeps (fun i => v1.ownBlock = some i) w1 w2 := (Keeps.refl _ _).grown hgrow (fun i hi _ => hi); have hb2 := HW.out.box.keeps hk2 HW.out.nV; have z1 := hb2.cell (i := 0) rfl; have zf := hb2.free 0; have zl := hb2.lt; have HTo := Lib.hid (show WrTo B bw v W (bs ++ textW s) _ from  WrTo.trans HK.out HM.out (HW.out.put (bs2 := bs ++ textW s) (by rw [HE.out, u8s_app, ← strCells_u8s, show (b1 ++ s.data.toList).length = b1.length + s.size from List.length_append]; exact hown2) hk2 hat)); clear hown2 hgrow hat hk2 hb2))
  go_end0
  exact ⟨rfl, HTo.out⟩
end If
end Go.Proofs.YtcbkihplchdhhaaDoor
