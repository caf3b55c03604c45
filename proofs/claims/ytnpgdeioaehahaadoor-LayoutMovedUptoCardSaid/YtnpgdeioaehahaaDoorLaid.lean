/- laid: the tokens of a text and those with the layout's. -/
import Derived.Test.YtnpgdeioaehahaaDoorLayMk
namespace Go.Proofs.YtnpgdeioaehahaaDoor
open Go.RowKit Go.Shelf

def toks (s : ByteArray) : List Tok := (lexS s).1.map Tk.tok
def LaidOk (s : ByteArray) : Prop := chk s = 0 ∧ (lexS s).2 = false ∧ layChk (toks s) = 0
/-- What laid answers. -/
def LaidPost (s : ByteArray) (W : World) (e : Ending) (w' : World) : Prop := Keeps (fun _ => False) W w' ∧
  ((¬ LaidOk s ∧ ∃ A1 n1 c1 A2 n2 c2, e = .returned (.tuple #[.slice A1 n1 c1, .slice A2 n2 c2, .bool false])) ∨
   (LaidOk s ∧ ∃ e0 A1 c1 A2 c2, (toks s).getLast? = some e0 ∧ e = .returned (.tuple #[.slice A1 (toks s).length c1, .slice A2 (markP (toks s) e0).length c2, .bool true]) ∧ Sl w' (fun b => W.heap.size ≤ b ∧ b < w'.heap.size ∧ ¬ (Value.slice A2 (markP (toks s) e0).length c2).ownBlock = some b) Tok.d (toks s) (.slice A1 (toks s).length c1) ∧
      w'.ownsRow W.heap.size 28 5 (.slice A2 (markP (toks s) e0).length c2) (markP (toks s) e0).length ((markP (toks s) e0).flatMap Tok.cells) ∧ ∀ t ∈ markP (toks s) e0, TokOk t))
theorem own_lower {w : World} {b b' : Nat} {e : TypeId} {k n : Nat} {v : Value} {xs : List Value} (h : b' ≤ b) (ho : w.ownsRow b e k v n xs) : w.ownsRow b' e k v n xs := by
  obtain ⟨h1, h2⟩ := ho
  refine ⟨h1, h2.imp id ?_⟩
  rintro ⟨g, cap, cur, e1, e2, e3⟩
  exact ⟨g, cap, cur, e1, Nat.le_trans h e2, e3⟩
set_option maxRecDepth 100000 in
set_option maxHeartbeats 4000000 in
theorem laid_any (s : ByteArray) (W : World) (m : Int) (hL : Lim W W.heap.size m) : Calls Tryd.prog 11 #[.string s] W (LaidPost s W) := by
  have HS := Lib.hid (scan_any s W m hL)
  clear hL
  unfold LaidPost
  go_enter Tryd.func11, Tryd.ntmps11
  go_wp2_with fail
  with_reducible refine HS.out.mono ?_
  rintro e w1 ⟨hb1, hcs⟩
  have hk1 := Keeps.of_below (X := fun _ => False) hb1
  rcases hcs with ⟨v1, v2, c, hc, rfl, hx⟩ | ⟨h1, h2, v, rfl, hown⟩
  · have hne : (c != 0) = true := bne_iff_ne.2 hc
    have HNo : Hid (¬ LaidOk s) := fun h => by
      rcases hx with hx | hx
      · exact hx h.1
      · rw [h.2.1] at hx; cases hx
    have HK1 := Lib.hid hk1
    clear hb1 hk1 hc hx
    go_wp2_with fail
    go_ret3
    exact ⟨HK1.out, .inl ⟨HNo.out, none, 0, 0, none, 0, 0, rfl⟩⟩
  · obtain ⟨L, hLq⟩ : ∃ L, toks s = L := ⟨_, rfl⟩
    have hL2 : (lexS s).1.map Tk.tok = L := hLq
    rw [hL2] at hown
    have hok := lexS_ok s (by have := chk_size h1; omega)
    rw [hL2] at hok
    have hsl := Sl.of_own (f := Tok.d) (F := fun _ => False) (G := fun b => W.heap.size ≤ b ∧ b < w1.heap.size) hown rfl (toks_rp L hok) (fun _ h => h.elim) (fun b hb => hown.lt b hb)
    obtain ⟨A1, c1, rfl, _, _⟩ := own_form hown
    have HMk := Lib.hid (lmark_any L _ _ w1 hsl (fun b hb => hb.2))
    have HSl := Lib.hid hsl
    have HK1 := Lib.hid hk1
    have HOk : Hid (LaidOk s ↔ layChk L = 0) := by
      show LaidOk s ↔ _
      unfold LaidOk
      rw [hLq]
      exact ⟨fun h => h.2.2, fun h => ⟨h1, h2, h⟩⟩
    have HLq := Lib.hid hLq
    clear hb1 hk1 h1 h2 hown hL2 hLq hok hsl
    go_wp2_with fail
    with_reducible refine HMk.out.mono ?_
    rintro e w2 ⟨hk2, (⟨hne, rfl⟩ | ⟨he, e0, u, hlast, rfl, ho, hto⟩)⟩
    · obtain ⟨ce, hce⟩ : ∃ ce, layChk L = ce := ⟨_, rfl⟩
      rw [hce] at hne ⊢
      have hb : (ce == 0) = false := by simpa using hne
      have HNo : Hid (¬ LaidOk s) := fun h => hne (by rw [← hce]; exact HOk.out.1 h)
      have HK2 := Lib.hid (HK1.out.trans hk2 (fun _ _ h => h))
      clear hce hne hk2
      go_wp2_with fail
      go_ret3
      exact ⟨HK2.out, .inl ⟨HNo.out, _, _, _, none, 0, 0, rfl⟩⟩
    · obtain ⟨A2, c2, rfl, _, _⟩ := own_form ho
      obtain ⟨M, hM⟩ : ∃ M, markP L e0 = M := ⟨_, rfl⟩
      rw [hM] at ho hto ⊢
      have HK2 := Lib.hid (HK1.out.trans hk2 (fun _ _ h => h))
      have hs1 := HK1.out.size
      have hs2 := hk2.size
      have HS2 : Hid (Sl w2 (fun b => W.heap.size ≤ b ∧ b < w2.heap.size ∧ ¬ (Value.slice A2 M.length c2).ownBlock = some b) Tok.d L (.slice A1 L.length c1)) := (HSl.out.keeps hk2 (fun _ _ h => h)).mono (fun b hb => ⟨hb.1, by omega, fun h => by have := (ho.lt b h).1; omega⟩)
      have HO2 : Hid (w2.ownsRow W.heap.size 28 5 (.slice A2 M.length c2) M.length (M.flatMap Tok.cells)) := own_lower hs1 ho
      have HTo := Lib.hid hto
      have HIs := Lib.hid (HOk.out.2 he)
      have HLa := Lib.hid hlast
      have HM := Lib.hid hM
      clear he hlast ho hto hM hk2 hs1 hs2
      go_wp2_with fail
      go_ret3
      rw [HLq.out]
      refine ⟨HK2.out, .inr ⟨HIs.out, e0, A1, c1, A2, c2, HLa.out, ?_⟩⟩
      rw [HM.out]
      exact ⟨rfl, HS2.out, HO2.out, HTo.out⟩
end Go.Proofs.YtnpgdeioaehahaaDoor
