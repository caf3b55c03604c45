/- The parser: PeQ, PeL. -/
import Derived.Test.YtcjoapmodaioiaaGreatDoorPeP
import Derived.Test.YtcjoapmodaioiaaGreatDoorMSrc
import Derived.Test.YtcjoapmodaioiaaGreatDoorMTok
import Derived.Deep.QuietTactic
import Derived.BigQuiet
section
set_option linter.unusedVariables false
namespace Go.Proofs.YtcjoapmodaioiaaGreatDoor
open Go.RowKit Go.Shelf Pa

theorem dw_head {p : UInt8 → Bool} : ∀ (l : Bs) (a : UInt8) (r : Bs), l.dropWhile p = a :: r → p a = false
  | [], _, _, h => by cases h
  | c :: l, a, r, h => by
    rw [List.dropWhile_cons] at h
    split at h
    · exact dw_head l a r h
    · rename_i hc
      simp only [List.cons.injEq] at h
      rw [← h.1]; simpa using hc
theorem dw_nil {p : UInt8 → Bool} : ∀ l : Bs, l.dropWhile p = [] → ∀ b ∈ l, p b = true
  | [], _, b, hb => by cases hb
  | c :: l, h, b, hb => by
    rw [List.dropWhile_cons] at h
    split at h
    · rename_i hc
      rcases List.mem_cons.1 hb with rfl | hb
      · exact hc
      · exact dw_nil l h b hb
    · cases h
theorem dash_all {u : Bs} (h : dashB u = true) : ∀ b ∈ u, b = 45 := by
  unfold dashB Lib.trimB Lib.trimLeftB at h
  have h1 : (Lib.trimRightB u 45).dropWhile (· == 45) = [] := by simpa [List.isEmpty_iff] using h
  replace h1 := dw_nil _ h1
  unfold Lib.trimRightB at h1
  have h2 : u.reverse.dropWhile (· == 45) = [] := by
    cases hd : u.reverse.dropWhile (· == 45) with
    | nil => rfl
    | cons a r =>
      have h3 := dw_head _ _ _ hd
      have h4 := h1 a (by rw [hd]; simp)
      rw [h3] at h4; cases h4
  replace h2 := dw_nil _ h2
  intro b hb
  simpa using h2 b (by simpa using hb)
theorem dash_two {u : Bs} (h : dashB u = true) (hl : 1 < u.length) : ∃ z, u = 45 :: 45 :: z := by
  have ha := dash_all h
  match u, hl with
  | a :: b :: z, _ => exact ⟨z, by rw [ha a (by simp), ha b (by simp)]⟩

theorem placed_plc {S : Bs} : ∀ (l : List Tk) (e : Nat), Placed S e l → ∀ x ∈ l, ∃ (k c : Nat) (y : Bs), x.line = (k : Int) + 1 ∧ x.col = (c : Int) + 1 ∧ (lines S)[k]? = some y ∧ c ≤ y.length
  | [], _, _, x, hx => by cases hx
  | z :: l, e, h, x, hx => by
    obtain ⟨k, c, y, h1, h2, h3, h4, _, _, _, _, h5⟩ := h
    rcases List.mem_cons.1 hx with rfl | hx
    · exact ⟨k, c, y, h1, h2, h3, h4⟩
    · exact placed_plc l _ h5 x hx
theorem toks_plc {s : ByteArray} (h2 : (lexS s).2 = false) : ∀ t ∈ toksP s, Plc s t.line t.col := fun t ht => by
  have hSl : s.data.toList.length = s.size := (Lib.size_eq s).symm
  have hpl0 := lex_places (kw := kwB) (dash := dashB) (fun u h1 h2 => dash_two h1 h2) (s.size + 1) s.data.toList [] [] [] 0 1 1 (by omega) Pos.start rfl GapOk.nil h2
  obtain ⟨x, hx, rfl⟩ := List.mem_map.1 ht
  obtain ⟨k, c, y, h1, h2, h3, h4⟩ := placed_plc _ _ hpl0 x hx
  exact ⟨k, c, y, h1, h2, by simpa using h3, h4⟩
section
variable {l : List Tok}
def PL (l : List Tok) (o : List Tok) : Prop := ∀ t ∈ o, ∃ u ∈ l, t.line = u.line ∧ t.col = u.col
theorem PL.put {m : Mk} (h : PL l m.out) (k : Int) {t : Tok} (ht : t ∈ l) : PL l (m.put k t).out := fun x hx => by
  rcases List.mem_append.1 hx with hx | hx
  · exact h x hx
  · rw [List.mem_singleton.1 hx]; exact ⟨t, ht, rfl, rfl⟩
theorem PL.tok {o : List Tok} (h : PL l o) {t : Tok} (ht : t ∈ l) : PL l (o ++ [t]) := fun x hx => by
  rcases List.mem_append.1 hx with hx | hx
  · exact h x hx
  · rw [List.mem_singleton.1 hx]; exact ⟨t, ht, rfl, rfl⟩
theorem PL.close {m : Mk} (h : PL l m.out) {t : Tok} (ht : t ∈ l) : PL l (m.close t).out := h.put 7 ht
theorem PL.shutL {t : Tok} (ht : t ∈ l) : ∀ (n : Nat) {m : Mk}, PL l m.out → PL l (shutL t n m).out
  | 0, m, h => h
  | n + 1, m, h => by
    rw [Go.Proofs.YtcjoapmodaioiaaGreatDoor.shutL]; split
    · exact PL.shutL ht n (h.close ht)
    · exact h
theorem PL.lineL {t : Tok} (ht : t ∈ l) : ∀ (n : Nat) {m : Mk}, PL l m.out → PL l (lineL t n m).out
  | 0, m, h => h
  | n + 1, m, h => by
    rw [Go.Proofs.YtcjoapmodaioiaaGreatDoor.lineL]; split
    · exact PL.lineL ht n (h.close ht)
    · exact h
theorem PL.inL {t : Tok} (ht : t ∈ l) : ∀ (n : Nat) {m : Mk}, PL l m.out → PL l (inL t n m).out
  | 0, m, h => h
  | n + 1, m, h => by
    rw [Go.Proofs.YtcjoapmodaioiaaGreatDoor.inL]; split
    · exact h.close ht
    · exact PL.inL ht n (h.close ht)
theorem PL.lineP {t : Tok} (ht : t ∈ l) {m : Mk} (h : PL l m.out) : PL l (lineP t m).out := by
  unfold Go.Proofs.YtcjoapmodaioiaaGreatDoor.lineP
  dsimp only
  split
  · exact (PL.lineL ht _ h).put 8 ht
  · exact PL.lineL ht _ h
theorem PL.beforeP {t : Tok} (ht : t ∈ l) {m : Mk} (h : PL l m.out) : PL l (beforeP t m).out := by
  unfold Go.Proofs.YtcjoapmodaioiaaGreatDoor.beforeP
  dsimp only
  have hs : PL l (shutP t m).out := PL.shutL ht _ h
  split
  · split
    · exact hs
    · exact hs
  · split
    · split
      · exact hs
      · exact h
    · split
      · split
        · exact PL.inL ht _ h
        · exact h
      · exact h
theorem PL.blockP {p : Option Tok} {t : Tok} (ht : t ∈ l) {m : Mk} (h : PL l m.out) : PL l (blockP p t m).1.out := by
  cases p with
  | none => exact h
  | some q =>
    unfold Go.Proofs.YtcjoapmodaioiaaGreatDoor.blockP
    dsimp only
    split
    · exact h
    · split
      · exact h
      · split
        · exact h.put 6 ht
        · exact (h.put 6 ht).put 7 ht
theorem PL.stepP {p : Option Tok} {t : Tok} (ht : t ∈ l) {m : Mk} (h : PL l m.out) : PL l (stepP p t m).out := by
  unfold Go.Proofs.YtcjoapmodaioiaaGreatDoor.stepP
  dsimp only
  have hb : PL l (Go.Proofs.YtcjoapmodaioiaaGreatDoor.blockP p t m).1.out := h.blockP ht
  split
  · exact hb
  · have h2 : PL l (if (Go.Proofs.YtcjoapmodaioiaaGreatDoor.blockP p t m).2 = true then Go.Proofs.YtcjoapmodaioiaaGreatDoor.lineP t (Go.Proofs.YtcjoapmodaioiaaGreatDoor.blockP p t m).1 else (Go.Proofs.YtcjoapmodaioiaaGreatDoor.blockP p t m).1).out := by
      split
      · exact hb.lineP ht
      · exact hb
    split
    · exact (h2.beforeP ht).tok ht
    · exact (h2.beforeP ht).tok ht
theorem PL.goM : ∀ (r : List Tok) (p : Option Tok) {m : Mk}, (∀ t ∈ r, t ∈ l) → PL l m.out → PL l (goM p r m).out
  | [], p, m, _, h => h
  | t :: r, p, m, hr, h => PL.goM r (some t) (fun x hx => hr x (List.mem_cons_of_mem _ hx)) (h.stepP (hr t List.mem_cons_self))
theorem PL.endL {t : Tok} (ht : t ∈ l) : ∀ (n : Nat) {m : Mk}, PL l m.out → PL l (endL t n m).out
  | 0, m, h => h
  | n + 1, m, h => by
    rw [Go.Proofs.YtcjoapmodaioiaaGreatDoor.endL]
    refine PL.endL ht n ?_
    split
    · exact h.close ht
    · exact h
theorem mark_pl {e : Tok} (he : e ∈ l) : PL l (markP l e) := by
  unfold markP
  dsimp only
  exact (PL.endL he _ (PL.goM l none (fun _ h => h) (fun x hx => by cases hx))).tok he
end
theorem parse_bad {L : List Bt} (hL : Lk L) (hn : (L.length : Int) + 2 + 12 * 101 + 8 ≤ (400000 : Nat)) {bad : List (Int × Nat)} (h : parse L 400000 = some (.inr bad)) : BadOk L bad := by
  have hm := module_ok (T := True) hL hn
  unfold parse at h
  unfold Wp s00 at hm
  cases hr : module L 400000 ⟨0, 0, 0, [], []⟩ with
  | out => rw [hr] at hm; exact hm.elim
  | no s' =>
    rw [hr] at h hm
    simp only [Option.some.injEq, Sum.inr.injEq] at h
    rw [← h]; exact hm.bad trivial
  | ok a s' =>
    rw [hr] at h hm
    obtain ⟨x, r, _, _, hst⟩ := hm
    dsimp only at h
    have h2 : BadOk L (if 400 < depth s'.nodes then s'.bad ++ [(2, 0)] else s'.bad) := by
      split
      · intro y hy
        rcases List.mem_append.1 hy with hy | hy
        · exact hst.bad trivial y hy
        · rw [List.mem_singleton.1 hy]; exact ⟨by decide, hL.pos⟩
      · exact hst.bad trivial
    by_cases hz : (if 400 < depth s'.nodes then s'.bad ++ [(2, 0)] else s'.bad) = []
    · rw [if_pos hz] at h; cases h
    · rw [if_neg hz] at h
      simp only [Option.some.injEq, Sum.inr.injEq] at h
      rw [← h]; exact h2
theorem parse_tree {L : List Bt} (hL : Lk L) (hn : (L.length : Int) + 2 + 12 * 101 + 8 ≤ (400000 : Nat)) {nodes : List Nd} (h : parse L 400000 = some (.inl nodes)) : ∃ x r, nodes = r ++ [x] ∧ x.kind = 0 ∧ Tr True nodes (fun a => 0 + one (nodes.length - 1) a) := by
  have hm := module_ok (T := True) hL hn
  unfold parse at h
  unfold Wp s00 at hm
  cases hr : module L 400000 ⟨0, 0, 0, [], []⟩ with
  | out => rw [hr] at hm; exact hm.elim
  | no s' => rw [hr] at h; simp at h
  | ok a s' =>
    rw [hr] at h hm
    obtain ⟨x, r, h1, h2, hst⟩ := hm
    dsimp only at h
    by_cases hz : (if 400 < depth s'.nodes then s'.bad ++ [(2, 0)] else s'.bad) = []
    · rw [if_pos hz] at h
      simp only [Option.some.injEq, Sum.inl.injEq] at h
      rw [← h]
      exact ⟨x, r, h1, h2, hst.tr⟩
    · rw [if_neg hz] at h; simp at h
theorem laid_lk {s : ByteArray} {e0 : Tok} (h : Laid1 s) (he : (toksP s).getLast? = some e0) : Lk ((markP (toksP s) e0).map Tok.bt) ∧ (((markP (toksP s) e0).map Tok.bt).length : Int) + 2 + 12 * 101 + 8 ≤ (400000 : Nat) := by
  obtain ⟨h1, h2⟩ := mark_st h.2.2 he
  refine ⟨lk_of h1 h2, ?_⟩
  rw [List.length_map]; have := h1.len; omega
theorem scan_out (s : ByteArray) (w : World) (h : chk s ≠ 0) : Calls Tryz.prog 15 #[.string s] w (fun e w' => e = .returned (.tuple #[.slice none 0 0, .slice none 0 0, .int .i64 (chk s)]) ∧ w = w') := by
  have HC := Lib.hid (check_any s w)
  have hne : (chk s != 0) = true := bne_iff_ne.2 h
  go_enter Tryz.func15, Tryz.ntmps15
  go_wp2_with fail
  with_reducible refine HC.out.mono ?_
  rintro e w1 ⟨rfl, rfl⟩
  go_wp2_with fail
  go_ret3
  exact ⟨rfl, rfl⟩
def YBad (s : ByteArray) (B : Nat) (w : World) (v : Value) (c : Int) : Prop := v = .slice none 0 0 ∨ (chk s = 0 ∧ SBad s B w v c)
theorem scan_y (s : ByteArray) (w : World) (m : Int) (hL : Lim w w.heap.size m) : Calls Tryz.prog 15 #[.string s] w (ScanP (YBad s) s w) := by
  by_cases h : chk s = 0
  · refine (scan_any s w m hL).mono ?_
    rintro e w' ⟨hb, (⟨v1, v2, c, hc, rfl, hs, hx⟩ | h2)⟩
    · refine ⟨hb, .inl ?_⟩
      rcases hs with rfl | ⟨g, bads, q1, q0, q2, rfl, q3⟩
      · exact ⟨v1, none, 0, 0, c, hc, rfl, .inl rfl, hx⟩
      · exact ⟨v1, some ⟨g, 0, none⟩, _, _, c, hc, rfl, .inr ⟨h, .inr ⟨g, bads, q1, q0, q2, rfl, q3⟩⟩, hx⟩
    · exact ⟨hb, .inr h2⟩
  · refine (scan_out s w h).mono ?_
    rintro e w' ⟨rfl, rfl⟩
    exact ⟨Below.refl _ _, .inl ⟨_, none, 0, 0, chk s, h, rfl, .inl rfl, .inl h⟩⟩
theorem ybad_keeps (s : ByteArray) (B : Nat) (X : Nat → Prop) (w w' : World) (v : Value) (c : Int) (hX : ∀ i, X i → i < B) (hk : Keeps X w w') (h : YBad s B w v c) : YBad s B w' v c := by
  rcases h with h | ⟨h0, h | ⟨g, bads, q1, q0, q2, q3, q4, q5, q6⟩⟩
  · exact .inl h
  · exact .inl h
  · exact .inr ⟨h0, .inr ⟨g, bads, q1, q0, q2, q3, q4, fun j u hj => hk.cell (q5 j u hj) (fun hx => by have := hX g hx; omega), q6⟩⟩
def PR (s : ByteArray) (W : World) (e : Ending) (w' : World) : Prop := Keeps (fun _ => False) W w' ∧
  ((∃ c, c ≠ 0 ∧ e = .returned (.tuple #[.slice none 0 0, .slice none 0 0, .int .i64 c])) ∨
   (chk s = 0 ∧ ∃ (g : Nat) (bads : List (Int × Int × Int)) (c : Int), 0 < bads.length ∧ bads.length ≤ maxLen ∧ bads.head?.map (·.1) = some c ∧ c ≠ 0 ∧ e = .returned (.tuple #[.slice none 0 0, .slice (some ⟨g, 0, none⟩) bads.length bads.length, .int .i64 c]) ∧
      (∀ (j : Nat) (u : Value), (bads.flatMap dcells)[j]? = some u → w'.cell? ⟨g, j, none⟩ = some u) ∧ ∀ x ∈ bads, Plc s x.2.1 x.2.2) ∨
   (∃ A n k, 0 < n ∧ e = .returned (.tuple #[.slice A n k, .slice none 0 0, .int .i64 0])))
theorem parse_pr (s : ByteArray) (W : World) (m : Int) (hL : Lim W W.heap.size m) : Calls Tryz.prog 6 #[.string s] W (PR s W) := by
  refine (parse_any (YBad s) (ybad_keeps s) (fun _ _ _ => .inl rfl) s W m hL (fun w hw => scan_y s w m hw)).mono ?_
  rintro e w' ⟨hk, (⟨v, c, B, hc, hB, rfl, hy, hn⟩ | ⟨hl, e0, he, (⟨nodes, u, hp, rfl, ht⟩ | ⟨y, r, v, hp, rfl, hb⟩)⟩)⟩
  · rcases hy with rfl | ⟨h0, rfl | ⟨g, bads, q1, q0, q2, rfl, q4, q5, q6⟩⟩
    · exact ⟨hk, .inl ⟨c, hc, rfl⟩⟩
    · exact ⟨hk, .inl ⟨c, hc, rfl⟩⟩
    · exact ⟨hk, .inr (.inl ⟨h0, g, bads, c, q1, q0, q2, hc, rfl, q5, q6⟩)⟩
  · obtain ⟨hlk, hlen⟩ := laid_lk hl he
    obtain ⟨x, r, hx, _⟩ := parse_tree hlk hlen hp
    obtain ⟨ns, G, h1, h2, _⟩ := ht
    have hn0 : 0 < ns.length := by
      have h3 : ns.length = nodes.length := by rw [← h1]; simp
      rw [h3, hx]; simp
    obtain ⟨g, cap, rfl, _⟩ := World.ownsRow.form h2 hn0
    exact ⟨hk, .inr (.inr ⟨_, _, _, hn0, rfl⟩)⟩
  · obtain ⟨hlk, hlen⟩ := laid_lk hl he
    have hbd := parse_bad hlk hlen hp
    obtain ⟨g, rfl, hbm, hcell⟩ := hb
    have hem : e0 ∈ toksP s := List.mem_of_getLast? he
    have hpl := mark_pl hem
    obtain ⟨T, hT⟩ : ∃ T, markP (toksP s) e0 = T := ⟨_, rfl⟩
    rw [hT] at hpl hcell hbd
    refine ⟨hk, .inr (.inl ⟨hl.1, g, (y :: r).map (fun b => (b.1, (T.getD b.2 endTok).line, (T.getD b.2 endTok).col)), y.1, by simp, by rw [List.length_map]; exact hbm, rfl, (hbd y (by simp)).1, by rw [List.length_map], fun j u hj => hcell j u (by rw [List.flatMap_map] at hj; exact hj), fun x hx => ?_⟩)⟩
    obtain ⟨b, hb, rfl⟩ := List.mem_map.1 hx
    have hlt := (hbd b hb).2
    rw [List.length_map] at hlt
    have hmem : T.getD b.2 endTok ∈ T := by
      rw [List.getD_eq_getElem?_getD, List.getElem?_eq_getElem hlt]; exact List.getElem_mem hlt
    obtain ⟨u, hu, e1, e2⟩ := hpl _ hmem
    show Plc s (T.getD b.2 endTok).line (T.getD b.2 endTok).col
    rw [e1, e2]
    exact toks_plc hl.2.1 u hu
theorem offset_plc (s : ByteArray) (ln cl : Int) (w : World) (hs : chk s = 0) (h : Plc s ln cl) : Calls Tryz.prog 7 #[.string s, .int .i64 ln, .int .i64 cl] w fun e w' => ∃ n : Int, e = .returned (.tuple #[.int .i64 n, .int .i64 0]) ∧ Keeps (fun _ => False) w w' := by
  obtain ⟨k, c, y, rfl, rfl, h1, h2⟩ := h
  rw [← LB_lines, List.getElem?_map] at h1
  cases hx : (LB s)[k]? with
  | none => rw [hx] at h1; cases h1
  | some x =>
    rw [hx] at h1
    have hxy : x.data.toList = y := Option.some.inj h1
    refine (offset_in s k c x w hs hx (by rw [Lib.size_eq, hxy]; exact h2)).mono ?_
    rintro e w' ⟨rfl, hb⟩
    exact ⟨_, rfl, Keeps.of_below (X := fun _ => False) hb⟩
end Go.Proofs.YtcjoapmodaioiaaGreatDoor
end

section
set_option linter.unusedVariables false
set_option linter.unusedSimpArgs false
namespace Go.Proofs.YtcjoapmodaioiaaGreatDoor
open Go.RowKit Go.Shelf Pa

def sC1 : ByteArray := ⟨#[109, 111, 100, 117, 108, 101, 32, 65, 32, 119, 104, 101, 114, 101, 32, 120, 32, 61, 32, 61]⟩
theorem sC1_laid : Laid1 sC1 := ⟨by kernel_rfl, by kernel_rfl, by kernel_rfl⟩
theorem sC1_last : (toksP sC1).getLast? = some ⟨9, ⟨#[]⟩, 0, 1, 21⟩ := by kernel_rfl
theorem sC1_parse : parse ((markP (toksP sC1) ⟨9, ⟨#[]⟩, 0, 1, 21⟩).map Tok.bt) 400000 = some (.inr [(5, 6)]) := by kernel_rfl
theorem sC1_col : ((markP (toksP sC1) ⟨9, ⟨#[]⟩, 0, 1, 21⟩).getD 6 endTok).col = 20 := by kernel_rfl
theorem const1 (W : World) (m : Int) (hL : Lim W W.heap.size m) : Calls Tryz.prog 6 #[.string sC1] W (fun e w' => Keeps (fun _ => False) W w' ∧ ∃ g, e = .returned (.tuple #[.slice none 0 0, .slice (some ⟨g, 0, none⟩) 1 1, .int .i64 5]) ∧ w'.cell? ⟨g, 2, none⟩ = some (.int .i64 20)) := by
  refine (parse_any (YBad sC1) (ybad_keeps sC1) (fun _ _ _ => .inl rfl) sC1 W m hL (fun w hw => scan_y sC1 w m hw)).mono ?_
  rintro e w' ⟨hk, (⟨v, c, B, hc, hB, rfl, hy, hn⟩ | ⟨hl, e0, he, h5⟩)⟩
  · exact absurd sC1_laid hn
  · rw [sC1_last] at he
    obtain rfl := (Option.some.inj he).symm
    rw [sC1_parse] at h5
    rcases h5 with ⟨nodes, u, hp, _⟩ | ⟨y, r, v, hp, rfl, g, rfl, _, hc⟩
    · simp at hp
    · simp only [Option.some.injEq, Sum.inr.injEq, List.cons.injEq] at hp
      obtain ⟨rfl, rfl⟩ := hp
      refine ⟨hk, g, rfl, hc 2 _ ?_⟩
      rw [← sC1_col]; rfl
set_option maxRecDepth 100000 in
set_option maxHeartbeats 8000000 in
theorem errorPlaces_any (s : ByteArray) (W : World) (m : Int) (hL : Lim W W.heap.size m) : Calls Tryz.prog 3 #[.string s] W (fun e w' => e = .returned (.bool true) ∧ Below W.heap.size W w') := by
  have HC := Lib.hid (const1 W m hL)
  have HL := Lib.hid hL
  have hs : (⟨#[109, 111, 100, 117, 108, 101, 32, 65, 32, 119, 104, 101, 114, 101, 32, 120, 32, 61, 32, 61]⟩ : ByteArray) = sC1 := rfl
  clear hL
  go_enter Tryz.func3, Tryz.ntmps3
  go_wp2_with fail
  clear hs
  with_reducible refine HC.out.mono ?_
  rintro e w1 ⟨hk1, g1, rfl, hc1⟩
  have hb1 : Below W.heap.size W w1 := hk1.below (fun _ h => h.elim) (Nat.le_refl _)
  have HP := Lib.hid (parse_pr s w1 m (HL.out.here hb1 (Nat.le_refl _)))
  have HB1 := Lib.hid hb1
  clear hk1 hb1
  go_wp2_with fail
  clear hc1
  with_reducible refine HP.out.mono ?_
  rintro e w2 ⟨hk2, (⟨ce, hce, rfl⟩ | ⟨h0, g, bads, ce, q1, q0, q2, hce, rfl, q5, q6⟩ | ⟨A, n, k, hn, rfl⟩)⟩
  · have HB2 : Hid (Below W.heap.size W w2) := HB1.out.trans (hk2.below (fun _ h => h.elim) HB1.out.size)
    have hcb : (ce == 0) = false := by simpa using hce
    clear hk2 hce
    go_wp2_with fail
    go_loopw [40] (fun i wr => i = .int .i64 0 ∧ Below W.heap.size W wr) (fun _ _ => 0)
    case atStart => exact ⟨rfl, HB2.out⟩
    case round =>
      obtain ⟨rfl, hb⟩ := hrel
      have HB3 := Lib.hid hb
      clear hb
      go_wp2_with fail
      go_ret
      exact ⟨rfl, HB3.out⟩
  · have HB2 : Hid (Below W.heap.size W w2) := HB1.out.trans (hk2.below (fun _ h => h.elim) HB1.out.size)
    obtain ⟨n, hn⟩ : ∃ n, bads.length = n := ⟨_, rfl⟩
    have hcell : ∀ i (h : i < bads.length), w2.cell? ⟨g, i * 4, none⟩ = some (.int .i64 bads[i].1) ∧ w2.cell? ⟨g, i * 4 + 1, none⟩ = some (.int .i64 bads[i].2.1) ∧ w2.cell? ⟨g, i * 4 + 2, none⟩ = some (.int .i64 bads[i].2.2) ∧ w2.cell? ⟨g, i * 4 + 3, none⟩ = some (.string ⟨#[]⟩) := fun i h => by
      have hget : ∀ j u, (dcells bads[i])[j]? = some u → w2.cell? ⟨g, i * 4 + j, none⟩ = some u := fun j u hj => by
        refine q5 _ u ?_
        have hl4 : ∀ (l : List (Int × Int × Int)), (l.flatMap dcells).length = l.length * 4 := fun l => by
          induction l with
          | nil => rfl
          | cons x l ih => rw [List.flatMap_cons, List.length_append, ih, List.length_cons]; simp [dcells]; omega
        have hsp : bads = bads.take i ++ bads[i] :: bads.drop (i + 1) := by rw [List.getElem_cons_drop]; exact (List.take_append_drop i bads).symm
        have hj4 : j < (dcells bads[i]).length := (List.getElem?_eq_some_iff.1 hj).1
        have hb5 : (bads.flatMap dcells)[i * 4 + j]? = ((bads.take i ++ bads[i] :: bads.drop (i + 1)).flatMap dcells)[i * 4 + j]? := by rw [← hsp]
        rw [hb5, List.flatMap_append, List.getElem?_append_right (by rw [hl4, List.length_take]; omega), hl4, List.length_take, Nat.min_eq_left (by omega), Nat.add_sub_cancel_left, List.flatMap_cons, List.getElem?_append_left hj4]
        exact hj
      exact ⟨hget 0 _ rfl, hget 1 _ rfl, hget 2 _ rfl, hget 3 _ rfl⟩
    have hcode : w2.cell? ⟨g, 0, none⟩ = some (.int .i64 ce) := by
      have h := (hcell 0 q1).1
      have e : bads[0].1 = ce := by
        cases bads with
        | nil => simp at q1
        | cons x r => simpa using q2
      rw [e, Nat.zero_mul] at h
      exact h
    have hplc : ∀ i (h : i < bads.length), Plc s bads[i].2.1 bads[i].2.2 := fun i h => q6 _ (List.getElem_mem h)
    have hcb : (ce == 0) = false := by simpa using hce
    have hnb : ((n : Int) == 0) = false := by
      have : (n : Int) ≠ 0 := by omega
      simpa using this
    have hn0 : 0 < n := by omega
    have hnI : (0 : Int) < (n : Int) := by omega
    rw [hn]
    have hn4 : (n : Int) ≤ 9223372036854775807 := by unfold maxLen at q0; omega
    have HCell := Lib.hid hcell
    have HCode := Lib.hid hcode
    have HPlc := Lib.hid hplc
    have HN := Lib.hid hn
    have H0 := Lib.hid h0
    clear hk2 hce hcell hcode hplc hn q1 q0 q2 q5 q6 h0
    go_wp2_with fail
    go_loopw [40] (fun i wr => ∃ j : Nat, j ≤ n ∧ i = .int .i64 j ∧ Hid (Keeps (fun _ => False) w2 wr)) (fun i _ => n - (intOf i).toNat)
    case atStart => exact ⟨0, Nat.zero_le _, rfl, Keeps.refl _ _⟩
    case round =>
      obtain ⟨j, hj, rfl, hkr⟩ := hrel
      by_cases hlt : j < n
      · have j0 : (0 : Int) ≤ (j : Int) := by omega
        have j1 : (j : Int) < (n : Int) := by omega
        have hjb : j < bads.length := by have := HN.out; omega
        obtain ⟨y0, y1, y2, y3⟩ := HCell.out j hjb
        obtain ⟨x, hx⟩ : ∃ x, bads[j] = x := ⟨_, rfl⟩
        have hpx := HPlc.out j hjb
        rw [hx] at y0 y1 y2 hpx
        have y0 := hkr.out.cell y0 (fun h => h)
        have y1 := hkr.out.cell y1 (fun h => h)
        have y2 := hkr.out.cell y2 (fun h => h)
        have y3 := hkr.out.cell y3 (fun h => h)
        have HOf := Lib.hid (fun (X : World) => offset_plc s x.2.1 x.2.2 X H0.out hpx)
        clear hpx hx
        go_upto_region 8 with (fail)
        obtain ⟨b5, hb5⟩ : ∃ b, wr.heap.size = b := ⟨_, rfl⟩
        obtain ⟨w4, hw4⟩ : ∃ y, wr.alloc (.cells #[.int .i64 x.1, .int .i64 x.2.1, .int .i64 x.2.2, .string ⟨#[]⟩] 28) = y := ⟨_, rfl⟩
        have hb4 := Blk.new wr 28 [.int .i64 x.1, .int .i64 x.2.1, .int .i64 x.2.2, .string ⟨#[]⟩]
        have hk4 : Keeps (fun _ => False) w2 w4 := by rw [← hw4]; exact hkr.out.alloc _
        rw [show wr.alloc (.cells [Value.int .i64 x.1, .int .i64 x.2.1, .int .i64 x.2.2, .string ⟨#[]⟩].toArray 28) = w4 from hw4, hb5] at hb4
        rw [hw4, hb5]
        have z1 := hb4.cell (i := 1) rfl
        have z2 := hb4.cell (i := 2) rfl
        have HK4 := Lib.hid hk4
        clear hw4 hb4 hb5 hk4 y0 y1 y2 y3
        go_wp2_with fail
        clear z1 z2
        with_reducible refine (HOf.out _).mono ?_
        rintro e w5 ⟨no, rfl, hk5⟩
        have HK5 : Hid (Keeps (fun _ => False) w2 w5) := HK4.out.trans hk5 (fun _ _ h => h)
        clear hk5
        go_wp2_with fail
        go_roundw
        case rel => exact ⟨j + 1, by omega, by go_num, HK5⟩
        case measure => simp [intOf]; omega
      · obtain rfl : j = n := by omega
        have j1 : ¬ (j : Int) < (j : Int) := by omega
        have yc := hkr.out.cell HCode.out (fun h => h)
        have HB3 : Hid (Below W.heap.size W wr) := HB2.out.trans (hkr.out.below (fun _ h => h.elim) HB2.out.size)
        go_wp2_with fail
        go_ret
        exact ⟨rfl, HB3.out⟩
  · have HB2 : Hid (Below W.heap.size W w2) := HB1.out.trans (hk2.below (fun _ h => h.elim) HB1.out.size)
    have hnI : (0 : Int) < (n : Int) := by omega
    clear hk2
    go_wp2_with fail
    go_loopw [40] (fun i wr => i = .int .i64 0 ∧ Below W.heap.size W wr) (fun _ _ => 0)
    case atStart => exact ⟨rfl, HB2.out⟩
    case round =>
      obtain ⟨rfl, hb⟩ := hrel
      have HB3 := Lib.hid hb
      clear hb
      go_wp2_with fail
      go_ret
      exact ⟨rfl, HB3.out⟩
end Go.Proofs.YtcjoapmodaioiaaGreatDoor
end
