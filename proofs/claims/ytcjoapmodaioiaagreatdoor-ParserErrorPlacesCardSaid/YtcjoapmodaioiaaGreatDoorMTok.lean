/- The parser: LexScan, Parts, TokSl. -/
import Derived.Test.YtcjoapmodaioiaaGreatDoorLexStep
import Derived.Test.YtcjoapmodaioiaaGreatDoorMLexA
import Derived.Test.YtcjoapmodaioiaaGreatDoorSrcCheck
import Derived.Deep.LoopGhost
import Derived.Test.YtcjoapmodaioiaaGreatDoorBase
import Derived.Test.YtcjoapmodaioiaaGreatDoorSlices
import Derived.WalkSpells
section
namespace Go.Proofs.YtcjoapmodaioiaaGreatDoor
open Go.RowKit Go.Shelf

def Tk.tok (x : Tk) : Tok := ⟨x.kind, ⟨x.text.toArray⟩, x.n, x.line, x.col⟩
def lexS (s : ByteArray) : List Tk × Bool := lex kwB dashB (s.size + 1) s.data.toList 1 1

theorem put_tok (o : Option (Int × Bs × Int)) (ln cl : Int) (l : List Tk) : (put? o ln cl l).map Tk.tok = tokOf o ln cl ++ l.map Tk.tok := by
  cases o with
  | none => rfl
  | some p => obtain ⟨k, u, n⟩ := p; rfl
theorem tokOf_len (o : Option (Int × Bs × Int)) (ln cl : Int) : (tokOf o ln cl).length ≤ 1 := by
  cases o with
  | none => simp [tokOf]
  | some p => obtain ⟨k, u, n⟩ := p; simp [tokOf]

structure TkOk (L : Nat) (lo hi cl : Int) (x : Tk) : Prop where
  kind : 0 ≤ x.kind ∧ x.kind ≤ 9
  text : x.text.length ≤ L
  n : 0 ≤ x.n ∧ x.n ≤ 1073741824
  line : lo ≤ x.line ∧ x.line ≤ hi
  col : 0 ≤ x.col ∧ x.col ≤ cl
theorem TkOk.mono {L L' : Nat} {lo hi cl lo' hi' cl' : Int} {x : Tk} (h : TkOk L lo hi cl x) (h1 : L ≤ L') (h2 : lo' ≤ lo) (h3 : hi ≤ hi') (h4 : cl ≤ cl') : TkOk L' lo' hi' cl' x :=
  ⟨h.kind, by have := h.text; omega, h.n, ⟨by have := h.line.1; omega, by have := h.line.2; omega⟩, ⟨h.col.1, by have := h.col.2; omega⟩⟩
theorem item_ok (c : UInt8) (t : Bs) (k : Int) (u : Bs) (n : Int) (h : (item kwB dashB c t).tok = some (k, u, n)) : (0 ≤ k ∧ k ≤ 9) ∧ u.length ≤ t.length + 1 ∧ (0 ≤ n ∧ n ≤ 1073741824) := by
  have l1 := tw_le (p := inner) (c :: t)
  have l2 := tw_le (p := digit) (c :: t)
  have l3 := tw_le (p := mark) (c :: t)
  simp only [List.length_cons] at l1 l2 l3
  have hnb := numFrom_bd ((c :: t).takeWhile digit) 0 (by omega) (by omega) List.all_takeWhile
  unfold item at h
  split at h
  · cases h
  · split at h
    · simp only [Option.some.injEq, Prod.mk.injEq] at h; obtain ⟨rfl, rfl, rfl⟩ := h; refine ⟨by split <;> omega, l1, by omega⟩
    · split at h
      · simp only [Option.some.injEq, Prod.mk.injEq] at h; obtain ⟨rfl, rfl, rfl⟩ := h; exact ⟨by omega, l1, by omega⟩
      · split at h
        · dsimp only at h
          split at h
          · simp only [Option.some.injEq, Prod.mk.injEq] at h; obtain ⟨rfl, rfl, rfl⟩ := h; exact ⟨by omega, l2, by omega⟩
          · simp only [Option.some.injEq, Prod.mk.injEq] at h; obtain ⟨rfl, rfl, rfl⟩ := h; exact ⟨by omega, l2, hnb⟩
        · split at h
          · simp only [Option.some.injEq, Prod.mk.injEq] at h; obtain ⟨rfl, rfl, rfl⟩ := h; exact ⟨by omega, by simp, by omega⟩
          · split at h
            · dsimp only at h
              split at h
              · cases h
              · simp only [Option.some.injEq, Prod.mk.injEq] at h; obtain ⟨rfl, rfl, rfl⟩ := h; refine ⟨by split <;> omega, l3, by omega⟩
            · cases h

theorem lex_ok : ∀ (f : Nat) (l : Bs) (ln cl : Int), 0 ≤ ln → 0 ≤ cl → ∀ x ∈ (lex kwB dashB f l ln cl).1, TkOk l.length ln (ln + l.length) (cl + l.length + 1) x
  | 0, _, _, _, _, _, x, hx => by simp [lex] at hx
  | f + 1, [], ln, cl, h1, h2, x, hx => by
    simp [lex] at hx
    subst hx
    exact ⟨by simp, by simp, by simp, by simp, by simp; omega⟩
  | f + 1, c :: t, ln, cl, h1, h2, x, hx => by
    unfold lex at hx
    by_cases hc : c = 10
    · rw [if_pos hc] at hx
      exact (lex_ok f t (ln + 1) 1 (by omega) (by omega) x hx).mono (by simp) (by omega) (by simp; omega) (by simp; omega)
    · rw [if_neg hc] at hx
      have hl := item_len (kw := kwB) (dash := dashB) hc t
      have ih := lex_ok f ((c :: t).drop (item kwB dashB c t).len) ln (cl + (item kwB dashB c t).len) h1 (by omega)
      have hd : ((c :: t).drop (item kwB dashB c t).len).length = t.length + 1 - (item kwB dashB c t).len := by rw [List.length_drop, List.length_cons]
      have step : ∀ y ∈ (lex kwB dashB f ((c :: t).drop (item kwB dashB c t).len) ln (cl + (item kwB dashB c t).len)).1, TkOk (c :: t).length ln (ln + (c :: t).length) (cl + (c :: t).length + 1) y := fun y hy =>
        (ih y hy).mono (by rw [hd, List.length_cons]; omega) (by omega) (by rw [hd, List.length_cons]; omega) (by rw [hd, List.length_cons]; omega)
      dsimp only at hx
      cases ho : (item kwB dashB c t).tok with
      | none => rw [ho] at hx; exact step x hx
      | some p =>
        obtain ⟨k, u, n⟩ := p
        rw [ho] at hx
        obtain ⟨g1, g2, g3⟩ := item_ok c t k u n ho
        rcases List.mem_cons.1 hx with rfl | hx
        · exact ⟨g1, by simpa using g2, g3, by simp; omega, by simp; omega⟩
        · exact step x hx

theorem clipD (A : Option Addr) (n c : Nat) (w : World) (h : n ≤ c) (hc : c ≤ maxLen) :
    Calls Tryz.prog 18 #[.slice A n c] w fun e w' => e = .returned (.slice A n n) ∧ w = w' := by
  have hl : n ≤ 9223372036854775807 := by unfold maxLen at hc; omega
  have q0 : (n : Int) ≤ (c : Int) := by omega
  have q1 : (0 : Int) ≤ (n : Int) := by omega
  go_enter Tryz.func18, Tryz.ntmps18
  go_wp2_with fail
  go_ret
  exact ⟨rfl, rfl⟩

theorem lex_next_nl (f : Nat) (t : Bs) (ln cl : Int) (h : t.length < f) : lex kwB dashB (f + 1) (10 :: t) ln cl = lex kwB dashB (f + 1) t (ln + 1) 1 := by
  rw [lex, if_pos rfl]
  exact lex_fuel f t _ _ h (f + 1) (by omega)
theorem lex_next (f : Nat) (c : UInt8) (t : Bs) (ln cl : Int) (hc : c ≠ 10) (h : t.length < f) :
    lex kwB dashB (f + 1) (c :: t) ln cl = (put? (item kwB dashB c t).tok ln cl (lex kwB dashB (f + 1) ((c :: t).drop (item kwB dashB c t).len) ln (cl + (item kwB dashB c t).len)).1,
      (item kwB dashB c t).bad || (lex kwB dashB (f + 1) ((c :: t).drop (item kwB dashB c t).len) ln (cl + (item kwB dashB c t).len)).2) := by
  have hl := item_len (kw := kwB) (dash := dashB) hc t
  rw [lex, if_neg hc]
  dsimp only
  rw [lex_fuel f ((c :: t).drop (item kwB dashB c t).len) ln _ (by rw [List.length_drop, List.length_cons]; omega) (f + 1) (by rw [List.length_drop, List.length_cons]; omega)]

theorem own_form {w : World} {base : Nat} {e : TypeId} {k n : Nat} {v : Value} {xs : List Value} (h : w.ownsRow base e k v n xs) : ∃ A c, v = .slice A n c ∧ n ≤ c ∧ c ≤ maxLen := by
  rcases h.2 with ⟨h1, h2⟩ | ⟨gg, cap, _, h1, _, _, h3⟩
  · exact ⟨none, 0, by rw [h1, h2], by omega, by unfold maxLen; omega⟩
  · exact ⟨some ⟨gg, 0, none⟩, cap, h1, h3.1, h3.2.1⟩

def Plc (s : ByteArray) (ln cl : Int) : Prop := ∃ (k c : Nat) (y : Bs), ln = (k : Int) + 1 ∧ cl = (c : Int) + 1 ∧ (lines s.data.toList)[k]? = some y ∧ c ≤ y.length
theorem Pos.plc {s : ByteArray} {a st : Nat} {ln cl : Int} (h : Pos (s.data.toList.take a) st ln cl) : Plc s ln cl := by
  obtain ⟨_, x, hx, hl⟩ := place_law (s.data.toList.drop a) (s.data.toList.take a) st h.le h.no h.z
  rw [List.take_append_drop] at hx
  exact ⟨_, _, x, h.ln, h.cl, hx, hl⟩
def SBad (s : ByteArray) (B : Nat) (w : World) (v : Value) (c : Int) : Prop := v = .slice none 0 0 ∨ ∃ (g : Nat) (bads : List (Int × Int × Int)), 0 < bads.length ∧ bads.length ≤ maxLen ∧ bads.head?.map (·.1) = some c ∧ v = .slice (some ⟨g, 0, none⟩) bads.length bads.length ∧ B ≤ g ∧ (∀ (j : Nat) (u : Value), (bads.flatMap dcells)[j]? = some u → w.cell? ⟨g, j, none⟩ = some u) ∧ ∀ x ∈ bads, Plc s x.2.1 x.2.2
def Scanned (s : ByteArray) (w : World) (e : Ending) (w' : World) : Prop :=
  Below w.heap.size w w' ∧ ((∃ v1 v2 c, c ≠ 0 ∧ e = .returned (.tuple #[v1, v2, .int .i64 c]) ∧ SBad s w.heap.size w' v2 c ∧ (chk s ≠ 0 ∨ (lexS s).2 = true)) ∨
    (chk s = 0 ∧ (lexS s).2 = false ∧ ∃ v, e = .returned (.tuple #[v, .slice none 0 0, .int .i64 0]) ∧ w'.ownsRow w.heap.size 59 5 v ((lexS s).1.map Tk.tok).length (((lexS s).1.map Tk.tok).flatMap Tok.cells)))

set_option maxRecDepth 100000 in
set_option maxHeartbeats 4000000 in
theorem scan_any (s : ByteArray) (w : World) (m : Int) (hL : Lim w w.heap.size m) :
    Calls Tryz.prog 15 #[.string s] w (Scanned s w) := by
  have HC := Lib.hid (check_any s w)
  by_cases hok : chk s = 0
  · have hsz := chk_size hok
    rw [hok] at HC
    unfold Scanned
    go_enter Tryz.func15, Tryz.ntmps15
    go_wp2_with fail
    with_reducible refine HC.out.mono ?_
    rintro e w1 ⟨rfl, rfl⟩
    go_wp2_with fail
    obtain ⟨p, hp⟩ : ∃ p, w.heap.size = p := ⟨_, rfl⟩
    obtain ⟨wa, hwa⟩ : ∃ wa, w.alloc (.cells #[.string s, .int .i64 0, .int .i64 1, .int .i64 1, .slice none 0 0, .slice none 0 0] 84) = wa := ⟨_, rfl⟩
    have hb0 : Below p w wa := by rw [← hwa, ← hp]; exact Below.alloc (Below.refl _ _) (Nat.le_refl _) _
    have hS0 : Sc wa p p s 0 1 1 (.slice none 0 0) (.slice none 0 0) [] [] := by
      refine ⟨?_, World.ownsRow_nil _ _ _ _, World.ownsRow_nil _ _ _ _, Nat.le_refl _⟩
      rw [← hwa, ← hp]; exact Blk.new _ _ [_, _, _, _, _, _]
    have hLa : Lim w p m := by rw [← hp]; exact hL
    rw [hwa, hp]
    have hwp : p ≤ w.heap.size := by omega
    go_loopg [15] s.size (fun q _ wr => True ∧ ∃ (a : Nat) (ln cl : Int) (ov bv : Value) (toks : List Tok) (bads : List (Int × Int × Int)), a ≤ s.size ∧ s.size ≤ a + q ∧ Sc wr p p s a ln cl ov bv toks bads ∧ Below p w wr ∧ (1 ≤ ln ∧ ln ≤ (a : Int) + 1) ∧ (0 ≤ cl ∧ cl ≤ (a : Int) + 1) ∧ toks.length ≤ a ∧ bads.length ≤ a ∧
      (∀ x ∈ bads, x.1 ≠ 0 ∧ Plc s x.2.1 x.2.2) ∧ Hid (∃ st, Pos (s.data.toList.take a) st ln cl) ∧ Hid ((lexS s).1.map Tk.tok = toks ++ (lex kwB dashB (s.size + 1) (s.data.toList.drop a) ln cl).1.map Tk.tok) ∧ Hid ((lexS s).2 = (decide (0 < bads.length) || (lex kwB dashB (s.size + 1) (s.data.toList.drop a) ln cl).2)))
    case atStart => exact ⟨trivial, 0, 1, 1, _, _, [], [], Nat.zero_le _, by omega, hS0, hb0, by omega, by omega, by simp, by simp, by simp, ⟨0, Pos.start⟩, by show _ = _; rfl, by show _ = _; rfl⟩
    case round =>
      obtain ⟨_, a, ln, cl, ov, bv, toks, bads, ha, hq, hS, hb, hln, hcl, htl, hbl, hbd, hps, hL1, hL2⟩ := hrel
      have e1 := hS.blk.cell (i := 1) rfl
      have hBr : p ≤ wr.heap.size := Nat.le_trans hwp hb.size
      by_cases hlt : a < s.size
      · obtain ⟨q', rfl⟩ : ∃ q', gk = q' + 1 := ⟨gk - 1, by omega⟩
        obtain ⟨c, t, hct⟩ : ∃ c t, s.data.toList.drop a = c :: t := by
          cases h : s.data.toList.drop a with
          | nil => have := congrArg List.length h; rw [List.length_drop, ← Lib.size_eq] at this; simp at this; omega
          | cons c t => exact ⟨c, t, rfl⟩
        have htlen : t.length + 1 = s.size - a := by have := congrArg List.length hct; rw [List.length_drop, ← Lib.size_eq, List.length_cons] at this; omega
        have HSt := Lib.hid (step_any wr p p s a ln cl ov bv toks bads hS m (hLa.later hb) hlt hsz (by omega) (by omega) hBr ⟨by omega, hcl.1⟩ ⟨by omega, by omega⟩ c t hct)
        have k1 : (a : Int) < (s.size : Int) := by omega
        have HCT := Lib.hid hct
        clear hct
        go_wp2_with fail
        with_reducible refine HSt.out.mono ?_
        rintro e w2 ⟨rfl, hbb, ov', bv', bads', hbx, hcase⟩
        go_wp2_with fail
        go_roundg q'
        case measure => omega
        case rel =>
          have hct := HCT.out
          have hbd' : ∀ x ∈ bads', x.1 ≠ 0 ∧ Plc s x.2.1 x.2.2 := fun x hx => by
            rcases hbx x hx with h | h
            · exact hbd x h
            · obtain ⟨st, hps⟩ := hps.out
              exact ⟨h.1, by rw [h.2]; exact hps.plc⟩
          have htk : ∀ k, s.data.toList.take (a + k) = s.data.toList.take a ++ (c :: t).take k := fun k => by rw [List.take_add, hct]
          by_cases hc : c = 10
          · subst hc
            rw [if_pos rfl] at hcase
            have hd : s.data.toList.drop (a + 1) = t := by rw [← List.drop_drop, hct]; rfl
            have hnx := lex_next_nl s.size t ln cl (by omega)
            have g1 := hL1.out
            have g2 := hL2.out
            rw [hct, hnx, ← hd] at g1 g2
            exact ⟨trivial, a + 1, ln + 1, 1, ov', bv', toks, bads', by omega, by omega, by simpa using hcase.1, hb.trans hbb, by omega, by omega, by omega, by omega, hbd', (by obtain ⟨st, hps⟩ := hps.out; exact ⟨_, by rw [htk 1]; exact hps.nl⟩), g1, by show _ = _; rw [hcase.2]; exact g2⟩
          · rw [if_neg hc] at hcase
            have hl := item_len (kw := kwB) (dash := dashB) hc t
            have hnl := item_nl (kw := kwB) (dash := dashB) hc t
            have hnx := lex_next s.size c t ln cl hc (by omega)
            have g1 := hL1.out
            have g2 := hL2.out
            have hto := tokOf_len (item kwB dashB c t).tok ln cl
            rw [hct, hnx] at g1 g2
            have hd : s.data.toList.drop (a + (item kwB dashB c t).len) = (c :: t).drop (item kwB dashB c t).len := by rw [← List.drop_drop, hct]
            rw [← hd] at g1 g2
            obtain ⟨hS2, hbl2⟩ := hcase
            obtain ⟨k, hk⟩ : ∃ k, (item kwB dashB c t).len = k := ⟨_, rfl⟩
            rw [hk] at hl g1 g2 hS2 hnl
            have hps2 : Hid (∃ st, Pos (s.data.toList.take (a + k)) st ln (cl + k)) := by
              obtain ⟨st, hps⟩ := hps.out
              have h5 := hps.go hnl
              rw [← htk k, List.length_take, List.length_cons, Nat.min_eq_left (by omega)] at h5
              exact ⟨st, h5⟩
            refine ⟨trivial, a + k, ln, cl + k, ov', bv', toks ++ tokOf (item kwB dashB c t).tok ln cl, bads', by omega, by omega, by simpa using hS2, hb.trans hbb, by omega, by omega, by rw [List.length_append]; omega, ?_, hbd', hps2, ?_, ?_⟩
            · rw [hbl2]; split <;> omega
            · show _ = _
              rw [g1, put_tok, List.append_assoc]
            · show _ = _
              rw [g2, hbl2]
              cases (item kwB dashB c t).bad <;> simp
      · obtain rfl : a = s.size := by omega
        have k1 : ¬ ((s.size : Nat) : Int) < (s.size : Int) := by omega
        have hz : s.data.toList.drop s.size = [] := List.drop_eq_nil_of_le (by rw [← Lib.size_eq]; exact Nat.le_refl _)
        have g1 := hL1.out
        have g2 := hL2.out
        rw [hz] at g1 g2
        have HP := Lib.hid (put_any wr p p s (s.size : Int) ln cl ov bv toks bads hS 9 0 ⟨#[]⟩ (by omega) hBr (by decide) ⟨by omega, hcl.1⟩ ⟨by omega, by omega⟩)
        have G1 := Lib.hid (show (lexS s).1.map Tk.tok = toks ++ [⟨9, ⟨#[]⟩, 0, ln, cl⟩] from g1)
        have G2 := Lib.hid (show (lexS s).2 = decide (0 < bads.length) from by rw [g2]; simp [lex])
        clear hz g1 g2 hL1 hL2
        go_wp2_with fail
        with_reducible refine HP.out.mono ?_
        rintro e w2 ⟨rfl, ov', hS2, hb2⟩
        obtain ⟨A, cb, hbv, hcb1, hcb2⟩ := own_form hS2.bds
        have e5 := hS2.blk.cell (i := 5) rfl
        have e4 := hS2.blk.cell (i := 4) rfl
        have hbn : bads.length ≤ 9223372036854775807 := by omega
        subst hbv
        have hbw := hb.trans hb2
        by_cases hb0 : 0 < bads.length
        · obtain ⟨g, cap, hv, hpg, hgl⟩ := hS2.bds.form hb0
          simp only [Value.slice.injEq] at hv
          obtain ⟨rfl, _, rfl⟩ := hv
          have d0 : ∃ code, code ≠ 0 ∧ bads.head?.map (·.1) = some code ∧ w2.cell? ⟨g, 0, none⟩ = some (.int .i64 code) := by
            cases bads with
            | nil => simp at hb0
            | cons x rest =>
              refine ⟨x.1, (hbd x (by simp)).1, rfl, ?_⟩
              have := hS2.bds.cells (g := g) rfl 0 (.int .i64 x.1) (by simp [dcells])
              rw [Go.WideShapes.add_plain] at this
              exact this
          obtain ⟨code, hcode, hhd, d0⟩ := d0
          have hcs : ∀ (j : Nat) (u : Value), (bads.flatMap dcells)[j]? = some u → w2.cell? ⟨g, j, none⟩ = some u := fun j u hj => by
            have := hS2.bds.cells (g := g) rfl j u hj
            rw [Go.WideShapes.add_plain] at this
            simpa using this
          have HSB : Hid (∀ n, SBad s p (w2.drewN n) (.slice (some ⟨g, 0, none⟩) bads.length bads.length) code) := fun n => .inr ⟨g, bads, hb0, (by unfold maxLen; omega), hhd, rfl, hpg, hcs, fun x hx => (hbd x hx).2⟩
          clear hcs hhd
          have HCl := Lib.hid (fun (X : World) => clipD (some ⟨g, 0, none⟩) bads.length cb X hcb1 hcb2)
          have i0 : (0 : Int) < (bads.length : Int) := by omega
          have hLf : (lexS s).2 = true := by rw [G2.out]; simpa using hb0
          have HLF := Lib.hid hLf
          clear hLf
          go_wp2_with fail
          go_quiet ((go_at_call 18; refine (HCl.out _).mono ?_; rintro e w'' ⟨rfl, rfl⟩; exact ⟨rfl, _, rfl⟩))
          go_wp2_with fail
          go_ret3
          exact ⟨by rw [hp]; exact Below.drewN hbw _, .inl ⟨_, _, _, hcode, rfl, by rw [hp]; exact HSB.out _, .inr HLF.out⟩⟩
        · have i0 : ¬ (0 : Int) < (bads.length : Int) := by omega
          have hLf : (lexS s).2 = false := by rw [G2.out]; simpa using hb0
          have HLF := Lib.hid hLf
          clear hLf
          go_wp2_with fail
          go_ret3
          refine ⟨by rw [hp]; exact hbw, .inr ⟨hok, HLF.out, ov', rfl, ?_⟩⟩
          rw [G1.out, hp]
          exact hS2.outs
  · have hne : (chk s != 0) = true := bne_iff_ne.2 hok
    unfold Scanned
    go_enter Tryz.func15, Tryz.ntmps15
    go_wp2_with fail
    with_reducible refine HC.out.mono ?_
    rintro e w1 ⟨rfl, rfl⟩
    go_wp2_with fail
    go_ret3
    exact ⟨Below.refl _ _, .inl ⟨_, _, _, hok, rfl, .inl rfl, .inl hok⟩⟩
end Go.Proofs.YtcjoapmodaioiaaGreatDoor
end

section
namespace Go.Proofs.YtcjoapmodaioiaaGreatDoor
section
variable {α : Type} {c : α → List Value} {kk : Nat}
end

end Go.Proofs.YtcjoapmodaioiaaGreatDoor
end

section
namespace Go.Proofs.YtcjoapmodaioiaaGreatDoor
open Go.RowKit Go.Shelf


def TokOk (x : Tok) : Prop := (Lit.int .i64 x.kind).wf = true ∧ x.text.size ≤ maxLen ∧ (Lit.int .i64 x.n).wf = true ∧ (Lit.int .i64 x.line).wf = true ∧ (Lit.int .i64 x.col).wf = true
theorem toks_rp {w : World} {F : Nat → Prop} : ∀ (l : List Tok), (∀ x ∈ l, TokOk x) → RpAll w F (l.map Tok.d) (l.flatMap Tok.cells)
  | [], _ => by simp [RpAll]
  | x :: l, h => by
    rw [List.map_cons, rpAll_cons]
    exact ⟨x.cells, l.flatMap Tok.cells, by simp, Tok.rp.2 ⟨rfl, h x (by simp)⟩, toks_rp l (fun y hy => h y (by simp [hy]))⟩
theorem wf_small {n : Int} (h0 : 0 ≤ n) (h1 : n ≤ 1099511627776) : (Lit.int .i64 n).wf = true := by
  simp [Lit.wf, IntKind.min, IntKind.max, IntKind.signed, IntKind.bits]; omega
theorem tok_ok {L : Nat} {lo hi cl : Int} {x : Tk} (h : TkOk L lo hi cl x) (hL : L ≤ 1000000) (h0 : 0 ≤ lo) (h1 : hi ≤ 1000000) (h2 : cl ≤ 1000000) : TokOk x.tok := by
  obtain ⟨a, b, c, d, e⟩ := h
  refine ⟨wf_small (n := x.kind) a.1 (by omega), ?_, wf_small (n := x.n) c.1 (by omega), wf_small (n := x.line) (by omega) (by omega), wf_small (n := x.col) e.1 (by omega)⟩
  show (ByteArray.mk x.text.toArray).size ≤ maxLen
  rw [Lib.size_eq]
  simp only [maxLen]
  show x.text.length ≤ _
  omega
theorem lexS_ok (s : ByteArray) (h : s.size ≤ 8192) : ∀ x ∈ (lexS s).1.map Tk.tok, TokOk x := fun x hx => by
  obtain ⟨y, hy, rfl⟩ := List.mem_map.1 hx
  exact tok_ok (lex_ok _ _ 1 1 (by omega) (by omega) y hy) (by rw [← Lib.size_eq]; omega) (by omega) (by rw [← Lib.size_eq]; omega) (by rw [← Lib.size_eq]; omega)
theorem Lim.here {w W : World} {B : Nat} {m : Int} (h : Lim w B m) (hb : Below B w W) (hB : B ≤ w.heap.size) : Lim W W.heap.size m :=
  ⟨(h.later hb).1, Nat.lt_of_lt_of_le h.2 (Nat.le_trans hB hb.size)⟩


def Tok.down (d : Int) (x : Tok) : Tok := { x with line := x.line + d }
end Go.Proofs.YtcjoapmodaioiaaGreatDoor
end
