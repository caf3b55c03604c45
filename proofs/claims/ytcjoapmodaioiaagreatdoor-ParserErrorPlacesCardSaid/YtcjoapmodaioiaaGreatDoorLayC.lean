/- layout.Check. -/
import Derived.Test.YtcjoapmodaioiaaGreatDoorMLayB
namespace Go.Proofs.YtcjoapmodaioiaaGreatDoor
open Go.RowKit Go.Shelf

def pv (l : List Tok) : Nat → Option Tok
  | 0 => none
  | j + 1 => l[j]?
def b8 (t : Tok) : Bool := decide (t.line < 1 ∨ t.col < 1)
def b10 (t : Tok) (last : Bool) : Bool := decide (t.kind < 0 ∨ 9 < t.kind ∨ (6 ≤ t.kind ∧ t.kind ≤ 8) ∨ decide (t.kind = 9) ≠ last)
def b12 (p : Option Tok) (t : Tok) : Bool := match p with
  | none => false
  | some q => decide (t.line < q.line ∨ (t.line = q.line ∧ t.col < q.col))
theorem okTok_eq (p : Option Tok) (t : Tok) (last : Bool) : okTok p t last = if b8 t = true then 4 else if b10 t last = true then 3 else if b12 p t = true then 3 else 0 := by
  unfold okTok b8 b10 b12
  simp only [decide_eq_true_eq]
  cases p <;> simp
theorem okL_step (l : List Tok) (j : Nat) (h : j < l.length) : okL (pv l j) (l.drop j) = if okTok (pv l j) l[j] (decide (j + 1 = l.length)) ≠ 0 then okTok (pv l j) l[j] (decide (j + 1 = l.length)) else okL (pv l (j + 1)) (l.drop (j + 1)) := by
  have e : (l.drop (j + 1)).isEmpty = decide (j + 1 = l.length) := by
    by_cases h1 : j + 1 = l.length
    · rw [List.drop_of_length_le (by omega), decide_eq_true h1]; rfl
    · rw [decide_eq_false h1]
      cases hd : l.drop (j + 1) with
      | nil => have := congrArg List.length hd; rw [List.length_drop] at this; simp only [List.length_nil] at this; omega
      | cons a b => rfl
  rw [List.drop_eq_getElem_cons h, okL, e]
  have hp : pv l (j + 1) = some l[j] := by show l[j]? = _; rw [List.getElem?_eq_getElem h]
  rw [hp]
set_option maxRecDepth 100000 in
set_option maxHeartbeats 16000000 in
theorem lcheck_any (l : List Tok) (v : Value) (F : Nat → Prop) (W : World) (hv : Sl W F Tok.d l v) (hF : ∀ b, F b → b < W.heap.size) :
    Calls Tryz.prog 37 #[v] W (fun e w' => e = .returned (.int .i64 (layChk l)) ∧ Keeps (fun _ => False) W w') := by
  obtain ⟨A, c, rfl, hlc, hcm, _⟩ := hv.form
  have hl63 : l.length ≤ 9223372036854775807 := by unfold maxLen at hcm; omega
  unfold layChk
  by_cases hbig : 8193 < l.length
  · have hbi : (8193 : Int) < (l.length : Int) := by omega
    rw [if_pos hbig]
    clear hbig hv hcm
    go_enter Tryz.func37, Tryz.ntmps37
    go_wp2_with fail
    go_ret
    exact ⟨rfl, Keeps.refl _ _⟩
  · rw [if_neg hbig]
    have hbi : ¬ (8193 : Int) < (l.length : Int) := by omega
    by_cases hnil : l = []
    · subst hnil
      clear hv hcm hbig
      go_enter Tryz.func37, Tryz.ntmps37
      go_wp2_with fail
      go_ret
      exact ⟨rfl, Keeps.refl _ _⟩
    · obtain ⟨n, hn⟩ : ∃ n, l.length = n + 1 := ⟨l.length - 1, by have := List.length_pos_iff.2 hnil; omega⟩
      have hnl : n < l.length := by omega
      have hlast : l.getLast? = some l[n] := by rw [List.getLast?_eq_getElem?, hn, Nat.add_sub_cancel, List.getElem?_eq_getElem hnl]
      obtain ⟨g, off, hA, _, z0, _, _, _, _, _⟩ := Tok.get hv hnl
      subst hA
      rw [hlast]
      dsimp only
      obtain ⟨e, he⟩ : ∃ e, l[n] = e := ⟨_, rfl⟩
      rw [he] at z0 ⊢
      have HV := Lib.hid hv
      have HF := Lib.hid hF
      have HN := Lib.hid hn
      rw [hn] at hl63 hbi
      have hnz : ¬ ((n : Int) + 1 = 0) := by omega
      have hn0 : (0 : Int) ≤ (n : Int) := by omega
      have hn1 : (n : Int) < (n : Int) + 1 := by omega
      have hn8 : n ≤ 8192 := by omega
      rw [hn]
      by_cases hk : e.kind = 9
      · have hkb : (e.kind != 9) = false := by simpa using hk
        rw [if_neg (fun h => h hk)]
        obtain ⟨R, hR⟩ : ∃ R, okL none l = R := ⟨_, rfl⟩
        rw [hR]
        have HR := Lib.hid hR
        clear hv hF hn hbig hnil hlast he hk hlc hcm hR
        go_enter Tryz.func37, Tryz.ntmps37
        go_wp2_with fail
        go_loopw [23] (fun i wr => ∃ j : Nat, j ≤ n + 1 ∧ .int .i64 (j : Int) = i ∧ Keeps (fun _ => False) W wr ∧ Hid (R = okL (pv l j) (l.drop j))) (fun i _ => n + 1 - (intOf i).toNat)
        case atStart => exact ⟨0, Nat.zero_le _, rfl, Keeps.refl _ _, HR.out.symm⟩
        case round =>
          obtain ⟨j, hj, rfl, hkr, hno⟩ := hrel
          obtain ⟨wx, hwx⟩ : ∃ wx, wx = wr := ⟨_, rfl⟩
          rw [← hwx] at hkr ⊢
          clear hwx
          by_cases hlt : j < n + 1
          · have hjl : j < l.length := by have := HN.out; omega
            have hst := okL_step l j hjl
            rw [okTok_eq] at hst
            obtain ⟨g', off', hA', _, d0, d1, d2, d3, d4, _, _, _, _, _⟩ := Tok.get (HV.out.keeps hkr (fun _ _ h => h)) hjl
            simp only [Option.some.injEq, Addr.mk.injEq, and_true] at hA'
            obtain ⟨rfl, rfl⟩ := hA'
            obtain ⟨t, ht⟩ : ∃ t, l[j] = t := ⟨_, rfl⟩
            rw [ht] at d0 d1 d2 d3 d4 hst
            obtain ⟨b4, hb4⟩ : ∃ b4, wx.heap.size = b4 := ⟨_, rfl⟩
            obtain ⟨W7, hW7⟩ : ∃ W7, wx.alloc (.cells #[.int .i64 t.kind, .string t.text, .int .i64 t.n, .int .i64 t.line, .int .i64 t.col] 59) = W7 := ⟨_, rfl⟩
            have hk7 : Keeps (fun _ => False) wx W7 := by rw [← hW7]; exact (Keeps.refl _ _).alloc _
            have hB4 : Blk W7 b4 59 [.int .i64 t.kind, .string t.text, .int .i64 t.n, .int .i64 t.line, .int .i64 t.col] := by rw [← hW7, ← hb4]; exact Blk.new wx _ [_, _, _, _, _]
            have hkW := hkr.trans hk7 (fun _ _ h => h)
            have y0 := hB4.cell (i := 0) rfl
            have y3 := hB4.cell (i := 3) rfl
            have y4 := hB4.cell (i := 4) rfl
            have hji : (j : Int) < (n : Int) + 1 := by omega
            have hj0 : (0 : Int) ≤ (j : Int) := by omega
            have hj8 : (j : Int) ≤ 8192 := by omega
            obtain ⟨lq, hlq⟩ : ∃ lq, decide (j + 1 = l.length) = lq := ⟨_, rfl⟩
            have hlqi : ((j : Int) == (n : Int) + 1 - 1) = lq := by
              rw [← hlq, HN.out]
              by_cases h : j = n
              · subst h; simp
              · rw [decide_eq_false (by omega)]
                rw [beq_eq_false_iff_ne]; omega
            have hlqi2 : ((j : Int) == (n : Int)) = lq := by
              rw [← hlqi, Int.add_sub_cancel]
            rw [hlq] at hst
            have HST := Lib.hid (hno.out.trans hst)
            have HKr := Lib.hid hkr
            have HKW := Lib.hid hkW
            have HW7 := Lib.hid hW7
            have HBn := Lib.hid hb4
            clear hst hno hkr hkW hk7 hW7 hb4 hB4 ht hlq
            go_upto_region 8 with (fail)
            rw [HW7.out, HBn.out]
            clear d0 d1 d2 d3 d4
            go_cut [28] from 29 to 36 (fun v28 wd => v28 = .bool (b8 t) ∧ wd = W7)
            case first =>
              by_cases h1 : t.line < 1
              · have HV8 : Hid (b8 t = true) := by show b8 t = _; unfold b8; simp [h1]
                go_wp2_with fail
                go_meet
                exact ⟨by rw [HV8.out], rfl⟩
              · by_cases h2 : t.col < 1
                · have HV8 : Hid (b8 t = true) := by show b8 t = _; unfold b8; simp [h2]
                  go_wp2_with fail
                  go_meet
                  exact ⟨by rw [HV8.out], rfl⟩
                · have HV8 : Hid (b8 t = false) := by show b8 t = _; unfold b8; simp only [decide_eq_false_iff_not]; omega
                  go_wp2_with fail
                  go_meet
                  exact ⟨by rw [HV8.out], rfl⟩
            case rest =>
              obtain ⟨rfl, rfl⟩ := hcut
              obtain ⟨q8, hq8⟩ : ∃ q, b8 t = q := ⟨_, rfl⟩
              rw [hq8] at HST ⊢
              clear hq8
              have h23 : True := trivial
              cases q8
              case true =>
                have hR4 : R = 4 := by have h := HST.out; simpa using h
                subst hR4
                clear HST
                go_wp2_with fail
                go_ret
                exact ⟨rfl, HKW.out⟩
              go_upto_region 10 with (fail)
              go_cut [37] from 38 to 66 (fun v37 wd => v37 = .bool (b10 t lq) ∧ wd = wc)
              case first =>
                obtain ⟨k9, hk9⟩ : ∃ k9, (t.kind == 9) = k9 := ⟨_, rfl⟩
                have hk9d : decide (t.kind = 9) = k9 := by rw [← hk9]; by_cases h : t.kind = 9 <;> simp [h]
                have HK9 := Lib.hid hk9d
                clear hk9d
                by_cases h1 : t.kind < 0
                · have HV8 : Hid (b10 t lq = true) := by show b10 t lq = _; unfold b10; simp [h1]
                  go_wp2_with fail
                  go_meet
                  exact ⟨by rw [HV8.out]; try (cases k9 <;> cases lq <;> rfl), rfl⟩
                · by_cases h2 : 9 < t.kind
                  · have HV8 : Hid (b10 t lq = true) := by show b10 t lq = _; unfold b10; simp [h2]
                    go_wp2_with fail
                    go_meet
                    exact ⟨by rw [HV8.out]; try (cases k9 <;> cases lq <;> rfl), rfl⟩
                  · by_cases h3 : 6 ≤ t.kind
                    · by_cases h4 : t.kind ≤ 8
                      · have HV8 : Hid (b10 t lq = true) := by show b10 t lq = _; unfold b10; simp [h3, h4]
                        go_wp2_with fail
                        go_meet
                        exact ⟨by rw [HV8.out]; try (cases k9 <;> cases lq <;> rfl), rfl⟩
                      · have HV8 : Hid (b10 t lq = (k9 != lq)) := by
                          show b10 t lq = (k9 != lq)
                          unfold b10
                          rw [HK9.out]
                          have e1 : ¬ (6 ≤ t.kind ∧ t.kind ≤ 8) := fun h => h4 h.2
                          simp only [h1, h2, e1, false_or]
                          cases k9 <;> cases lq <;> rfl
                        go_wp2_with fail
                        go_meet
                        exact ⟨by rw [HV8.out]; try (cases k9 <;> cases lq <;> rfl), rfl⟩
                    · have HV8 : Hid (b10 t lq = (k9 != lq)) := by
                        show b10 t lq = (k9 != lq)
                        unfold b10
                        rw [HK9.out]
                        have e1 : ¬ (6 ≤ t.kind ∧ t.kind ≤ 8) := fun h => h3 h.1
                        simp only [h1, h2, e1, false_or]
                        cases k9 <;> cases lq <;> rfl
                      go_wp2_with fail
                      go_meet
                      exact ⟨by rw [HV8.out]; try (cases k9 <;> cases lq <;> rfl), rfl⟩
              case rest =>
                obtain ⟨rfl, hww⟩ := hcut
                subst hww
                obtain ⟨q10, hq10⟩ : ∃ q, b10 t lq = q := ⟨_, rfl⟩
                rw [hq10] at HST ⊢
                clear hq10
                cases q10
                case true =>
                  have hR4 : R = 3 := by have h := HST.out; simpa using h
                  subst hR4
                  clear HST
                  go_wp2_with fail
                  go_ret
                  exact ⟨rfl, HKW.out⟩
                go_upto_region 12 with (fail)
                go_cut [67] from 68 to 102 (fun v67 wd => v67 = .bool (b12 (pv l j) t) ∧ Keeps (fun _ => False) wc wd)
                case first =>
                  rcases Nat.eq_zero_or_pos j with hz | hz
                  · subst hz
                    have HV8 : Hid (b12 (pv l 0) t = false) := rfl
                    go_region
                    go_wp2_with fail
                    go_meet
                    exact ⟨by rw [HV8.out], (by repeat (first | (with_reducible assumption) | (with_reducible exact Keeps.refl _ _) | (with_reducible refine Keeps.drewN ?_ _) | (with_reducible refine Keeps.drew ?_) | with_reducible refine Keeps.setCell ?_ (by first | (intro _; exact rfl) | (intro _; exact Or.inl rfl) | (intro _; exact Or.inr rfl) | (simp; done) | (simp; omega)) _ | (with_reducible refine Keeps.alloc ?_ _)))⟩
                  · obtain ⟨i, rfl⟩ : ∃ i, j = i + 1 := ⟨j - 1, by omega⟩
                    have hil : i < l.length := by omega
                    have hpv : pv l (i + 1) = some l[i] := by show l[i]? = _; rw [List.getElem?_eq_getElem hil]
                    obtain ⟨g', off', hA', _, _, _, _, p3, p4, _, _, _, _, _⟩ := Tok.get (HV.out.keeps HKW.out (fun _ _ h => h)) hil
                    simp only [Option.some.injEq, Addr.mk.injEq, and_true] at hA'
                    obtain ⟨rfl, rfl⟩ := hA'
                    obtain ⟨q, hq⟩ : ∃ q, l[i] = q := ⟨_, rfl⟩
                    rw [hq] at p3 p4 hpv
                    have HPv := Lib.hid hpv
                    have hw1 : (IntKind.i64.wrap ((i : Int) + 1 - 1)) = (i : Int) := by rw [IntKind.wrap_i64]; omega
                    have hw2 : (IntKind.i64.wrap (i : Int)) = (i : Int) := by rw [IntKind.wrap_i64]; omega
                    have hi0 : (0 : Int) ≤ (i : Int) := by omega
                    have hi1 : (0 : Int) < (i : Int) + 1 := by omega
                    have hi2 : (i : Int) < (n : Int) + 1 := by omega
                    clear hq hpv hlqi hlqi2
                    by_cases h1 : t.line < q.line
                    · have hb1 := decide_eq_true h1
                      have HV8 : Hid (b12 (pv l (i + 1)) t = true) := by
                        show b12 (pv l (i + 1)) t = _
                        rw [HPv.out]
                        show decide _ = _
                        simp [h1]
                      go_region
                      go_wp2_with fail
                      go_meet
                      exact ⟨by rw [HV8.out], (by repeat (first | (with_reducible assumption) | (with_reducible exact Keeps.refl _ _) | (with_reducible refine Keeps.drewN ?_ _) | (with_reducible refine Keeps.drew ?_) | with_reducible refine Keeps.setCell ?_ (by first | (intro _; exact rfl) | (intro _; exact Or.inl rfl) | (intro _; exact Or.inr rfl) | (simp; done) | (simp; omega)) _ | (with_reducible refine Keeps.alloc ?_ _)))⟩
                    · by_cases h2 : t.line = q.line
                      · have hb2 : (t.line == q.line) = true := by simpa using h2
                        have H2 := Lib.hid h2
                        clear h2
                        by_cases h3 : t.col < q.col
                        · have hb3 := decide_eq_true h3
                          have HV8 : Hid (b12 (pv l (i + 1)) t = true) := by
                            show b12 (pv l (i + 1)) t = _
                            rw [HPv.out]
                            show decide _ = _
                            simp only [decide_eq_true_eq]; exact .inr ⟨H2.out, h3⟩
                          go_region
                          go_wp2_with fail
                          go_meet
                          exact ⟨by rw [HV8.out], (by repeat (first | (with_reducible assumption) | (with_reducible exact Keeps.refl _ _) | (with_reducible refine Keeps.drewN ?_ _) | (with_reducible refine Keeps.drew ?_) | with_reducible refine Keeps.setCell ?_ (by first | (intro _; exact rfl) | (intro _; exact Or.inl rfl) | (intro _; exact Or.inr rfl) | (simp; done) | (simp; omega)) _ | (with_reducible refine Keeps.alloc ?_ _)))⟩
                        · have hb3 := decide_eq_false h3
                          have HV8 : Hid (b12 (pv l (i + 1)) t = false) := by
                            show b12 (pv l (i + 1)) t = _
                            rw [HPv.out]
                            show decide _ = _
                            simp only [decide_eq_false_iff_not]; have := H2.out; omega
                          go_region
                          go_wp2_with fail
                          go_meet
                          exact ⟨by rw [HV8.out], (by repeat (first | (with_reducible assumption) | (with_reducible exact Keeps.refl _ _) | (with_reducible refine Keeps.drewN ?_ _) | (with_reducible refine Keeps.drew ?_) | with_reducible refine Keeps.setCell ?_ (by first | (intro _; exact rfl) | (intro _; exact Or.inl rfl) | (intro _; exact Or.inr rfl) | (simp; done) | (simp; omega)) _ | (with_reducible refine Keeps.alloc ?_ _)))⟩
                      · have hb2 : (t.line == q.line) = false := by simpa using h2
                        have HV8 : Hid (b12 (pv l (i + 1)) t = false) := by
                          show b12 (pv l (i + 1)) t = _
                          rw [HPv.out]
                          show decide _ = _
                          simp only [decide_eq_false_iff_not]; omega
                        go_region
                        go_wp2_with fail
                        go_meet
                        exact ⟨by rw [HV8.out], (by repeat (first | (with_reducible assumption) | (with_reducible exact Keeps.refl _ _) | (with_reducible refine Keeps.drewN ?_ _) | (with_reducible refine Keeps.drew ?_) | with_reducible refine Keeps.setCell ?_ (by first | (intro _; exact rfl) | (intro _; exact Or.inl rfl) | (intro _; exact Or.inr rfl) | (simp; done) | (simp; omega)) _ | (with_reducible refine Keeps.alloc ?_ _)))⟩
                case rest =>
                  obtain ⟨rfl, hk12⟩ := hcut
                  have HK12 := Lib.hid (HKW.out.trans hk12 (fun _ _ h => h))
                  clear hk12
                  obtain ⟨q12, hq12⟩ : ∃ q, b12 (pv l j) t = q := ⟨_, rfl⟩
                  rw [hq12] at HST ⊢
                  clear hq12
                  cases q12
                  · have hR4 : Hid (R = okL (pv l (j + 1)) (l.drop (j + 1))) := by show R = _; have h := HST.out; simpa using h
                    clear HST
                    go_wp2_with fail
                    go_roundw
                    case rel => exact ⟨j + 1, by omega, by go_num, HK12.out, hR4.out⟩
                    case measure => simp [intOf]; omega
                  · have hR4 : R = 3 := by have h := HST.out; simpa using h
                    subst hR4
                    clear HST
                    go_wp2_with fail
                    go_ret
                    exact ⟨rfl, HK12.out⟩
          · have hjl : ¬ (j : Int) < (n : Int) + 1 := by omega
            have hres : R = 0 := by
              have h1 := HN.out
              rw [hno.out, List.drop_of_length_le (by omega)]; rfl
            subst hres
            have HKr := Lib.hid hkr
            clear hkr hno hlt
            go_wp2_with fail
            go_ret
            exact ⟨rfl, HKr.out⟩
      · have hkb : (e.kind != 9) = true := by simpa using hk
        rw [if_pos hk]
        clear hv hF hn hbig hnil hlast he hk hlc hcm
        go_enter Tryz.func37, Tryz.ntmps37
        go_wp2_with fail
        go_ret
        exact ⟨rfl, Keeps.refl _ _⟩
end Go.Proofs.YtcjoapmodaioiaaGreatDoor
