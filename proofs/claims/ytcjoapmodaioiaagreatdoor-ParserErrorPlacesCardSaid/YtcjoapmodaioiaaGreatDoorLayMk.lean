/- layout.Mark, walked. -/
import Derived.Test.YtcjoapmodaioiaaGreatDoorLayK
import Derived.Deep.RegionWith
namespace Go.Proofs.YtcjoapmodaioiaaGreatDoor
open Go.RowKit Go.Shelf

def MarkPost (l : List Tok) (W : World) (e : Ending) (w' : World) : Prop := Keeps (fun _ => False) W w' ∧
  ((layChk l ≠ 0 ∧ e = .returned (.tuple #[.slice none 0 0, .int .i64 (layChk l)])) ∨
   (layChk l = 0 ∧ ∃ e0 u, l.getLast? = some e0 ∧ e = .returned (.tuple #[u, .int .i64 0]) ∧ w'.ownsRow W.heap.size 59 5 u (markP l e0).length ((markP l e0).flatMap Tok.cells) ∧ ∀ t ∈ markP l e0, TokOk t))
theorem tok_of_get {w : World} {F : Nat → Prop} {l : List Tok} {A : Option Addr} {n c : Nat} (h : Sl w F Tok.d l (.slice A n c)) {i : Nat} (hi : i < l.length) : TokOk l[i] := by
  obtain ⟨_, _, _, _, _, _, _, _, _, h1, h2, h3, h4, h5⟩ := Tok.get h hi
  exact ⟨h1, h2, h3, h4, h5⟩
theorem mk_zero {W : World} {B bm : Nat} (hb : Blk W bm 90 [.slice none 0 0, .slice none 0 0]) : MkAt W B bm (.slice none 0 0) (.slice none 0 0) ⟨[], []⟩ :=
  ⟨hb, World.ownsRow_nil _ _ _ _, World.ownsRow_nil _ _ _ _, (fun c hc => by cases hc), (fun t ht => by cases ht)⟩
def firstP (p : Option Tok) (t : Tok) : Bool := match p with
  | none => true
  | some q => decide (q.line < t.line)
def openedP (p : Option Tok) : Bool := match p with
  | none => false
  | some q => opensP q
def opText (p : Option Tok) : ByteArray := match p with
  | none => ⟨#[]⟩
  | some q => q.text
theorem blockP_eq (p : Option Tok) (t : Tok) (m : Mk) : blockP p t m = if openedP p = false then (m, firstP p t) else if isP t 5 sOpB = true then (m, false) else if t.kind ≠ 9 ∧ enclP m.st < t.col then ((m.put 6 t).push ⟨t.col, opText p⟩, false) else ((m.put 6 t).put 7 t, firstP p t) := by
  cases p <;> rfl
set_option maxRecDepth 100000 in
set_option maxHeartbeats 32000000 in
theorem lmark_any (l : List Tok) (v : Value) (F : Nat → Prop) (W : World) (hv : Sl W F Tok.d l v) (hF : ∀ b, F b → b < W.heap.size) :
    Calls Tryz.prog 16 #[v] W (MarkPost l W) := by
  obtain ⟨ic, hic, hcz0, hcz1, hcz2⟩ := info_parts info_ctx
  obtain ⟨it, hit, htz0, htz1, htz2⟩ := info_parts infoTok
  obtain ⟨A, c, rfl, hlc, hcm, _⟩ := hv.form
  have HCk := Lib.hid (lcheck_any l _ F W hv hF)
  by_cases hck : layChk l = 0
  case neg =>
    obtain ⟨ce, hce⟩ : ∃ ce, layChk l = ce := ⟨_, rfl⟩
    rw [hce] at HCk hck
    have hne : (ce != 0) = true := by simpa using hck
    unfold MarkPost
    rw [hce]
    have HNe : Hid (ce ≠ 0) := hck
    clear hv hF hce hck hcm
    go_enter Tryz.func16, Tryz.ntmps16
    go_wp2_with fail
    with_reducible refine HCk.out.mono ?_
    rintro e w1 ⟨rfl, hk1⟩
    have HK1 := Lib.hid hk1
    clear hk1
    go_wp2_with fail
    go_ret2
    exact ⟨HK1.out, .inl ⟨HNe.out, rfl⟩⟩
  have hbig : ¬ 8193 < l.length := fun h => by unfold layChk at hck; rw [if_pos h] at hck; cases hck
  have hnil : l ≠ [] := fun h => by rw [h] at hck; cases hck
  obtain ⟨a0, e0, hsn⟩ := snoc_of_ne hnil
  have hlast : l.getLast? = some e0 := by rw [hsn]; simp
  have hokl : okL none l = 0 := by
    unfold layChk at hck
    rw [if_neg hbig, hlast] at hck
    dsimp only at hck
    split at hck
    · cases hck
    · exact hck
  obtain ⟨g1, g2, g3⟩ := okL_tok l none hokl a0 e0 hsn
  obtain ⟨n, hn⟩ : ∃ n, a0.length = n := ⟨_, rfl⟩
  have hln : l.length = n + 1 := by rw [hsn, List.length_append, hn]; rfl
  have hg9 : ∀ j (h : j < l.length), j < n → l[j].kind ≠ 9 := fun j h hjn => by
    have : l[j] = a0[j]'(by omega) := by simp only [hsn]; rw [List.getElem_append_left (by omega)]
    rw [this]; exact g2 _ (List.getElem_mem _)
  have hge : ∀ (h : n < l.length), l[n] = e0 := fun h => by simp only [hsn]; rw [List.getElem_append_right (by omega)]; simp [hn]
  have hpost : Hid (∀ e w', Keeps (fun _ => False) W w' → (∃ u, e = .returned (.tuple #[u, .int .i64 0]) ∧ w'.ownsRow W.heap.size 59 5 u (markP l e0).length ((markP l e0).flatMap Tok.cells) ∧ ∀ t ∈ markP l e0, TokOk t) → MarkPost l W e w') := fun e w' hk h => by
    obtain ⟨u, h1, h2, h3⟩ := h
    exact ⟨hk, .inr ⟨hck, e0, u, hlast, h1, h2, h3⟩⟩
  rw [hck] at HCk
  have hl63 : n + 1 ≤ 8193 := by omega
  have HV := Lib.hid hv
  have HF := Lib.hid hF
  have HLn := Lib.hid hln
  have HG1 := Lib.hid g1
  have HG9 := Lib.hid hg9
  have HGe := Lib.hid hge
  have HG3 := Lib.hid g3
  have HPhi := Lib.hid (phi_atM l (fun t ht => by have := (g1 t ht).2.1; omega))
  rw [hln] at HCk ⊢
  clear hv hF hck hbig hnil hsn hlast hokl g1 g2 g3 hn hg9 hge hlc hcm hln
  go_enter Tryz.func16, Tryz.ntmps16
  go_wp2_with fail
  with_reducible refine HCk.out.mono ?_
  rintro e w1 ⟨rfl, hk1⟩
  obtain ⟨bm, hbm⟩ : ∃ bm, w1.heap.size = bm := ⟨_, rfl⟩
  obtain ⟨Wm, hWm⟩ : ∃ Wm, w1.alloc (.cells #[.slice none 0 0, .slice none 0 0] 90) = Wm := ⟨_, rfl⟩
  have hkm : Keeps (fun _ => False) W Wm := by rw [← hWm]; exact hk1.alloc _
  have hBm : Blk Wm bm 90 [.slice none 0 0, .slice none 0 0] := by rw [← hWm, ← hbm]; exact Blk.new w1 _ [_, _]
  have hs1 := hk1.size
  have HB : Hid (W.heap.size ≤ bm) := by show _ ≤ _; omega
  have HM0 := Lib.hid (mk_zero (B := W.heap.size) hBm)
  have HKm := Lib.hid hkm
  have HWm := Lib.hid hWm
  have HBn := Lib.hid hbm
  clear hk1 hkm hBm hWm hbm hs1 HCk
  go_upto_region 5 with (fail)
  rw [HWm.out, HBn.out]
  go_wp2_with fail
  go_loopw [19] (fun i wr => ∃ j : Nat, j ≤ n ∧ .int .i64 (j : Int) = i ∧ MkTo W.heap.size bm (.slice none 0 0) (.slice none 0 0) Wm (atM l j) wr) (fun i _ => n + 1 - (intOf i).toNat)
  case atStart => exact ⟨0, Nat.zero_le _, rfl, MkTo.same HM0.out (Keeps.refl _ _)⟩
  case round =>
    obtain ⟨j, hj, rfl, hto⟩ := hrel
    obtain ⟨sv1, ov1, hM, hk, hn⟩ := hto
    obtain ⟨wx, hwx⟩ : ∃ wx, wx = wr := ⟨_, rfl⟩
    rw [← hwx] at hM hk ⊢
    clear hwx
    have hjl : j < l.length := by have := HLn.out; omega
    have hO0 : ∀ i, F i → ¬ Own3 bm (.slice none 0 0) (.slice none 0 0) i := fun i hi ho => by
      have h1 := HF.out i hi
      have h2 := HB.out
      rcases ho with h | h | h
      · omega
      · cases h
      · cases h
    have hvx := (HV.out.keeps HKm.out (fun _ _ h => h)).keeps hk hO0
    obtain ⟨g, off, hA, hgF, d0, d1, d2, d3, d4, _, _, _, _, _⟩ := Tok.get hvx hjl
    have hA2 := hA
    subst hA
    have hto : TokOk l[j] := tok_of_get hvx hjl
    have hcol : 1 ≤ l[j].col := (HG1.out _ (List.getElem_mem hjl)).2.1
    have hat := atM_succ l j hjl
    have hphi : phi (atM l j) ≤ 41000 := by have h1 := HPhi.out j (by omega); omega
    obtain ⟨t, ht⟩ : ∃ t, l[j] = t := ⟨_, rfl⟩
    rw [ht] at d0 d1 d2 d3 d4 hto hcol hat
    obtain ⟨m1, hm1⟩ : ∃ m1, atM l j = m1 := ⟨_, rfl⟩
    rw [hm1] at hM hphi hat
    obtain ⟨b7, hb7⟩ : ∃ b7, wx.heap.size = b7 := ⟨_, rfl⟩
    obtain ⟨W7, hW7⟩ : ∃ W7, wx.alloc (.cells #[.int .i64 t.kind, .string t.text, .int .i64 t.n, .int .i64 t.line, .int .i64 t.col] 59) = W7 := ⟨_, rfl⟩
    have hk7 : Keeps (fun _ => False) wx W7 := by rw [← hW7]; exact (Keeps.refl _ _).alloc _
    have hB7 : Blk W7 b7 59 [.int .i64 t.kind, .string t.text, .int .i64 t.n, .int .i64 t.line, .int .i64 t.col] := by rw [← hW7, ← hb7]; exact Blk.new wx _ [_, _, _, _, _]
    have hO1 : ∀ i, F i → ¬ Own3 bm sv1 ov1 i := fun i hi ho => by
      have h1 := HF.out i hi
      have h2 := HB.out
      rcases ho with h | h | h
      · omega
      · have := (hM.stk.lt i h).1; omega
      · have := (hM.out.lt i h).1; omega
    have HVt : Hid (∀ X, Keeps (Own3 bm sv1 ov1) W7 X → Sl X F Tok.d l (.slice (some ⟨g, off, none⟩) l.length c)) := fun X hX => (hvx.keeps hk7 (fun _ _ h => h)).keeps hX hO1
    have HBox : Hid (∀ X, Keeps (Own3 bm sv1 ov1) W7 X → Blk X b7 59 [.int .i64 t.kind, .string t.text, .int .i64 t.n, .int .i64 t.line, .int .i64 t.col]) := fun X hX => hB7.keeps hX (fun ho => by have := hM.lt _ ho; omega)
    have HRel : Hid (∀ m' w', MkTo W.heap.size bm sv1 ov1 W7 m' w' → MkTo W.heap.size bm (.slice none 0 0) (.slice none 0 0) Wm m' w') := fun m' w' h => MkTo.trans hk hn (MkTo.trans (hk7.mono (fun _ _ h => h.elim)) (fun i hi => .inl hi) h)
    have HM7 := Lib.hid (hM.same hk7)
    have hsz7 := hk7.size
    have hszx := hk.size
    have hlm := HM0.out.box.lt
    have HB7 : Hid (W.heap.size ≤ W7.heap.size) := by have := HB.out; show _ ≤ _; omega
    have HTo := Lib.hid hto
    have HCol := Lib.hid hcol
    have HAt := Lib.hid hat
    have HPh := Lib.hid hphi
    have HW7 := Lib.hid hW7
    have HBn7 := Lib.hid hb7
    have HTe := Lib.hid ht
    obtain ⟨pq, hpq⟩ : ∃ pq, pv l j = pq := ⟨_, rfl⟩
    rw [hpq] at HAt
    have HPq := Lib.hid hpq
    have hprev : Hid ((j = 0 ∧ pq = none) ∨ ∃ i q, j = i + 1 ∧ pq = some q ∧ TokOk q ∧ ∀ X, Keeps (Own3 bm sv1 ov1) W7 X → X.cell? ⟨g, off + i * 5, none⟩ = some (.int .i64 q.kind) ∧ X.cell? ⟨g, off + i * 5 + 1, none⟩ = some (.string q.text) ∧ X.cell? ⟨g, off + i * 5 + 2, none⟩ = some (.int .i64 q.n) ∧ X.cell? ⟨g, off + i * 5 + 3, none⟩ = some (.int .i64 q.line) ∧ X.cell? ⟨g, off + i * 5 + 4, none⟩ = some (.int .i64 q.col)) := by
      rcases Nat.eq_zero_or_pos j with hz | hz
      · subst hz; exact .inl ⟨rfl, hpq.symm⟩
      · obtain ⟨i, rfl⟩ : ∃ i, j = i + 1 := ⟨j - 1, by omega⟩
        have hil : i < l.length := by omega
        refine .inr ⟨i, l[i], rfl, by rw [← hpq]; show l[i]? = _; rw [List.getElem?_eq_getElem hil], tok_of_get hvx hil, fun X hX => ?_⟩
        obtain ⟨g', off', hA', _, p0, p1, p2, p3, p4, _⟩ := Tok.get (HVt.out X hX) hil
        simp only [Option.some.injEq, Addr.mk.injEq, and_true] at hA'
        obtain ⟨rfl, rfl⟩ := hA'
        exact ⟨p0, p1, p2, p3, p4⟩
    have hji : (j : Int) < (n : Int) + 1 := by omega
    have hj0 : (0 : Int) ≤ (j : Int) := by omega
    have hj8 : (j : Int) ≤ 8192 := by omega
    have HNb : Hid (¬ (Own3 bm sv1 ov1 b7 ∨ W7.heap.size ≤ b7)) := fun ho => by
      rcases ho with h | h
      · have := hM.lt _ h; omega
      · have := hB7.lt; omega
    have HLb : Hid (b7 < W7.heap.size) := hB7.lt
    have HGc : Hid (∀ o : Option Nat, o = some g → (∀ i, o = some i → W.heap.size ≤ i) → False) := fun o h1 h2 => by have h3 := h2 g h1; have h4 := HF.out g hgF; omega
    clear hM hk hn hO0 hvx hto hcol hat hphi hk7 hB7 hO1 hsz7 hszx hlm hW7 hb7 hA2 ht hpq hm1 hgF
    go_upto_region 8 with (fail)
    rw [HW7.out, HBn7.out]
    clear d0 d1 d2 d3 d4
    obtain ⟨fb, hfb⟩ : ∃ fb : Bool, firstP pq t = fb := ⟨_, rfl⟩
    obtain ⟨ob, hob⟩ : ∃ ob : Bool, openedP pq = ob := ⟨_, rfl⟩
    have HFb := Lib.hid hfb
    have HOb := Lib.hid hob
    clear hfb hob
    go_cut [8] from 24 to 36 (fun v8 wd => v8 = .bool fb ∧ Keeps (fun _ => False) W7 wd)
    case first =>
      have hb := HBox.out W7 (Keeps.refl _ _)
      have y3 := hb.cell (i := 3) rfl
      clear hb
      rcases hprev.out with ⟨hz, hp⟩ | ⟨i, q, hz, hp, hq, hcs⟩
      · subst hz
        have hv : fb = true := by have h := HFb.out; rw [hp] at h; exact h.symm
        have HV8 := Lib.hid hv
        clear hv hp
        go_region
        go_wp2_with fail
        go_meet
        exact ⟨by rw [HV8.out], (by repeat (first | (with_reducible assumption) | (with_reducible exact Keeps.refl _ _) | (with_reducible refine Keeps.drewN ?_ _) | (with_reducible refine Keeps.drew ?_) | with_reducible refine Keeps.setCell ?_ (by first | (intro _; exact rfl) | (intro _; exact Or.inl rfl) | (intro _; exact Or.inr rfl) | (simp; done) | (simp; omega)) _ | (with_reducible refine Keeps.alloc ?_ _)))⟩
      · subst hz
        obtain ⟨_, _, _, p3, _⟩ := hcs W7 (Keeps.refl _ _)
        have hv : fb = decide (q.line < t.line) := by have h := HFb.out; rw [hp] at h; exact h.symm
        have HV8 := Lib.hid hv
        have hw1 : (IntKind.i64.wrap ((i : Int) + 1 - 1)) = (i : Int) := by rw [IntKind.wrap_i64]; omega
        have hw2 : (IntKind.i64.wrap (i : Int)) = (i : Int) := by rw [IntKind.wrap_i64]; omega
        have hi0 : (0 : Int) ≤ (i : Int) := by omega
        have hi1 : ((i : Int) + 1 == 0) = false := by rw [beq_eq_false_iff_ne]; omega
        have hi2 : (i : Int) < (n : Int) + 1 := by omega
        clear hv hp hcs
        by_cases h1 : q.line < t.line
        · have hb1 := decide_eq_true h1
          have HB1 := Lib.hid hb1
          go_region
          go_wp2_with fail
          go_meet
          exact ⟨by rw [HV8.out, HB1.out], (by repeat (first | (with_reducible assumption) | (with_reducible exact Keeps.refl _ _) | (with_reducible refine Keeps.drewN ?_ _) | (with_reducible refine Keeps.drew ?_) | with_reducible refine Keeps.setCell ?_ (by first | (intro _; exact rfl) | (intro _; exact Or.inl rfl) | (intro _; exact Or.inr rfl) | (simp; done) | (simp; omega)) _ | (with_reducible refine Keeps.alloc ?_ _)))⟩
        · have hb1 := decide_eq_false h1
          have HB1 := Lib.hid hb1
          go_region
          go_wp2_with fail
          go_meet
          exact ⟨by rw [HV8.out, HB1.out], (by repeat (first | (with_reducible assumption) | (with_reducible exact Keeps.refl _ _) | (with_reducible refine Keeps.drewN ?_ _) | (with_reducible refine Keeps.drew ?_) | with_reducible refine Keeps.setCell ?_ (by first | (intro _; exact rfl) | (intro _; exact Or.inl rfl) | (intro _; exact Or.inr rfl) | (simp; done) | (simp; omega)) _ | (with_reducible refine Keeps.alloc ?_ _)))⟩
    case rest =>
      obtain ⟨rfl, hk8⟩ := hcut
      obtain ⟨w8, hw8⟩ : ∃ w8, w8 = wc := ⟨_, rfl⟩
      rw [← hw8] at hk8 ⊢
      clear hw8
      have HK8 := Lib.hid hk8
      clear hk8
      go_upto_region 9 with (fail)
      go_cut [9] from 37 to 46 (fun v9 wd => v9 = .bool ob ∧ Keeps (fun _ => False) W7 wd)
      case first =>
        rcases hprev.out with ⟨hz, hp⟩ | ⟨i, q, hz, hp, hq, hcs⟩
        · subst hz
          have hv : ob = false := by have h := HOb.out; rw [hp] at h; exact h.symm
          have HV8 := Lib.hid hv
          clear hv hp
          go_wp2_with fail
          go_meet
          exact ⟨by rw [HV8.out], HK8.out⟩
        · subst hz
          obtain ⟨p0, p1, p2, p3, p4⟩ := hcs w8 (HK8.out.mono (fun _ _ h => h.elim))
          have hv : ob = opensP q := by have h := HOb.out; rw [hp] at h; exact h.symm
          have HV8 := Lib.hid hv
          have hi0 : (0 : Int) ≤ (i : Int) := by omega
          have hi1 : (0 : Int) < (i : Int) + 1 := by omega
          have hi2 : (i : Int) < (n : Int) + 1 := by omega
          have HOp := Lib.hid (opens_any q w8)
          rw [← hv] at HOp
          clear hv hp hcs
          go_wp2_with fail
          with_reducible refine HOp.out.mono ?_
          rintro e w9 ⟨rfl, hk9⟩
          have HK9 := Lib.hid (HK8.out.trans hk9 (fun _ _ h => h))
          clear hk9 p0 p1 p2 p3 p4
          go_wp2_with fail
          go_meet
          exact ⟨rfl, HK9.out⟩
      case rest =>
        obtain ⟨rfl, hk9⟩ := hcut
        obtain ⟨w9, hw9⟩ : ∃ w9, w9 = wc := ⟨_, rfl⟩
        rw [← hw9] at hk9 ⊢
        clear hw9 HK8
        have HK9 := Lib.hid hk9
        have HT9 := Lib.hid (MkTo.same HM7.out hk9)
        clear hk9
        have hbe := blockP_eq pq t m1
        rw [HFb.out, HOb.out] at hbe
        obtain ⟨br, hbr⟩ : ∃ br, blockP pq t m1 = br := ⟨_, rfl⟩
        rw [hbr] at hbe
        have HBe := Lib.hid hbe
        have HBr := Lib.hid hbr
        clear hbe hbr
        go_upto_block 2 with fail
        go_cut [8] from 47 to 90 (fun v8 wd => v8 = .bool br.2 ∧ MkTo W.heap.size bm sv1 ov1 W7 br.1 wd)
        case first =>
          cases ob
          · have hv := HBe.out
            rw [if_pos rfl] at hv
            have HV8 := Lib.hid hv
            clear hv
            go_wp2_with fail
            go_meet
            exact ⟨by rw [HV8.out], by rw [HV8.out]; exact HT9.out⟩
          · have hbe := HBe.out
            rw [if_neg (by decide)] at hbe
            obtain ⟨q5, hq5⟩ : ∃ q, isP t 5 sOpB = q := ⟨_, rfl⟩
            have HI5 : Hid (Calls Tryz.prog 39 #[.agg #[.int .i64 t.kind, .string t.text, .int .i64 t.n, .int .i64 t.line, .int .i64 t.col], .int .i64 5, .string ⟨#[123]⟩] w9 (fun e w' => e = .returned (.bool q5) ∧ Keeps (fun _ => False) w9 w')) := by rw [← hq5]; exact is_any t 5 sOpB w9
            rw [hq5] at hbe
            have HBe2 := Lib.hid hbe
            have hb := HBox.out w9 (HK9.out.mono (fun _ _ h => h.elim))
            have x0 := hb.cell (i := 0) rfl
            have x1 := hb.cell (i := 1) rfl
            have x2 := hb.cell (i := 2) rfl
            have x3 := hb.cell (i := 3) rfl
            have x4 := hb.cell (i := 4) rfl
            clear hbe hq5 hb HBe
            go_wp2_with fail
            with_reducible refine HI5.out.mono ?_
            rintro e w10 ⟨rfl, hk10⟩
            have HK10 := Lib.hid (HK9.out.trans hk10 (fun _ _ h => h))
            have hb := HBox.out w10 (HK10.out.mono (fun _ _ h => h.elim))
            clear hk10 x0 x1 x2 x3 x4
            have HT10 := Lib.hid (MkTo.same HM7.out HK10.out)
            cases q5
            · have hbe := HBe2.out
              rw [if_neg (by decide)] at hbe
              obtain ⟨dq, hdq⟩ : ∃ dq : Bool, decide (t.kind ≠ 9 ∧ enclP m1.st < t.col) = dq := ⟨_, rfl⟩
              have hbe2 : br = if dq = true then ((m1.put 6 t).push ⟨t.col, opText pq⟩, false) else ((m1.put 6 t).put 7 t, fb) := by
                rw [hbe, ← hdq]
                by_cases h : t.kind ≠ 9 ∧ enclP m1.st < t.col
                · rw [if_pos h, if_pos (by simpa using h)]
                · rw [if_neg h, if_neg (by simpa using h)]
              have HBe3 := Lib.hid hbe2
              have HDq := Lib.hid hdq
              have y0 := hb.cell (i := 0) rfl
              have y4 := hb.cell (i := 4) rfl
              have hQ15 : Hid (∀ X, Keeps (fun _ => False) w10 X → (X.cell? ⟨b7, 0, none⟩ = some (.int .i64 t.kind) ∧ X.cell? ⟨b7, 4, none⟩ = some (.int .i64 t.col))) := fun X hX => ⟨hX.cell y0 (fun h => h), hX.cell y4 (fun h => h)⟩
              obtain ⟨ec, hec⟩ : ∃ ec, enclP m1.st = ec := ⟨_, rfl⟩
              have HEn : Hid (∀ X, Keeps (fun _ => False) w10 X → Calls Tryz.prog 40 #[.pointer (some ⟨bm, 0, none⟩)] X (fun e w' => e = .returned (.int .i64 ec) ∧ Keeps (fun _ => False) X w')) := fun X hX => by rw [← hec]; exact encl_any X W.heap.size bm sv1 ov1 m1 (HM7.out.same (HK10.out.trans hX (fun _ _ h => h)))
              have HEc := Lib.hid hec
              clear hbe hbe2 hdq HBe2 hec y0 y4 hb
              go_upto_region 15 with (fail)
              go_cut [59] from 60 to 69 (fun v59 wd => v59 = .bool dq ∧ Keeps (fun _ => False) w10 wd)
              case first =>
                by_cases hk9 : t.kind = 9
                · have hkb : (t.kind != 9) = false := by simpa using hk9
                  have HV8 : Hid (dq = false) := by
                    show dq = false
                    rw [← HDq.out]
                    simp [hk9]
                  clear hk9
                  obtain ⟨y0, y4⟩ := hQ15.out w10 (Keeps.refl _ _)
                  go_region
                  go_wp2_with fail
                  go_meet
                  exact ⟨by rw [HV8.out], (by repeat (first | (with_reducible assumption) | (with_reducible exact Keeps.refl _ _) | (with_reducible refine Keeps.drewN ?_ _) | (with_reducible refine Keeps.drew ?_) | with_reducible refine Keeps.setCell ?_ (by first | (intro _; exact rfl) | (intro _; exact Or.inl rfl) | (intro _; exact Or.inr rfl) | (simp; done) | (simp; omega)) _ | (with_reducible refine Keeps.alloc ?_ _)))⟩
                · have hkb : (t.kind != 9) = true := by simpa using hk9
                  have HV8 : Hid (dq = decide (ec < t.col)) := by
                    show dq = _
                    rw [← HDq.out, HEc.out]
                    simp [hk9]
                  clear hk9
                  obtain ⟨y0, y4⟩ := hQ15.out w10 (Keeps.refl _ _)
                  go_region_with ((go_at_call 40; with_reducible refine (HEn.out _ (by repeat (first | (with_reducible assumption) | (with_reducible exact Keeps.refl _ _) | (with_reducible refine Keeps.drewN ?_ _) | (with_reducible refine Keeps.drew ?_) | with_reducible refine Keeps.setCell ?_ (by first | (intro _; exact rfl) | (intro _; exact Or.inl rfl) | (intro _; exact Or.inr rfl) | (simp; done) | (simp; omega)) _ | (with_reducible refine Keeps.alloc ?_ _)))).mono ?_; rintro e w11 ⟨rfl, hk11⟩; have hkQ := Keeps.trans (show Keeps (fun _ => False) w10 _ from (by repeat (first | (with_reducible assumption) | (with_reducible exact Keeps.refl _ _) | (with_reducible refine Keeps.drewN ?_ _) | (with_reducible refine Keeps.drew ?_) | with_reducible refine Keeps.setCell ?_ (by first | (intro _; exact rfl) | (intro _; exact Or.inl rfl) | (intro _; exact Or.inr rfl) | (simp; done) | (simp; omega)) _ | (with_reducible refine Keeps.alloc ?_ _)))) hk11 (fun _ _ h => h); have y4' := hkQ.cell y4 (fun h => h)))
                  all_goals
                    go_wp2_with fail
                    go_meet
                    exact ⟨by rw [HV8.out], hkQ⟩
              case rest =>
                obtain ⟨rfl, hk11⟩ := hcut
                obtain ⟨w11, hw11⟩ : ∃ w11, w11 = wc := ⟨_, rfl⟩
                rw [← hw11] at hk11 ⊢
                clear hw11 HEn hQ15
                have HK11 := Lib.hid (HK10.out.trans hk11 (fun _ _ h => h))
                clear hk11
                have hb := HBox.out w11 (HK11.out.mono (fun _ _ h => h.elim))
                have x0 := hb.cell (i := 0) rfl
                have x1 := hb.cell (i := 1) rfl
                have x2 := hb.cell (i := 2) rfl
                have x3 := hb.cell (i := 3) rfl
                have x4 := hb.cell (i := 4) rfl
                have HPut := Lib.hid (lput_any w11 W.heap.size bm sv1 ov1 m1 (HM7.out.same HK11.out) (by have := HK11.out.size; have := HB7.out; omega) 6 t (by decide) HTo.out (by have h1 : m1.out.length + m1.st.length ≤ 41000 := HPh.out; omega))
                clear hb
                cases dq
                · have hbe := HBe3.out
                  rw [if_neg (by decide)] at hbe
                  have HV8 := Lib.hid hbe
                  clear hbe HBe3
                  go_wp2_with fail
                  clear x0 x1 x2 x3 x4
                  with_reducible refine HPut.out.mono ?_
                  rintro e w12 ⟨rfl, hto⟩
                  have HT12 := Lib.hid (MkTo.trans (HK11.out.mono (fun _ _ h => h.elim)) (fun i hi => .inl hi) hto)
                  obtain ⟨sv2, ov2, hM2, hk2, hn2⟩ := HT12.out
                  have hb := HBox.out w12 hk2
                  have x0 := hb.cell (i := 0) rfl
                  have x1 := hb.cell (i := 1) rfl
                  have x2 := hb.cell (i := 2) rfl
                  have x3 := hb.cell (i := 3) rfl
                  have x4 := hb.cell (i := 4) rfl
                  have HPut2 := Lib.hid (lput_any w12 W.heap.size bm sv2 ov2 (m1.put 6 t) hM2 (by have := hk2.size; have := HB7.out; omega) 7 t (by decide) HTo.out (by
                    have h1 : m1.out.length + m1.st.length ≤ 41000 := HPh.out
                    show (m1.out ++ [tokAt 6 t]).length ≤ _
                    rw [List.length_append]
                    simp only [List.length_cons, List.length_nil]
                    omega))
                  have HK12 := Lib.hid hk2
                  have HN12 := Lib.hid hn2
                  clear hb hto hM2 hk2 hn2 HPut
                  go_wp2_with fail
                  clear x0 x1 x2 x3 x4
                  with_reducible refine HPut2.out.mono ?_
                  rintro e w13 ⟨rfl, hto⟩
                  have HT13 := Lib.hid (MkTo.trans HK12.out HN12.out hto)
                  clear hto
                  go_wp2_with fail
                  go_meet
                  exact ⟨by rw [HV8.out], by rw [HV8.out]; exact HT13.out⟩
                · have hbe := HBe3.out
                  rw [if_pos rfl] at hbe
                  have HV8 := Lib.hid hbe
                  clear hbe HBe3
                  go_wp2_with fail
                  clear x0 x1 x2 x3 x4
                  with_reducible refine HPut.out.mono ?_
                  rintro e w12 ⟨rfl, hto⟩
                  obtain ⟨sv2, ov2, hM2, hk2, hn2⟩ := MkTo.trans (HK11.out.mono (fun _ _ h => h.elim)) (fun i hi => .inl hi) hto
                  clear hto HPut
                  rcases hprev.out with ⟨hz, hp⟩ | ⟨i, q, hz, hp, hq, hcs⟩
                  · have h := HOb.out
                    rw [hp] at h
                    cases h
                  subst hz
                  obtain ⟨_, p1, _, _, _⟩ := hcs w12 hk2
                  have hb := HBox.out w12 hk2
                  have hcx : CtxOk ⟨t.col, q.text⟩ := ⟨HTo.out.2.2.2.2, hq.2.1⟩
                  have hsz2 := hk2.size
                  have HPush : Hid (∀ (w2 : World) (g1 cap1 : Nat), Keeps (fun k => sv2.ownBlock = some k) w12 w2 → w2.ownsRow W.heap.size 96 2 (.slice (some ⟨g1, 0, none⟩) (m1.st.length + 1) cap1) (m1.st.length + 1) (m1.st.flatMap Ctx.cells ++ [.int .i64 t.col, .string q.text]) → (sv2.ownBlock = some g1 ∨ w12.heap.size ≤ g1) → MkTo W.heap.size bm sv1 ov1 W7 br.1 (w2.setCell ⟨bm, 0, none⟩ (.slice (some ⟨g1, 0, none⟩) (m1.st.length + 1) cap1))) := fun w2 g1 cap1 r1 r2 r3 => by
                    have h1 := MkTo.trans hk2 hn2 (hM2.pushed hcx r1 r2 r3)
                    rw [HV8.out]
                    show MkTo _ _ _ _ _ ((m1.put 6 t).push ⟨t.col, opText pq⟩) _
                    rw [hp]
                    exact h1
                  have hown := hM2.stk
                  have hmst : (m1.put 6 t).st = m1.st := rfl
                  rw [hmst] at hown
                  have HMq : Hid (m1.st.length + 1 ≤ maxLen) := by have h1 : m1.out.length + m1.st.length ≤ 41000 := HPh.out; show _ ≤ _; unfold maxLen; omega
                  have HBq : Hid ((m1.st.length + 1) * 24 ≤ 140737488355328) := by have h1 : m1.out.length + m1.st.length ≤ 41000 := HPh.out; show _ ≤ _; omega
                  have HBZ : Hid (W.heap.size ≤ w12.heap.size) := by have := HB7.out; show _ ≤ _; omega
                  have HNS := Lib.hid hM2.nS
                  have HBx := Lib.hid hM2.box
                  have HOwn := Lib.hid hown
                  have hQ : Hid (∀ X, Keeps (fun _ => False) w12 X → (X.cell? ⟨bm, 0, none⟩ = some sv2 ∧ X.cell? ⟨b7, 4, none⟩ = some (.int .i64 t.col) ∧ X.cell? ⟨g, off + i * 5 + 1, none⟩ = some (.string q.text))) := fun X hX => by
                    have hx := hM2.box.keeps hX (fun h => h)
                    have hy := hb.keeps hX (fun h => h)
                    exact ⟨hx.cell (i := 0) rfl, hy.cell (i := 4) rfl, hX.cell p1 (fun h => h)⟩
                  have hQ2 : Hid (∀ X, Keeps (fun k => sv2.ownBlock = some k) w12 X → (X.cell? ⟨bm, 0, none⟩ = some sv2 ∧ X.cell? ⟨b7, 4, none⟩ = some (.int .i64 t.col) ∧ X.cell? ⟨g, off + i * 5 + 1, none⟩ = some (.string q.text))) := fun X hX => by
                    have hx := hM2.box.keeps hX hM2.nS
                    have hy := hb.keeps hX (fun e => own_ne_blk hM2.stk hb (by decide) e)
                    refine ⟨hx.cell (i := 0) rfl, hy.cell (i := 4) rfl, ?_⟩
                    exact hX.cell p1 (fun e => HGc.out sv2.ownBlock e (fun i hi => (hM2.stk.lt i hi).1))
                  have hw1 : (IntKind.i64.wrap ((i : Int) + 1 - 1)) = (i : Int) := by rw [IntKind.wrap_i64]; omega
                  have hw2 : (IntKind.i64.wrap (i : Int)) = (i : Int) := by rw [IntKind.wrap_i64]; omega
                  have hi0 : (0 : Int) ≤ (i : Int) := by omega
                  have hi2 : (i : Int) < (n : Int) + 1 := by omega
                  clear hb hown hmst hM2 hk2 hn2 hcs hp hq hcx hsz2 p1
                  go_upto_region 17 with (fail)
                  refine wp_region_noPanic ?_
                  refine wp_region_till [18] (fun X => X.cell? ⟨bm, 0, none⟩ = some sv2 ∧ X.cell? ⟨b7, 4, none⟩ = some (.int .i64 t.col) ∧ X.cell? ⟨g, off + i * 5 + 1, none⟩ = some (.string q.text)) (by kernel_rfl) ?_ (fun hE => ?_)
                  · first | exact hQ2.out _ hk1 | exact hQ.out _ (by repeat (first | (with_reducible exact Keeps.refl _ _) | (with_reducible refine Keeps.drew ?_) | (with_reducible refine Keeps.drewN ?_ _) | (with_reducible refine Keeps.alloc ?_ _) | (with_reducible refine Keeps.trans ?_ (by assumption) (fun _ _ h => h))))
                  have hS := hE (by kernel_rfl)
                  refine wpAnyT_pure (i := 0) (v := ?v17_0_1) rfl (by kernel_rfl) (fun _ _ _ h => h) (Or.inl ⟨by rfl, ?y17_0_1⟩) (fun _ => hS) ?_
                  case y17_0_1 => (intro w hSw; go_simp; try with_reducible rfl)
                  try simp only [AP]
                  refine wpAnyT_pure (i := 1) (v := ?v17_1_2) rfl (by kernel_rfl) (fun _ _ _ h => h) (Or.inl ⟨by rfl, ?y17_1_2⟩) (fun _ => hS) ?_
                  case y17_1_2 => (intro w hSw; go_simp; try with_reducible rfl)
                  try simp only [AP]
                  refine wpAnyT_pure (i := 2) (v := ?v17_2_3) rfl (by kernel_rfl) (fun _ _ _ h => h) (Or.inl ⟨by rfl, ?y17_2_3⟩) (fun _ => hS) ?_
                  case y17_2_3 => (intro w hSw; go_simp; try with_reducible rfl)
                  try simp only [AP]
                  refine wpAnyT_pure (i := 3) (v := ?v17_3_4) rfl (by kernel_rfl) (fun _ _ _ h => h) (Or.inl ⟨by rfl, ?y17_3_4⟩) (fun _ => hS) ?_
                  case y17_3_4 => (intro w hSw; go_simp; try with_reducible rfl)
                  try simp only [AP]
                  refine wpAnyT_take (i := 4) (v := ?v17_4_5) rfl (by kernel_rfl) (fun _ _ _ h => h) (Or.inl ⟨by rfl, ?y17_4_5⟩) hS ?_
                  case y17_4_5 => (intro w hSw; (try dsimp only at hSw); go_simp; try with_reducible rfl)
                  try simp only [AP]
                  refine wpAnyT_pure (i := 5) (v := ?v17_5_6) rfl (by kernel_rfl) (fun _ _ _ h => h) (Or.inl ⟨by rfl, ?y17_5_6⟩) (fun _ => hS) ?_
                  case y17_5_6 => (intro w hSw; go_simp; try with_reducible rfl)
                  try simp only [AP]
                  refine wpAnyT_take (i := 6) (v := ?v17_6_7) rfl (by kernel_rfl) (fun _ _ _ h => h) (Or.inl ⟨by rfl, ?y17_6_7⟩) hS ?_
                  case y17_6_7 => (intro w hSw; (try dsimp only at hSw); go_simp; try with_reducible rfl)
                  try simp only [AP]
                  refine wpAnyT_pure (i := 7) (v := ?v17_7_8) rfl (by kernel_rfl) (fun _ _ _ h => h) (Or.inl ⟨by rfl, ?y17_7_8⟩) (fun _ => hS) ?_
                  case y17_7_8 => (intro w hSw; go_simp; try with_reducible rfl)
                  try simp only [AP]
                  refine wpAnyT_pure (i := 8) (v := ?v17_8_9) rfl (by kernel_rfl) (fun _ _ _ h => h) (Or.inl ⟨by rfl, ?y17_8_9⟩) (fun _ => hS) ?_
                  case y17_8_9 => (intro w hSw; go_simp; try with_reducible rfl)
                  try simp only [AP]
                  refine wpAnyT_pure (i := 9) (v := ?v17_9_10) rfl (by kernel_rfl) (fun _ _ _ h => h) (Or.inl ⟨by rfl, ?y17_9_10⟩) (fun _ => hS) ?_
                  case y17_9_10 => (intro w hSw; go_simp; try with_reducible rfl)
                  try simp only [AP]
                  refine wpAnyT_pure (i := 10) (v := ?v17_10_11) rfl (by kernel_rfl) (fun _ _ _ h => h) (Or.inl ⟨by rfl, ?y17_10_11⟩) (fun _ => hS) ?_
                  case y17_10_11 => (intro w hSw; go_simp; try with_reducible rfl)
                  try simp only [AP]
                  refine wpAnyT_pure (i := 11) (v := ?v17_11_12) rfl (by kernel_rfl) (fun _ _ _ h => h) (Or.inl ⟨by rfl, ?y17_11_12⟩) (fun _ => hS) ?_
                  case y17_11_12 => (intro w hSw; go_simp; try with_reducible rfl)
                  try simp only [AP]
                  refine wpAnyT_take (i := 12) (v := ?v17_12_13) rfl (by kernel_rfl) (fun _ _ _ h => h) (Or.inl ⟨by rfl, ?y17_12_13⟩) hS ?_
                  case y17_12_13 => (intro w hSw; (try dsimp only at hSw); go_simp; try with_reducible rfl)
                  try simp only [AP]
                  refine wpAnyT_pure (i := 13) (v := ?v17_13_14) rfl (by kernel_rfl) (fun _ _ _ h => h) (Or.inl ⟨by rfl, ?y17_13_14⟩) (fun _ => hS) ?_
                  case y17_13_14 => (intro w hSw; go_simp; try with_reducible rfl)
                  try simp only [AP]
                  refine wpAnyT_ready (rs := [14]) (by kernel_rfl) rfl ?_
                  refine AllT.cons rfl (fun K hK => ?_) ?_
                  · go_simp
                    refine hK.out _ _ (fun _ => ?_) (fun hE => ?_)
                    · first | exact hQ2.out _ hk1 | exact hQ.out _ (by repeat (first | (with_reducible exact Keeps.refl _ _) | (with_reducible refine Keeps.drew ?_) | (with_reducible refine Keeps.drewN ?_ _) | (with_reducible refine Keeps.alloc ?_ _) | (with_reducible refine Keeps.trans ?_ (by assumption) (fun _ _ h => h))))
                    have hS := hE (by kernel_rfl)
                    clear hK K hE
                    try simp only [AP]
                    refine wpAnyT_ready (rs := [15]) (by kernel_rfl) rfl ?_
                    refine AllT.cons rfl (fun K hK => ?_) ?_
                    · (refine step_append_kept2 (W0 := w12) rfl (.tmp 77) (.tmp 87) 88 rfl W.heap.size 96 ic _ 2 24 Tryz.underlying88 hic hcz0 hcz1 hcz2 rfl (by decide) sv2 m1.st.length (m1.st.flatMap Ctx.cells) rfl HOwn.out (by repeat (first | (with_reducible exact Keeps.refl _ _) | (with_reducible refine Keeps.drew ?_) | (with_reducible refine Keeps.drewN ?_ _) | (with_reducible refine Keeps.alloc ?_ _) | (with_reducible refine Keeps.trans ?_ (by assumption) (fun _ _ h => h)))) _ _ #[.int .i64 t.col, .string q.text] rfl rfl (by exact heap_new_at (by simp)) (by simp [Value.oneCell']) HMq.out HBq.out HBZ.out ?_; intro g1 cap1 w2 hown1 hk1 hkp1 hat1; have hb2 := HBx.out.keeps hk1 HNS.out)
                      refine hK.out _ _ (fun _ => ?_) (fun hE => ?_)
                      · first | exact hQ2.out _ hk1 | exact hQ.out _ (by repeat (first | (with_reducible exact Keeps.refl _ _) | (with_reducible refine Keeps.drew ?_) | (with_reducible refine Keeps.drewN ?_ _) | (with_reducible refine Keeps.alloc ?_ _) | (with_reducible refine Keeps.trans ?_ (by assumption) (fun _ _ h => h))))
                      have hS := hE (by kernel_rfl)
                      clear hK K hE
                      try simp only [AP]
                      refine wpAnyT_pure (i := 16) (v := ?v17_16_15) rfl (by kernel_rfl) (fun _ _ _ h => h) (Or.inl ⟨by rfl, ?y17_16_15⟩) (fun _ => hS) ?_
                      case y17_16_15 => (intro w hSw; go_simp; try with_reducible rfl)
                      try simp only [AP]
                      refine wpAnyT_pure (i := 17) (v := ?v17_17_16) rfl (by kernel_rfl) (fun _ _ _ h => h) (Or.inl ⟨by rfl, ?y17_17_16⟩) (fun _ => hS) ?_
                      case y17_17_16 => (intro w hSw; go_simp; try with_reducible rfl)
                      try simp only [AP]
                      refine wpAnyT_ready (rs := [18]) (by kernel_rfl) rfl ?_
                      refine AllT.cons rfl (fun K hK => ?_) ?_
                      · (have z1 := hb2.cell (i := 0) rfl; have zf := hb2.free 0; have zl := hb2.lt; go_simp)
                        refine hK.out _ _ (fun he => Bool.noConfusion (show false = true from he)) (fun hE => ?_)
                        clear hK K hE
                        try simp only [AP]
                        refine wpAnyT_done (by kernel_rfl) ?_ _
                        refine NoPanic.normal ?_
                        have HTo2 := Lib.hid (HPush.out _ _ _ hk1 hown1 (hat1.imp id (fun h => Nat.le_trans (Keeps.size (show Keeps (fun _ => False) w12 _ from (by repeat (first | (with_reducible exact Keeps.refl _ _) | (with_reducible refine Keeps.drew ?_) | (with_reducible refine Keeps.drewN ?_ _) | (with_reducible refine Keeps.alloc ?_ _) | (with_reducible refine Keeps.trans ?_ (by assumption) (fun _ _ h => h)))))) h)))
                        clear hown1 hk1 hkp1 hat1 hb2
                        go_wp2_with fail
                        go_meet
                        exact ⟨by rw [HV8.out], HTo2.out⟩
                      exact AllT.nil
                    exact AllT.nil
                  exact AllT.nil
            · have hbe := HBe2.out
              rw [if_pos rfl] at hbe
              have HV8 := Lib.hid hbe
              clear hbe hb
              go_wp2_with fail
              go_meet
              exact ⟨by rw [HV8.out], by rw [HV8.out]; exact HT10.out⟩
        case rest =>
          obtain ⟨rfl, hto⟩ := hcut
          obtain ⟨w13, hw13⟩ : ∃ w13, w13 = wc := ⟨_, rfl⟩
          rw [← hw13] at hto ⊢
          clear hw13
          have hphb := phi_blockP pq t m1
          have hat := HAt.out
          have hst : stepP pq t m1 = if t.kind = 9 then br.1 else if (isP t 5 sOpP || isP t 5 sOpB) = true then (Mk.mk (beforeP t (if br.2 = true then lineP t br.1 else br.1)).st ((beforeP t (if br.2 = true then lineP t br.1 else br.1)).out ++ [t])).push zCtx else Mk.mk (beforeP t (if br.2 = true then lineP t br.1 else br.1)).st ((beforeP t (if br.2 = true then lineP t br.1 else br.1)).out ++ [t]) := by
            rw [← HBr.out]; rfl
          rw [HBr.out] at hphb
          obtain ⟨mb, fq⟩ := br
          dsimp only at hphb hst hto ⊢
          rw [hst] at hat
          have hphm : phi mb ≤ 41002 := by have h1 : phi m1 ≤ 41000 := HPh.out; omega
          have HPhm := Lib.hid hphm
          obtain ⟨sv2, ov2, hM2, hk2, hn2⟩ := hto
          have hb := HBox.out w13 hk2
          have y0 := hb.cell (i := 0) rfl
          have HM2 := Lib.hid hM2
          have HK2 := Lib.hid hk2
          have HN2 := Lib.hid hn2
          have HB13 : Hid (W.heap.size ≤ w13.heap.size) := by have h1 := hk2.size; have h2 := HB7.out; show _ ≤ _; omega
          have HBox13 : Hid (∀ X, Keeps (Own3 bm sv2 ov2) w13 X → Blk X b7 59 [.int .i64 t.kind, .string t.text, .int .i64 t.n, .int .i64 t.line, .int .i64 t.col]) := fun X hX => HBox.out X (hk2.trans hX (fun i hi ho => by
            rcases hn2 i ho with h | h
            · exact h
            · omega))
          have HVt13 : Hid (∀ X, Keeps (Own3 bm sv2 ov2) w13 X → Sl X F Tok.d l (.slice (some ⟨g, off, none⟩) l.length c)) := fun X hX => HVt.out X (hk2.trans hX (fun i hi ho => by
            rcases hn2 i ho with h | h
            · exact h
            · omega))
          have HRel13 : Hid (∀ m' w', MkTo W.heap.size bm sv2 ov2 w13 m' w' → MkTo W.heap.size bm (.slice none 0 0) (.slice none 0 0) Wm m' w') := fun m' w' h => HRel.out m' w' (MkTo.trans hk2 hn2 h)
          clear hM2 hk2 hn2 hphb hst hphm hb HT9 HK9 HBe HBr HM7 HRel HBox HVt
          by_cases h9 : t.kind = 9
          · have hkb : (t.kind == 9) = true := by simpa using h9
            rw [if_pos h9] at hat
            have hjn : j = n := by
              rcases Nat.lt_or_ge j n with h | h
              · exact absurd (by rw [HTe.out]; exact h9) (HG9.out j hjl h)
              · omega
            subst hjn
            have hte : t = e0 := HTe.out.symm.trans (HGe.out hjl)
            have hgo : goM none l ⟨[], []⟩ = mb := by rw [← atM_all, HLn.out]; exact hat
            have HTe0 := Lib.hid hte
            have HGo := Lib.hid hgo
            clear hat hte hgo h9
            obtain ⟨R, hR⟩ : ∃ R, endL t mb.st.length mb = R := ⟨_, rfl⟩
            have HR := Lib.hid hR
            clear hR
            go_wp2_with fail
            clear y0
            go_loopg [] mb.st.length (fun gk wr => ∃ m', MkTo W.heap.size bm sv2 ov2 w13 m' wr ∧ m'.st.length ≤ gk ∧ Hid (endL t m'.st.length m' = R) ∧ Hid (phi m' ≤ 41002))
            case atStart => exact ⟨mb, MkTo.same HM2.out (Keeps.refl _ _), Nat.le_refl _, HR.out, HPhm.out⟩
            case round =>
              obtain ⟨m', ⟨sv3, ov3, hM, hk, hn⟩, hlen, hRes, hphi⟩ := hrel
              obtain ⟨w14, hw14⟩ : ∃ w14, w14 = wr := ⟨_, rfl⟩
              rw [← hw14] at hM hk ⊢
              clear hw14
              have HM := Lib.hid hM
              have HKw := Lib.hid hk
              have HN := Lib.hid hn
              have hB14 : Hid (W.heap.size ≤ w14.heap.size) := by have h1 := hk.size; have h2 := HB13.out; show _ ≤ _; omega
              have c0 := hM.box.cell (i := 0) rfl
              have hlb := hM.box.lt
              by_cases hl : 0 < m'.st.length
              · have hli : (0 : Int) < (m'.st.length : Int) := by omega
                have hne : m'.st ≠ [] := fun e => by rw [e] at hl; cases hl
                obtain ⟨k, hkl⟩ : ∃ k, m'.st.length = k + 1 := ⟨m'.st.length - 1, by omega⟩
                obtain ⟨A3, q3, _, _, hsv3, -⟩ := hM.form
                rw [hsv3] at c0
                have hend : endL t k (if 0 < (topP m'.st).col then m'.close t else m'.pop) = R := by
                  have h1 := hRes.out
                  rw [hkl, endL] at h1
                  exact h1
                have hpl : ∀ x, (x = m'.close t ∨ x = m'.pop) → x.st.length = k ∧ phi x ≤ 41002 := fun x hx => by
                  have h1 : m'.st.dropLast.length = k := by rw [List.length_dropLast]; omega
                  have h2 := hphi.out
                  rcases hx with rfl | rfl
                  · exact ⟨h1, by rw [phi_close t hne]; exact h2⟩
                  · exact ⟨h1, by have := phi_pop m'; omega⟩
                obtain ⟨cx, hcx⟩ : ∃ cx, topP m'.st = cx := ⟨_, rfl⟩
                have HTop : Hid (∀ X, Keeps (fun _ => False) w14 X → Calls Tryz.prog 44 #[.pointer (some ⟨bm, 0, none⟩)] X (fun e w' => e = .returned (.agg #[.int .i64 cx.col, .string cx.op]) ∧ Keeps (fun _ => False) X w')) := fun X hX => by rw [← hcx]; exact top_any X W.heap.size bm sv3 ov3 m' (hM.same hX)
                rw [hcx] at hend
                have hf0 := fld0 cx.col cx.op
                have HEnd := Lib.hid hend
                have HPl := Lib.hid hpl
                have HNe := Lib.hid hne
                have hgk : k + 1 ≤ gk := by omega
                clear hend hpl hne hcx hM hk hn hRes hlen hl hkl hsv3
                go_wp2_with fail
                with_reducible refine (HTop.out _ (by repeat (first | (with_reducible exact Keeps.refl _ _) | (with_reducible refine Keeps.drew ?_)))).mono ?_
                rintro e w15 ⟨rfl, hk15⟩
                have HK15 := Lib.hid hk15
                clear c0 hlb
                by_cases hcol : 0 < cx.col
                · have HCol2 := Lib.hid hcol
                  obtain ⟨g', off', hA', _, d0, d1, d2, d3, d4, _⟩ := Tok.get (HVt13.out w15 (HKw.out.trans hk15 (fun _ _ h => h.elim))) hjl
                  simp only [Option.some.injEq, Addr.mk.injEq, and_true] at hA'
                  obtain ⟨rfl, rfl⟩ := hA'
                  rw [HTe.out] at d0 d1 d2 d3 d4
                  have HPut := Lib.hid (lput_any w15 W.heap.size bm sv3 ov3 m' (HM.out.same hk15) (by have := hk15.size; have := hB14.out; omega) 7 t (by decide) HTo.out (by have h1 : m'.out.length + m'.st.length ≤ 41002 := hphi.out; omega))
                  clear hk15 HTop
                  go_wp2_with fail
                  clear d0 d1 d2 d3 d4
                  with_reducible refine HPut.out.mono ?_
                  rintro e w16 ⟨rfl, hto⟩
                  obtain ⟨sv4, ov4, hM4, hk4, hn4⟩ := MkTo.trans (HK15.out.mono (fun _ _ h => h.elim)) (fun i hi => .inl hi) hto
                  have HPop := Lib.hid (pop_any w16 W.heap.size bm sv4 ov4 (m'.put 7 t) hM4 HNe.out)
                  have HK4 := Lib.hid hk4
                  have HN4 := Lib.hid hn4
                  clear hto hM4 hk4 hn4 HPut
                  go_wp2_with fail
                  with_reducible refine HPop.out.mono ?_
                  rintro e w17 ⟨rfl, hto⟩
                  have HTo4 := Lib.hid (MkTo.trans HKw.out HN.out (MkTo.trans HK4.out HN4.out hto))
                  clear hto
                  go_wp2_with fail
                  go_roundg (gk - 1)
                  case measure => omega
                  case rel =>
                    have h1 := HPl.out (m'.close t) (.inl rfl)
                    have h2 := HEnd.out
                    rw [if_pos HCol2.out] at h2
                    exact ⟨m'.close t, HTo4.out, by omega, by rw [h1.1]; exact h2, h1.2⟩
                · have HCol2 : Hid (¬ 0 < cx.col) := hcol
                  have HPop := Lib.hid (pop_any w15 W.heap.size bm sv3 ov3 m' (HM.out.same hk15) HNe.out)
                  clear hk15 HTop
                  go_wp2_with fail
                  with_reducible refine HPop.out.mono ?_
                  rintro e w17 ⟨rfl, hto⟩
                  have HTo4 := Lib.hid (MkTo.trans HKw.out HN.out (MkTo.trans (HK15.out.mono (fun _ _ h => h.elim)) (fun i hi => .inl hi) hto))
                  clear hto
                  go_wp2_with fail
                  go_roundg (gk - 1)
                  case measure => omega
                  case rel =>
                    have h1 := HPl.out m'.pop (.inr rfl)
                    have h2 := HEnd.out
                    rw [if_neg (by have := HCol2.out; omega)] at h2
                    exact ⟨m'.pop, HTo4.out, by omega, by rw [h1.1]; exact h2, h1.2⟩
              · have hli : ¬ (0 : Int) < (m'.st.length : Int) := by omega
                have hml : m'.st.length = 0 := by omega
                have hres : m' = R := by
                  have h1 := hRes.out
                  rw [hml, endL] at h1
                  exact h1
                subst hres
                obtain ⟨A3, q3, _, _, hsv3, -⟩ := hM.form
                rw [hsv3] at c0
                have hb := HVt13.out w14 hk
                have hpf : m'.out.length + m'.st.length ≤ 41002 := hphi.out
                have HMq : Hid (m'.out.length + 1 ≤ maxLen) := by show _ ≤ _; unfold maxLen; omega
                have HBq : Hid ((m'.out.length + 1) * 48 ≤ 140737488355328) := by show _ ≤ _; omega
                have HBZ : Hid (W.heap.size ≤ w14.heap.size) := hB14.out
                have HNO := Lib.hid hM.nO
                have HBx := Lib.hid hM.box
                have HOwn := Lib.hid hM.out
                have hOF : ∀ i, F i → ¬ ov3.ownBlock = some i := fun i hi e => by
                  have h1 := (hM.out.lt i e).1
                  have h2 := HF.out i hi
                  omega
                have HOut : Hid (∀ (w2 : World) (g1 cap1 : Nat), Keeps (fun k => ov3.ownBlock = some k) w14 w2 → w2.ownsRow W.heap.size 59 5 (.slice (some ⟨g1, 0, none⟩) (m'.out.length + 1) cap1) (m'.out.length + 1) (m'.out.flatMap Tok.cells ++ t.cells) → (ov3.ownBlock = some g1 ∨ w14.heap.size ≤ g1) → MkTo W.heap.size bm (.slice none 0 0) (.slice none 0 0) Wm ⟨m'.st, m'.out ++ [t]⟩ (w2.setCell ⟨bm, 1, none⟩ (.slice (some ⟨g1, 0, none⟩) (m'.out.length + 1) cap1))) := fun w2 g1 cap1 r1 r2 r3 => HRel13.out _ _ (MkTo.trans HKw.out HN.out (hM.outed HTo.out r1 r2 r3))
                have hQ : Hid (∀ X, Keeps (fun k => ov3.ownBlock = some k) w14 X → (X.cell? ⟨bm, 1, none⟩ = some ov3 ∧ X.cell? ⟨g, off + j * 5, none⟩ = some (.int .i64 t.kind) ∧ X.cell? ⟨g, off + j * 5 + 1, none⟩ = some (.string t.text) ∧ X.cell? ⟨g, off + j * 5 + 2, none⟩ = some (.int .i64 t.n) ∧ X.cell? ⟨g, off + j * 5 + 3, none⟩ = some (.int .i64 t.line) ∧ X.cell? ⟨g, off + j * 5 + 4, none⟩ = some (.int .i64 t.col))) := fun X hX => by
                  have hx := hM.box.keeps hX hM.nO
                  obtain ⟨g', off', hA', _, d0, d1, d2, d3, d4, _⟩ := Tok.get (hb.keeps hX hOF) hjl
                  simp only [Option.some.injEq, Addr.mk.injEq, and_true] at hA'
                  obtain ⟨rfl, rfl⟩ := hA'
                  rw [HTe.out] at d0 d1 d2 d3 d4
                  exact ⟨hx.cell (i := 1) rfl, d0, d1, d2, d3, d4⟩
                have hw1 : (IntKind.i64.wrap ((j : Int) + 1 - 1)) = (j : Int) := by rw [IntKind.wrap_i64]; omega
                have hw2 : (IntKind.i64.wrap (j : Int)) = (j : Int) := by rw [IntKind.wrap_i64]; omega
                have hR2 := HR.out
                have HEnd2 : Hid (markP l e0 = m'.out ++ [t]) := by
                  show markP l e0 = _
                  unfold markP
                  dsimp only
                  rw [HGo.out, ← HTe0.out, hR2]
                clear hM hk hn hb hpf hOF hRes hlen hml hR2 hsv3
                go_upto_region 31 with (fail)
                clear c0
                refine wp_region_noPanic ?_
                refine wp_region_till [15] (fun X => X.cell? ⟨bm, 1, none⟩ = some ov3 ∧ X.cell? ⟨g, off + j * 5, none⟩ = some (.int .i64 t.kind) ∧ X.cell? ⟨g, off + j * 5 + 1, none⟩ = some (.string t.text) ∧ X.cell? ⟨g, off + j * 5 + 2, none⟩ = some (.int .i64 t.n) ∧ X.cell? ⟨g, off + j * 5 + 3, none⟩ = some (.int .i64 t.line) ∧ X.cell? ⟨g, off + j * 5 + 4, none⟩ = some (.int .i64 t.col)) (by kernel_rfl) ?_ (fun hE => ?_)
                · first | exact hQ.out _ hk1 | exact hQ.out _ (Keeps.mono (show Keeps (fun _ => False) w14 _ from (by repeat (first | (with_reducible exact Keeps.refl _ _) | (with_reducible refine Keeps.drew ?_) | (with_reducible refine Keeps.drewN ?_ _) | (with_reducible refine Keeps.alloc ?_ _) | (with_reducible refine Keeps.trans ?_ (by assumption) (fun _ _ h => h))))) (fun _ _ h => h.elim))
                have hS := hE (by kernel_rfl)
                refine wpAnyT_pure (i := 0) (v := ?v31_0_1) rfl (by kernel_rfl) (fun _ _ _ h => h) (Or.inl ⟨by rfl, ?y31_0_1⟩) (fun _ => hS) ?_
                case y31_0_1 => (intro w hSw; go_simp; try with_reducible rfl)
                try simp only [AP]
                refine wpAnyT_pure (i := 1) (v := ?v31_1_2) rfl (by kernel_rfl) (fun _ _ _ h => h) (Or.inl ⟨by rfl, ?y31_1_2⟩) (fun _ => hS) ?_
                case y31_1_2 => (intro w hSw; go_simp; try with_reducible rfl)
                try simp only [AP]
                refine wpAnyT_pure (i := 2) (v := ?v31_2_3) rfl (by kernel_rfl) (fun _ _ _ h => h) (Or.inl ⟨by rfl, ?y31_2_3⟩) (fun _ => hS) ?_
                case y31_2_3 => (intro w hSw; go_simp; try with_reducible rfl)
                try simp only [AP]
                refine wpAnyT_pure (i := 3) (v := ?v31_3_4) rfl (by kernel_rfl) (fun _ _ _ h => h) (Or.inl ⟨by rfl, ?y31_3_4⟩) (fun _ => hS) ?_
                case y31_3_4 => (intro w hSw; go_simp; try with_reducible rfl)
                try simp only [AP]
                refine wpAnyT_take (i := 4) (v := ?v31_4_5) rfl (by kernel_rfl) (fun _ _ _ h => h) (Or.inl ⟨by rfl, ?y31_4_5⟩) hS ?_
                case y31_4_5 => (intro w hSw; (try dsimp only at hSw); go_simp; try with_reducible rfl)
                try simp only [AP]
                refine wpAnyT_pure (i := 5) (v := ?v31_5_6) rfl (by kernel_rfl) (fun _ _ _ h => h) (Or.inl ⟨by rfl, ?y31_5_6⟩) (fun _ => hS) ?_
                case y31_5_6 => (intro w hSw; go_simp; try with_reducible rfl)
                try simp only [AP]
                refine wpAnyT_pure (i := 6) (v := ?v31_6_7) rfl (by kernel_rfl) (fun _ _ _ h => h) (Or.inl ⟨by rfl, ?y31_6_7⟩) (fun _ => hS) ?_
                case y31_6_7 => (intro w hSw; go_simp; try with_reducible rfl)
                try simp only [AP]
                refine wpAnyT_pure (i := 7) (v := ?v31_7_8) rfl (by kernel_rfl) (fun _ _ _ h => h) (Or.inl ⟨by rfl, ?y31_7_8⟩) (fun _ => hS) ?_
                case y31_7_8 => (intro w hSw; go_simp; try with_reducible rfl)
                try simp only [AP]
                refine wpAnyT_pure (i := 8) (v := ?v31_8_9) rfl (by kernel_rfl) (fun _ _ _ h => h) (Or.inl ⟨by rfl, ?y31_8_9⟩) (fun _ => hS) ?_
                case y31_8_9 => (intro w hSw; go_simp; try with_reducible rfl)
                try simp only [AP]
                refine wpAnyT_pure (i := 9) (v := ?v31_9_10) rfl (by kernel_rfl) (fun _ _ _ h => h) (Or.inl ⟨by rfl, ?y31_9_10⟩) (fun _ => hS) ?_
                case y31_9_10 => (intro w hSw; go_simp; try with_reducible rfl)
                try simp only [AP]
                refine wpAnyT_take (i := 10) (v := ?v31_10_11) rfl (by kernel_rfl) (fun _ _ _ h => h) (Or.inl ⟨by rfl, ?y31_10_11⟩) hS ?_
                case y31_10_11 => (intro w hSw; (try dsimp only at hSw); go_simp; try with_reducible rfl)
                try simp only [AP]
                refine wpAnyT_ready (rs := [11]) (by kernel_rfl) rfl ?_
                refine AllT.cons rfl (fun K hK => ?_) ?_
                · go_simp
                  refine hK.out _ _ (fun _ => ?_) (fun hE => ?_)
                  · first | exact hQ.out _ hk1 | exact hQ.out _ (Keeps.mono (show Keeps (fun _ => False) w14 _ from (by repeat (first | (with_reducible exact Keeps.refl _ _) | (with_reducible refine Keeps.drew ?_) | (with_reducible refine Keeps.drewN ?_ _) | (with_reducible refine Keeps.alloc ?_ _) | (with_reducible refine Keeps.trans ?_ (by assumption) (fun _ _ h => h))))) (fun _ _ h => h.elim))
                  have hS := hE (by kernel_rfl)
                  clear hK K hE
                  try simp only [AP]
                  refine wpAnyT_ready (rs := [12]) (by kernel_rfl) rfl ?_
                  refine AllT.cons rfl (fun K hK => ?_) ?_
                  · (refine step_append_kept2 (W0 := w14) rfl (.tmp 152) (.tmp 159) 45 rfl W.heap.size 59 it _ 5 48 Tryz.underlying45 hit htz0 htz1 htz2 rfl (by decide) ov3 m'.out.length (m'.out.flatMap Tok.cells) rfl HOwn.out (by repeat (first | (with_reducible exact Keeps.refl _ _) | (with_reducible refine Keeps.drew ?_) | (with_reducible refine Keeps.drewN ?_ _) | (with_reducible refine Keeps.alloc ?_ _) | (with_reducible refine Keeps.trans ?_ (by assumption) (fun _ _ h => h)))) _ _ #[.int .i64 t.kind, .string t.text, .int .i64 t.n, .int .i64 t.line, .int .i64 t.col] rfl rfl (by exact heap_new_at (by simp)) (by simp [Value.oneCell']) HMq.out HBq.out HBZ.out ?_; intro g1 cap1 w2 hown1 hk1 hkp1 hat1; have hb2 := HBx.out.keeps hk1 HNO.out)
                    refine hK.out _ _ (fun _ => ?_) (fun hE => ?_)
                    · first | exact hQ.out _ hk1 | exact hQ.out _ (Keeps.mono (show Keeps (fun _ => False) w14 _ from (by repeat (first | (with_reducible exact Keeps.refl _ _) | (with_reducible refine Keeps.drew ?_) | (with_reducible refine Keeps.drewN ?_ _) | (with_reducible refine Keeps.alloc ?_ _) | (with_reducible refine Keeps.trans ?_ (by assumption) (fun _ _ h => h))))) (fun _ _ h => h.elim))
                    have hS := hE (by kernel_rfl)
                    clear hK K hE
                    try simp only [AP]
                    refine wpAnyT_pure (i := 13) (v := ?v31_13_12) rfl (by kernel_rfl) (fun _ _ _ h => h) (Or.inl ⟨by rfl, ?y31_13_12⟩) (fun _ => hS) ?_
                    case y31_13_12 => (intro w hSw; go_simp; try with_reducible rfl)
                    try simp only [AP]
                    refine wpAnyT_pure (i := 14) (v := ?v31_14_13) rfl (by kernel_rfl) (fun _ _ _ h => h) (Or.inl ⟨by rfl, ?y31_14_13⟩) (fun _ => hS) ?_
                    case y31_14_13 => (intro w hSw; go_simp; try with_reducible rfl)
                    try simp only [AP]
                    refine wpAnyT_ready (rs := [15]) (by kernel_rfl) rfl ?_
                    refine AllT.cons rfl (fun K hK => ?_) ?_
                    · (have z1 := hb2.cell (i := 1) rfl; have zf := hb2.free 1; have zl := hb2.lt; go_simp)
                      refine hK.out _ _ (fun he => Bool.noConfusion (show false = true from he)) (fun hE => ?_)
                      clear hK K hE
                      try simp only [AP]
                      refine wpAnyT_done (by kernel_rfl) ?_ _
                      refine NoPanic.normal ?_
                      have HTo2 := Lib.hid (HOut.out _ _ _ hk1 hown1 (hat1.imp id (fun h => Nat.le_trans (Keeps.size (show Keeps (fun _ => False) w14 _ from (by repeat (first | (with_reducible exact Keeps.refl _ _) | (with_reducible refine Keeps.drew ?_) | (with_reducible refine Keeps.drewN ?_ _) | (with_reducible refine Keeps.alloc ?_ _) | (with_reducible refine Keeps.trans ?_ (by assumption) (fun _ _ h => h)))))) h)))
                      obtain ⟨wz, hwz⟩ : ∃ wz, wz = w2.setCell ⟨bm, 1, none⟩ (.slice (some ⟨g1, 0, none⟩) (m'.out.length + 1) cap1) := ⟨_, rfl⟩
                      rw [← hwz] at HTo2 ⊢
                      clear hwz hown1 hk1 hkp1 hat1 hb2
                      obtain ⟨sv6, ov6, hM6, hk6, hn6⟩ := HTo2.out
                      have c1 := hM6.box.cell (i := 1) rfl
                      have hlb6 := hM6.box.lt
                      have HFin : Hid (MarkPost l W (.returned (.tuple #[ov6, .int .i64 0])) wz) := hpost.out _ _ (HKm.out.trans hk6 (fun i hi ho => by
                        have h2 := HB.out
                        rcases ho with h | h | h
                        · omega
                        · cases h
                        · cases h)) ⟨ov6, rfl, by rw [HEnd2.out]; exact hM6.out, fun x hx => hM6.oko x (by rw [HEnd2.out] at hx; exact hx)⟩
                      clear hM6 hk6 hn6
                      go_wp2_with fail
                      go_ret2
                      exact HFin.out
                    exact AllT.nil
                  exact AllT.nil
                exact AllT.nil
          · have hkb : (t.kind == 9) = false := by simpa using h9
            rw [if_neg h9] at hat
            have HAt2 := Lib.hid hat
            have hjn : j < n := by
              rcases Nat.lt_or_ge j n with h | h
              · exact h
              · exfalso
                have hh : j = n := by omega
                subst hh
                exact h9 (by rw [← HTe.out, HGe.out hjl]; exact HG3.out)
            clear hat h9 HAt
            go_upto_if 94 with (fail)
            clear y0
            obtain ⟨ml, hml⟩ : ∃ ml, (if fq = true then lineP t mb else mb) = ml := ⟨_, rfl⟩
            rw [hml] at HAt2
            have HMl := Lib.hid hml
            have HPl : Hid (phi ml ≤ 41003) := by
              show phi ml ≤ _
              rw [← hml]
              have h1 := HPhm.out
              split
              · have := phi_lineP t (by have := HCol.out; omega) mb; omega
              · omega
            clear hml
            go_cut [] from 94 to 97 (fun wd => MkTo W.heap.size bm sv2 ov2 w13 ml wd)
            case first =>
              have hb := HBox13.out w13 (Keeps.refl _ _)
              have x0 := hb.cell (i := 0) rfl
              have x1 := hb.cell (i := 1) rfl
              have x2 := hb.cell (i := 2) rfl
              have x3 := hb.cell (i := 3) rfl
              have x4 := hb.cell (i := 4) rfl
              have HLine := Lib.hid (line_any w13 W.heap.size bm sv2 ov2 mb HM2.out HB13.out t HTo.out HCol.out (by have := HPhm.out; omega))
              clear hb
              cases fq
              · have hm := HMl.out
                rw [if_neg (by decide)] at hm
                subst hm
                go_wp2_with fail
                go_meet
                exact MkTo.same HM2.out (Keeps.refl _ _)
              · have hm := HMl.out
                rw [if_pos rfl] at hm
                subst hm
                go_wp2_with fail
                clear x0 x1 x2 x3 x4
                with_reducible refine HLine.out.mono ?_
                rintro e w14 ⟨rfl, hto⟩
                have HTo2 := Lib.hid hto
                clear hto
                go_wp2_with fail
                go_meet
                exact HTo2.out
            case rest =>
              obtain ⟨w15, hw15⟩ : ∃ w15, w15 = wc := ⟨_, rfl⟩
              rw [← hw15] at hcut ⊢
              clear hw15
              obtain ⟨sv3, ov3, hM3, hk3, hn3⟩ := hcut
              have hb := HBox13.out w15 hk3
              have x0 := hb.cell (i := 0) rfl
              have x1 := hb.cell (i := 1) rfl
              have x2 := hb.cell (i := 2) rfl
              have x3 := hb.cell (i := 3) rfl
              have x4 := hb.cell (i := 4) rfl
              have hB15 : W.heap.size ≤ w15.heap.size := by have h1 := hk3.size; have h2 := HB13.out; omega
              have HBef := Lib.hid (before_any w15 W.heap.size bm sv3 ov3 ml hM3 hB15 t HTo.out (by have := HPl.out; omega))
              obtain ⟨mf, hmf⟩ : ∃ mf, beforeP t ml = mf := ⟨_, rfl⟩
              rw [hmf] at HBef HAt2
              have HPf : Hid (phi mf ≤ 41003) := by
                show phi mf ≤ _
                rw [← hmf]
                have h1 := HPl.out
                have h2 := phi_beforeP t ml
                omega
              have HK3 := Lib.hid hk3
              have HN3 := Lib.hid hn3
              clear hM3 hk3 hn3 hmf hb HMl
              go_wp2_with fail
              clear x0 x1 x2 x3 x4
              with_reducible refine HBef.out.mono ?_
              rintro e w16 ⟨rfl, hto⟩
              obtain ⟨sv4, ov4, hM4, hk4, hn4⟩ := MkTo.trans HK3.out HN3.out hto
              clear hto HBef
              have hb := HBox13.out w16 hk4
              have hB16 : W.heap.size ≤ w16.heap.size := by have h1 := hk4.size; have h2 := HB13.out; omega
              have hpf : mf.out.length + mf.st.length ≤ 41003 := HPf.out
              have HMq : Hid (mf.out.length + 1 ≤ maxLen) := by show _ ≤ _; unfold maxLen; omega
              have HBq : Hid ((mf.out.length + 1) * 48 ≤ 140737488355328) := by show _ ≤ _; omega
              have HBZ : Hid (W.heap.size ≤ w16.heap.size) := hB16
              have HNO := Lib.hid hM4.nO
              have HBx := Lib.hid hM4.box
              have HOwn := Lib.hid hM4.out
              have HOut : Hid (∀ (w2 : World) (g1 cap1 : Nat), Keeps (fun k => ov4.ownBlock = some k) w16 w2 → w2.ownsRow W.heap.size 59 5 (.slice (some ⟨g1, 0, none⟩) (mf.out.length + 1) cap1) (mf.out.length + 1) (mf.out.flatMap Tok.cells ++ t.cells) → (ov4.ownBlock = some g1 ∨ w16.heap.size ≤ g1) → MkTo W.heap.size bm sv4 ov4 w16 ⟨mf.st, mf.out ++ [t]⟩ (w2.setCell ⟨bm, 1, none⟩ (.slice (some ⟨g1, 0, none⟩) (mf.out.length + 1) cap1))) := fun w2 g1 cap1 r1 r2 r3 => hM4.outed HTo.out r1 r2 r3
              have hNb7 : ¬ ov4.ownBlock = some b7 := fun e => by
                have h1 := hM4.out
                have h2 := hn4 b7 (.inr (.inr e))
                rcases h2 with h2 | h2
                · exact HNb.out (HN2.out b7 h2)
                · have h3 := HLb.out; have h4 := HK2.out.size; omega
              have hQ : Hid (∀ X, Keeps (fun k => ov4.ownBlock = some k) w16 X → (X.cell? ⟨bm, 1, none⟩ = some ov4 ∧ X.cell? ⟨b7, 0, none⟩ = some (.int .i64 t.kind) ∧ X.cell? ⟨b7, 1, none⟩ = some (.string t.text) ∧ X.cell? ⟨b7, 2, none⟩ = some (.int .i64 t.n) ∧ X.cell? ⟨b7, 3, none⟩ = some (.int .i64 t.line) ∧ X.cell? ⟨b7, 4, none⟩ = some (.int .i64 t.col))) := fun X hX => by
                have hx := hM4.box.keeps hX hM4.nO
                have hy := hb.keeps hX hNb7
                exact ⟨hx.cell (i := 1) rfl, hy.cell (i := 0) rfl, hy.cell (i := 1) rfl, hy.cell (i := 2) rfl, hy.cell (i := 3) rfl, hy.cell (i := 4) rfl⟩
              have HK4 := Lib.hid hk4
              have HN4 := Lib.hid hn4
              clear hb hB16 hM4 hk4 hn4 hNb7 hpf
              go_upto_region 23 with (fail)
              go_cut [] from 101 to 110 (fun wd => MkTo W.heap.size bm sv4 ov4 w16 ⟨mf.st, mf.out ++ [t]⟩ wd)
              case first =>
                refine wp_region_noPanic ?_
                refine wp_region_till [10] (fun X => X.cell? ⟨bm, 1, none⟩ = some ov4 ∧ X.cell? ⟨b7, 0, none⟩ = some (.int .i64 t.kind) ∧ X.cell? ⟨b7, 1, none⟩ = some (.string t.text) ∧ X.cell? ⟨b7, 2, none⟩ = some (.int .i64 t.n) ∧ X.cell? ⟨b7, 3, none⟩ = some (.int .i64 t.line) ∧ X.cell? ⟨b7, 4, none⟩ = some (.int .i64 t.col)) (by kernel_rfl) ?_ (fun hE => ?_)
                · first | exact hQ.out _ hk1 | exact hQ.out _ (Keeps.mono (show Keeps (fun _ => False) w16 _ from (by repeat (first | (with_reducible exact Keeps.refl _ _) | (with_reducible refine Keeps.drew ?_) | (with_reducible refine Keeps.drewN ?_ _) | (with_reducible refine Keeps.alloc ?_ _) | (with_reducible refine Keeps.trans ?_ (by assumption) (fun _ _ h => h))))) (fun _ _ h => h.elim))
                have hS := hE (by kernel_rfl)
                refine wpAnyT_pure (i := 0) (v := ?v23_0_1) rfl (by kernel_rfl) (fun _ _ _ h => h) (Or.inl ⟨by rfl, ?y23_0_1⟩) (fun _ => hS) ?_
                case y23_0_1 => (intro w hSw; go_simp; try with_reducible rfl)
                try simp only [AP]
                refine wpAnyT_pure (i := 1) (v := ?v23_1_2) rfl (by kernel_rfl) (fun _ _ _ h => h) (Or.inl ⟨by rfl, ?y23_1_2⟩) (fun _ => hS) ?_
                case y23_1_2 => (intro w hSw; go_simp; try with_reducible rfl)
                try simp only [AP]
                refine wpAnyT_pure (i := 2) (v := ?v23_2_3) rfl (by kernel_rfl) (fun _ _ _ h => h) (Or.inl ⟨by rfl, ?y23_2_3⟩) (fun _ => hS) ?_
                case y23_2_3 => (intro w hSw; go_simp; try with_reducible rfl)
                try simp only [AP]
                refine wpAnyT_pure (i := 3) (v := ?v23_3_4) rfl (by kernel_rfl) (fun _ _ _ h => h) (Or.inl ⟨by rfl, ?y23_3_4⟩) (fun _ => hS) ?_
                case y23_3_4 => (intro w hSw; go_simp; try with_reducible rfl)
                try simp only [AP]
                refine wpAnyT_take (i := 4) (v := ?v23_4_5) rfl (by kernel_rfl) (fun _ _ _ h => h) (Or.inl ⟨by rfl, ?y23_4_5⟩) hS ?_
                case y23_4_5 => (intro w hSw; (try dsimp only at hSw); go_simp; try with_reducible rfl)
                try simp only [AP]
                refine wpAnyT_take (i := 5) (v := ?v23_5_6) rfl (by kernel_rfl) (fun _ _ _ h => h) (Or.inl ⟨by rfl, ?y23_5_6⟩) hS ?_
                case y23_5_6 => (intro w hSw; (try dsimp only at hSw); go_simp; try with_reducible rfl)
                try simp only [AP]
                refine wpAnyT_ready (rs := [6]) (by kernel_rfl) rfl ?_
                refine AllT.cons rfl (fun K hK => ?_) ?_
                · go_simp
                  refine hK.out _ _ (fun _ => ?_) (fun hE => ?_)
                  · first | exact hQ.out _ hk1 | exact hQ.out _ (Keeps.mono (show Keeps (fun _ => False) w16 _ from (by repeat (first | (with_reducible exact Keeps.refl _ _) | (with_reducible refine Keeps.drew ?_) | (with_reducible refine Keeps.drewN ?_ _) | (with_reducible refine Keeps.alloc ?_ _) | (with_reducible refine Keeps.trans ?_ (by assumption) (fun _ _ h => h))))) (fun _ _ h => h.elim))
                  have hS := hE (by kernel_rfl)
                  clear hK K hE
                  try simp only [AP]
                  refine wpAnyT_ready (rs := [7]) (by kernel_rfl) rfl ?_
                  refine AllT.cons rfl (fun K hK => ?_) ?_
                  · (refine step_append_kept2 (W0 := w16) rfl (.tmp 105) (.tmp 107) 45 rfl W.heap.size 59 it _ 5 48 Tryz.underlying45 hit htz0 htz1 htz2 rfl (by decide) ov4 mf.out.length (mf.out.flatMap Tok.cells) rfl HOwn.out (by repeat (first | (with_reducible exact Keeps.refl _ _) | (with_reducible refine Keeps.drew ?_) | (with_reducible refine Keeps.drewN ?_ _) | (with_reducible refine Keeps.alloc ?_ _) | (with_reducible refine Keeps.trans ?_ (by assumption) (fun _ _ h => h)))) _ _ #[.int .i64 t.kind, .string t.text, .int .i64 t.n, .int .i64 t.line, .int .i64 t.col] rfl rfl (by exact heap_new_at (by simp)) (by simp [Value.oneCell']) HMq.out HBq.out HBZ.out ?_; intro g1 cap1 w2 hown1 hk1 hkp1 hat1; have hb2 := HBx.out.keeps hk1 HNO.out)
                    refine hK.out _ _ (fun _ => ?_) (fun hE => ?_)
                    · first | exact hQ.out _ hk1 | exact hQ.out _ (Keeps.mono (show Keeps (fun _ => False) w16 _ from (by repeat (first | (with_reducible exact Keeps.refl _ _) | (with_reducible refine Keeps.drew ?_) | (with_reducible refine Keeps.drewN ?_ _) | (with_reducible refine Keeps.alloc ?_ _) | (with_reducible refine Keeps.trans ?_ (by assumption) (fun _ _ h => h))))) (fun _ _ h => h.elim))
                    have hS := hE (by kernel_rfl)
                    clear hK K hE
                    try simp only [AP]
                    refine wpAnyT_pure (i := 8) (v := ?v23_8_7) rfl (by kernel_rfl) (fun _ _ _ h => h) (Or.inl ⟨by rfl, ?y23_8_7⟩) (fun _ => hS) ?_
                    case y23_8_7 => (intro w hSw; go_simp; try with_reducible rfl)
                    try simp only [AP]
                    refine wpAnyT_pure (i := 9) (v := ?v23_9_8) rfl (by kernel_rfl) (fun _ _ _ h => h) (Or.inl ⟨by rfl, ?y23_9_8⟩) (fun _ => hS) ?_
                    case y23_9_8 => (intro w hSw; go_simp; try with_reducible rfl)
                    try simp only [AP]
                    refine wpAnyT_ready (rs := [10]) (by kernel_rfl) rfl ?_
                    refine AllT.cons rfl (fun K hK => ?_) ?_
                    · (have z1 := hb2.cell (i := 1) rfl; have zf := hb2.free 1; have zl := hb2.lt; go_simp)
                      refine hK.out _ _ (fun he => Bool.noConfusion (show false = true from he)) (fun hE => ?_)
                      clear hK K hE
                      try simp only [AP]
                      refine wpAnyT_done (by kernel_rfl) ?_ _
                      refine NoPanic.normal ?_
                      have HTo2 := Lib.hid (HOut.out _ _ _ hk1 hown1 (hat1.imp id (fun h => Nat.le_trans (Keeps.size (show Keeps (fun _ => False) w16 _ from (by repeat (first | (with_reducible exact Keeps.refl _ _) | (with_reducible refine Keeps.drew ?_) | (with_reducible refine Keeps.drewN ?_ _) | (with_reducible refine Keeps.alloc ?_ _) | (with_reducible refine Keeps.trans ?_ (by assumption) (fun _ _ h => h)))))) h)))
                      clear hown1 hk1 hkp1 hat1 hb2
                      go_wp2_with fail
                      go_meet
                      exact HTo2.out
                    exact AllT.nil
                  exact AllT.nil
                exact AllT.nil
              case rest =>
                obtain ⟨w17, hw17⟩ : ∃ w17, w17 = wc := ⟨_, rfl⟩
                rw [← hw17] at hcut ⊢
                clear hw17 hQ HOut HOwn HBx HNO HBZ HMq HBq
                obtain ⟨sv5, ov5, hM5, hk5, hn5⟩ := MkTo.trans HK4.out HN4.out hcut
                clear hcut HK4 HN4
                have HM5 := Lib.hid hM5
                have HK5 := Lib.hid hk5
                have HN5 := Lib.hid hn5
                have hb := HBox13.out w17 hk5
                have x0 := hb.cell (i := 0) rfl
                have x1 := hb.cell (i := 1) rfl
                have x2 := hb.cell (i := 2) rfl
                have x3 := hb.cell (i := 3) rfl
                have x4 := hb.cell (i := 4) rfl
                clear hb hM5 hk5 hn5
                obtain ⟨qp, hqp⟩ : ∃ q, isP t 5 sOpP = q := ⟨_, rfl⟩
                obtain ⟨qb, hqb⟩ : ∃ q, isP t 5 sOpB = q := ⟨_, rfl⟩
                have HI1 : Hid (∀ X, Calls Tryz.prog 39 #[.agg #[.int .i64 t.kind, .string t.text, .int .i64 t.n, .int .i64 t.line, .int .i64 t.col], .int .i64 5, .string ⟨#[40]⟩] X (fun e w' => e = .returned (.bool qp) ∧ Keeps (fun _ => False) X w')) := fun X => by rw [← hqp]; exact is_any t 5 sOpP X
                have HI2 : Hid (∀ X, Calls Tryz.prog 39 #[.agg #[.int .i64 t.kind, .string t.text, .int .i64 t.n, .int .i64 t.line, .int .i64 t.col], .int .i64 5, .string ⟨#[123]⟩] X (fun e w' => e = .returned (.bool qb) ∧ Keeps (fun _ => False) X w')) := fun X => by rw [← hqb]; exact is_any t 5 sOpB X
                rw [hqp, hqb] at HAt2
                clear hqp hqb
                go_upto_region 24 with (fail)
                go_cut [116] from 111 to 116 (fun v116 wd => v116 = .bool (qp || qb) ∧ Keeps (fun _ => False) w17 wd)
                case first =>
                  go_wp2_with fail
                  with_reducible refine (HI1.out _).mono ?_
                  rintro e w18 ⟨rfl, hk18⟩
                  have hb := HBox13.out w18 (HK5.out.trans hk18 (fun _ _ h => h.elim))
                  clear x0 x1 x2 x3 x4
                  have x0 := hb.cell (i := 0) rfl
                  have x1 := hb.cell (i := 1) rfl
                  have x2 := hb.cell (i := 2) rfl
                  have x3 := hb.cell (i := 3) rfl
                  have x4 := hb.cell (i := 4) rfl
                  have HK18 := Lib.hid hk18
                  clear hb hk18
                  cases qp
                  · go_wp2_with fail
                    with_reducible refine (HI2.out _).mono ?_
                    rintro e w19 ⟨rfl, hk19⟩
                    have HK19 := Lib.hid (HK18.out.trans hk19 (fun _ _ h => h))
                    clear hk19
                    go_wp2_with fail
                    go_meet
                    exact ⟨rfl, HK19.out⟩
                  · go_wp2_with fail
                    go_meet
                    exact ⟨rfl, HK18.out⟩
                case rest =>
                  obtain ⟨rfl, hk18⟩ := hcut
                  obtain ⟨w18, hw18⟩ : ∃ w18, w18 = wc := ⟨_, rfl⟩
                  rw [← hw18] at hk18 ⊢
                  clear hw18
                  obtain ⟨qq, hqq⟩ : ∃ qq, (qp || qb) = qq := ⟨_, rfl⟩
                  rw [hqq] at HAt2 ⊢
                  clear hqq x0 x1 x2 x3 x4 HI1 HI2
                  have HM18 := Lib.hid (HM5.out.same hk18)
                  have HRel18 : Hid (∀ m' w', MkTo W.heap.size bm sv5 ov5 w18 m' w' → MkTo W.heap.size bm (.slice none 0 0) (.slice none 0 0) Wm m' w') := fun m' w' h => HRel13.out m' w' (MkTo.trans (HK5.out.trans hk18 (fun _ _ h => h.elim)) HN5.out h)
                  have hB18 : W.heap.size ≤ w18.heap.size := by have h1 := hk18.size; have h2 := HK5.out.size; have h3 := HB13.out; omega
                  clear hk18
                  cases qq
                  · have hat := HAt2.out
                    rw [if_neg (by decide)] at hat
                    have HAt3 := Lib.hid hat
                    clear hat
                    go_wp2_with fail
                    go_roundw
                    case rel => exact ⟨j + 1, by omega, by go_num, by rw [HAt3.out]; exact HRel18.out _ _ (MkTo.same HM18.out (Keeps.refl _ _))⟩
                    case measure => simp [intOf]; omega
                  · have hat := HAt2.out
                    rw [if_pos rfl] at hat
                    have HAt3 := Lib.hid hat
                    have hpf : mf.out.length + mf.st.length ≤ 41003 := HPf.out
                    have hst63 : mf.st.length ≤ 41003 := by omega
                    have HOwn := Lib.hid HM18.out.stk
                    have HPush : Hid (∀ (w2 : World) (g1 cap1 : Nat), Keeps (fun k => sv5.ownBlock = some k) w18 w2 → w2.ownsRow W.heap.size 96 2 (.slice (some ⟨g1, 0, none⟩) (mf.st.length + 1) cap1) (mf.st.length + 1) (mf.st.flatMap Ctx.cells ++ [.int .i64 0, .string ⟨#[]⟩]) → (sv5.ownBlock = some g1 ∨ w18.heap.size ≤ g1) → MkTo W.heap.size bm sv5 ov5 w18 ((Mk.mk mf.st (mf.out ++ [t])).push zCtx) (w2.setCell ⟨bm, 0, none⟩ (.slice (some ⟨g1, 0, none⟩) (mf.st.length + 1) cap1))) := fun w2 g1 cap1 r1 r2 r3 => HM18.out.pushed (x := zCtx) ⟨by decide, by show (0 : Nat) ≤ maxLen; exact Nat.zero_le _⟩ r1 r2 r3
                    have c0 := HM18.out.box.cell (i := 0) rfl
                    have hlb := HM18.out.box.lt
                    have HBx := Lib.hid HM18.out.box
                    have HNS := Lib.hid HM18.out.nS
                    clear hat hpf
                    go_upto_region 25 with (fail)
                    go_wp2_with (at_builtin; refine wpList_append_lies _ rfl _ _ 88 rfl W.heap.size 96 ic _ 2 24 Tryz.underlying88 hic hcz0 hcz1 hcz2 rfl (by omega) sv5 mf.st.length (mf.st.flatMap Ctx.cells) rfl (World.ownsRow.alloc HOwn.out _) ⟨w18.heap.size, 0, none⟩ 1 1 [.int .i64 0, .string ⟨#[]⟩] rfl rfl (World.news_of_block (cs := #[.int .i64 0, .string ⟨#[]⟩]) (t := 96) (fr := (0, 0)) (heap_alloc_new _ _)) (by simp [Value.oneCell']) (by omega) (by unfold maxLen; omega) (by omega) (by simp; omega) (w18.heap.size + 1) (by simp) ?_; intro gg cap w19 hown1 hgrow hat hlt1; have hk19 : Keeps (fun i => sv5.ownBlock = some i) w18 w19 := ((Keeps.refl _ _).alloc _).grown hgrow (fun j hj hjl => hj); have hbx := HBx.out.keeps hk19 HNS.out; have z0 := hbx.cell (i := 0) rfl; have zf := hbx.free 0; have zl := hbx.lt)
                    have HTo3 := Lib.hid (HPush.out _ _ _ hk19 hown1 (hat.imp id (fun e => by omega)))
                    go_roundw
                    case rel => exact ⟨j + 1, by omega, by go_num, by rw [HAt3.out]; exact HRel18.out _ _ HTo3.out⟩
                    case measure => simp [intOf]; omega
end Go.Proofs.YtcjoapmodaioiaaGreatDoor
