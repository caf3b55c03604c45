/- LayoutMoved: a text that is moved to the right keeps its tokens and its blocks, but for the columns. Condition of the walk: a text of at most 2^20 bytes. -/
import Derived.Test.YtnpgdeioaehahaaDoorLaid
import Derived.Test.YtnpgdeioaehahaaDoorLexMv
import Derived.Test.YtnpgdeioaehahaaDoorParts
import Derived.Test.YtnpgdeioaehahaaDoorWithin
import Derived.Test.YtnpgdeioaehahaaDoorHanded
import Derived.Lib.Repeat
import Derived.Lib.SplitLaws
import Derived.Deep.DeepHandedRow
import Derived.OpenShut
namespace Go.Proofs.YtnpgdeioaehahaaDoor.layoutMoved
open Go.ChangeShapes Go.WideShapes Go.ChangeAt Go.RowKit Go.Shelf Go.Proofs.YtnpgdeioaehahaaDoor
open Go.ChangeMaps (open_string)

def fst_ : ByteArray := ⟨#[111, 102, 10, 32, 97, 10, 32, 98]⟩
def fstE : Tok := ⟨9, ⟨#[]⟩, 0, 3, 3⟩
theorem fst_ok : LaidOk fst_ := ⟨by decide +kernel, by decide +kernel, by decide +kernel⟩
theorem fst_last : (toks fst_).getLast? = some fstE := by kernel_rfl
theorem fst_len : (markP (toks fst_) fstE).length = 7 := by kernel_rfl

def Tok.left (d : Int) (x : Tok) : Tok := { x with col := x.col - d }
theorem left_right (d : Int) (l : List Tok) : (l.map (Tok.right d)).map (Tok.left d) = l := by
  rw [List.map_map]
  conv => rhs; rw [← List.map_id l]
  refine List.map_congr_left fun x _ => ?_
  obtain ⟨a, b, c, e, f⟩ := x
  simp only [Function.comp, Tok.left, Tok.right, id]
  congr 1; omega
theorem mvR_len (b : Nat) (hb : b ≤ 6) : ∀ l : Bs, (mvR b l).length ≤ 7 * l.length
  | [] => by simp [mvR]
  | c :: t => by
    have ih := mvR_len b hb t
    rw [mvR]
    split
    · simp only [List.length_cons, List.length_append, spn, List.length_replicate]; omega
    · simp only [List.length_cons]; omega
theorem col_bnd {t : Tok} (h : TokOk t) : -9223372036854775808 ≤ t.col ∧ t.col ≤ 9223372036854775807 := by
  have h5 := h.2.2.2.2
  simp [Lit.wf, IntKind.min, IntKind.max, IntKind.signed, IntKind.bits] at h5
  omega
theorem chk_col {s : ByteArray} (h : LaidOk s) : ∀ t ∈ toks s, 1 ≤ t.col := by
  have hck := h.2.2
  have hnil : toks s ≠ [] := fun h => by rw [h] at hck; cases hck
  obtain ⟨a0, e0, hsn⟩ := snoc_of_ne hnil
  have hlast : (toks s).getLast? = some e0 := by rw [hsn]; simp
  have hokl : okL none (toks s) = 0 := by
    unfold layChk at hck
    by_cases hbig : 8193 < (toks s).length
    · rw [if_pos hbig] at hck; cases hck
    rw [if_neg hbig, hlast] at hck
    dsimp only at hck
    split at hck
    · cases hck
    · exact hck
  obtain ⟨g1, g2, g3⟩ := okL_tok (toks s) none hokl a0 e0 hsn
  exact fun t ht => (g1 t ht).2.1
/-- The texts' tokens with the layout's. -/
theorem moved_mark {s s' : ByteArray} {b : Nat} (h : s'.data.toList = spn b ++ mvR b s.data.toList) (ho : LaidOk s) {e0 e1 : Tok} (h0 : (toks s).getLast? = some e0) (h1 : (toks s').getLast? = some e1) :
    markP (toks s') e1 = (markP (toks s) e0).map (Tok.right b) := by
  have hl : toks s' = (toks s).map (Tok.right b) := (moved_lex s s' b h).1
  rw [hl, List.getLast?_map, h0] at h1
  obtain rfl : e0.right b = e1 := by simpa using h1
  rw [hl]
  exact markP_right (by omega) _ _ (chk_col ho)

set_option maxRecDepth 100000 in
set_option maxHeartbeats 8000000 in
theorem walk (s : ByteArray) (by_ : Int) (w : World) (m : Int) (hL : Lim w w.heap.size m) (hs : s.size ≤ 1048576) :
    Calls Tryd.prog 5 #[.string s, .int .i64 by_] w fun e w' => e = .returned (.bool true) ∧ Below w.heap.size w w' := by
  obtain ⟨b, hb, hb6⟩ : ∃ b : Nat, withinI by_ 0 6 = b ∧ b ≤ 6 := by
    have h1 := withinI_lo by_ 0 6 (by omega)
    have h2 := withinI_hi by_ 0 6 (by omega)
    exact ⟨(withinI by_ 0 6).toNat, by omega, by omega⟩
  obtain ⟨sp, hsp⟩ : ∃ sp : ByteArray, ⟨(spn b).toArray⟩ = sp := ⟨_, rfl⟩
  obtain ⟨r, hr⟩ : ∃ r : ByteArray, ⟨(mvR b s.data.toList).toArray⟩ = r := ⟨_, rfl⟩
  have hspl : sp.data.toList = spn b := by rw [← hsp]
  have hrl : r.data.toList = mvR b s.data.toList := by rw [← hr]
  have hspz : sp.size = b := by rw [Lib.size_eq, hspl]; simp [spn]
  have hrz : r.size ≤ 7 * s.size := by rw [Lib.size_eq, Lib.size_eq, hrl]; exact mvR_len b hb6 _
  have HMv : Hid ((sp ++ r).data.toList = spn b ++ mvR b s.data.toList) := by
    show (sp ++ r).data.toList = _
    rw [← hspl, ← hrl]; simp
  have HWi := Lib.hid (fun (W : World) => hb ▸ within_any by_ 0 6 W (by omega) (by omega) (by omega) (by omega))
  have HRp : Hid (∀ W : World, Calls Tryd.prog 14 #[.string ⟨#[32]⟩, .int .i64 (b : Int)] W fun e w' => e = .returned (.string sp) ∧ Keeps (fun _ => False) W w') := fun W => by
    refine (Tryd.strings_Repeat ⟨#[32]⟩ b W (by omega) (by show 1 * b ≤ _; omega)).mono ?_
    rintro e w' ⟨he, hbw⟩
    refine ⟨?_, Keeps.of_below (X := fun _ => False) hbw⟩
    rw [he, ← hsp, show Lib.repeatL (⟨#[32]⟩ : ByteArray).data.toList b = spn b from by
      have := Lib.repeatL_replicate 32 1 b
      rw [Nat.mul_one] at this; exact this]
  have HRa : Hid (∀ W : World, Keeps (fun _ => False) w W → Calls Tryd.prog 15 #[.string s, .string ⟨#[10]⟩, .string (⟨#[10]⟩ ++ sp)] W fun e w' => e = .returned (.string r) ∧ Keeps (fun _ => False) W w') := fun W hk => by
    have hb7 : 1 + b ≤ 7 := by omega
    have hcl := Lib.countB_le ⟨#[10]⟩ (Nat.le_refl 1) s.size s (Nat.le_refl _)
    have hz : ((⟨#[10]⟩ : ByteArray) ++ sp).size = 1 + b := by rw [ByteArray.size_append, hspz]; rfl
    have Q := fun h3 => Tryd.strings_ReplaceAll s ⟨#[10]⟩ (⟨#[10]⟩ ++ sp) m W (Nat.lt_of_le_of_lt hs (by decide)) (hL.here (hk.below (fun _ h => h.elim) (Nat.le_refl _)) (Nat.le_refl _)).1 (Nat.le_refl 1) h3
    refine (Q ?_).mono ?_
    · rw [hz]
      obtain ⟨c, hc⟩ : ∃ c, Lib.countB s ⟨#[10]⟩ = c := ⟨_, rfl⟩
      rw [hc] at hcl ⊢
      have h7 := Nat.mul_le_mul hcl hb7
      obtain ⟨q, hq⟩ : ∃ q, c * (1 + b) = q := ⟨_, rfl⟩
      rw [hq] at h7 ⊢
      clear hq hc hz hcl hspz hrz
      omega
    · rintro e w' ⟨he, hbw⟩
      refine ⟨?_, Keeps.of_below (X := fun _ => False) hbw⟩
      rw [he, ← hr, show ((⟨#[10]⟩ : ByteArray) ++ sp).data.toList = 10 :: spn b from by rw [← hspl]; simp]
      exact congrArg (fun x => Ending.returned (.string ⟨List.toArray x⟩)) (replaceAll_mv b s.data.toList)
  have HS := Lib.hid (fun (t : ByteArray) (W : World) (hb : Keeps (fun _ => False) w W) => laid_any t W m (hL.here (hb.below (fun _ h => h.elim) (Nat.le_refl _)) (Nat.le_refl _)))
  have z0 : (s.size : Int) ≤ 1048576 := by omega
  have z1 : (r.size : Int) ≤ 7340032 := by omega
  have z2 : (sp.size : Int) ≤ 6 := by omega
  have b0 : (0 : Int) ≤ (b : Int) := by omega
  have b6 : (b : Int) ≤ 6 := by omega
  have H0 := Lib.hid (HS.out fst_ w (Keeps.refl _ _))
  clear hL hb hsp hr hspl hrl hspz hrz hs
  unfold fst_ at H0
  go_enter Tryd.func5, Tryd.ntmps5
  go_wp2_with fail
  with_reducible refine H0.out.mono ?_
  rintro e w1 ⟨hk1, hcs⟩
  rcases hcs with ⟨hno, -⟩ | ⟨-, e0, A1, c1, A2, c2, hl0, rfl, -⟩
  · exact absurd fst_ok hno
  have hl1 := fst_last
  unfold fst_ at hl1
  rw [hl1] at hl0
  obtain rfl : fstE = e0 := by simpa using hl0
  have hln := fst_len
  unfold fst_ at hln
  obtain ⟨N0, hN0⟩ : ∃ N0, (toks { data := #[111, 102, 10, 32, 97, 10, 32, 98] }).length = N0 := ⟨_, rfl⟩
  rw [hln, hN0]
  have HS1 := Lib.hid (HS.out s w1 hk1)
  have HK1 := Lib.hid hk1
  clear hk1 hl0 hl1 hln hN0 H0
  go_wp2_with fail
  with_reducible refine HS1.out.mono ?_
  rintro e w2 ⟨hk2, hcs⟩
  obtain ⟨ok, B1, n1, d1, B2, n2, d2, rfl, hok⟩ : ∃ ok B1 n1 d1 B2 n2 d2, e = .returned (.tuple #[.slice B1 n1 d1, .slice B2 n2 d2, .bool ok]) ∧ (ok = true → LaidOk s ∧ ∃ e0, (toks s).getLast? = some e0 ∧ n2 = (markP (toks s) e0).length ∧ w2.ownsRow w1.heap.size 28 5 (.slice B2 n2 d2) n2 ((markP (toks s) e0).flatMap Tok.cells) ∧ ∀ t ∈ markP (toks s) e0, TokOk t) := by
    rcases hcs with ⟨-, B1, n1, d1, B2, n2, d2, rfl⟩ | ⟨hok, e0, B1, d1, B2, d2, hlast, rfl, -, ho, hto⟩
    · exact ⟨false, B1, n1, d1, B2, n2, d2, rfl, fun h => by cases h⟩
    · exact ⟨true, B1, _, d1, B2, _, d2, rfl, fun _ => ⟨hok, e0, hlast, rfl, ho, hto⟩⟩
  have HOk := Lib.hid hok
  have HK2 := Lib.hid (HK1.out.trans hk2 (fun _ _ h => h))
  clear hk2 hok hcs HS1
  go_wp2_with fail
  with_reducible refine (HWi.out _).mono ?_
  rintro e w3 ⟨rfl, rfl⟩
  go_wp2_with fail
  with_reducible refine (HRp.out _).mono ?_
  rintro e w4 ⟨rfl, hk4⟩
  have HK4 := Lib.hid (HK2.out.trans hk4 (fun _ _ h => h))
  have HL4 := Lib.hid hk4
  clear hk4
  go_wp2_with fail
  with_reducible refine (HRa.out _ HK4.out).mono ?_
  rintro e w5 ⟨rfl, hk5⟩
  have HK5 := Lib.hid (HK4.out.trans hk5 (fun _ _ h => h))
  have HL5 := Lib.hid (HL4.out.trans hk5 (fun _ _ h => h))
  clear hk5
  go_wp2_with fail
  with_reducible refine (HS.out _ _ HK5.out).mono ?_
  rintro e w6 ⟨hk6, hcs⟩
  have HK6 := Lib.hid (HK5.out.trans hk6 (fun _ _ h => h))
  have HL6 := Lib.hid (HL5.out.trans hk6 (fun _ _ h => h))
  clear hk6
  rcases hcs with ⟨-, C1, p1, q1, C2, p2, q2, rfl⟩ | ⟨hok', e1, C1, q1, C2, q2, hlast', rfl, -, ho', hto'⟩
  · go_upto_region 8 with (fail)
    cases ok
    · go_wp2_with fail
      go_ret
      exact ⟨rfl, HK6.out.below (fun _ h => h.elim) (Nat.le_refl _)⟩
    · go_wp2_with fail
      go_ret
      exact ⟨rfl, HK6.out.below (fun _ h => h.elim) (Nat.le_refl _)⟩
  have HO' : Hid (w6.ownsRow w5.heap.size 28 5 (.slice C2 (markP (toks (sp ++ r)) e1).length q2) (markP (toks (sp ++ r)) e1).length ((markP (toks (sp ++ r)) e1).flatMap Tok.cells) ∧ ∀ t ∈ markP (toks (sp ++ r)) e1, TokOk t) := ⟨ho', hto'⟩
  have HLast := Lib.hid hlast'
  clear ho' hto' hok' hlast'
  obtain ⟨P0, hP0⟩ : ∃ P0, (toks (sp ++ r)).length = P0 := ⟨_, rfl⟩
  obtain ⟨N, hN⟩ : ∃ N, markP (toks (sp ++ r)) e1 = N := ⟨_, rfl⟩
  rw [hN] at HO'
  rw [hP0, hN]
  have HN := Lib.hid hN
  clear hP0 hN
  go_upto_region 8 with (fail)
  cases ok
  · go_wp2_with fail
    go_ret
    exact ⟨rfl, HK6.out.below (fun _ h => h.elim) (Nat.le_refl _)⟩
  obtain ⟨hok, e0, hlast, rfl, ho, hto⟩ := HOk.out rfl
  have hmm := moved_mark HMv.out hok hlast HLast.out
  rw [HN.out] at hmm
  obtain ⟨M, hM⟩ : ∃ M, markP (toks s) e0 = M := ⟨_, rfl⟩
  rw [hM] at ho hto hmm ⊢
  have hNl : N.length = M.length := by rw [hmm, List.length_map]
  obtain ⟨ho', hto'⟩ := HO'.out
  have hlM : M.length ≤ 9223372036854775807 := by
    obtain ⟨A, c, h1, h2, h3⟩ := own_form ho
    simp only [Value.slice.injEq, true_and] at h1
    unfold maxLen at h3; omega
  have HMM := Lib.hid hmm
  have HT := Lib.hid hto
  have HT' := Lib.hid hto'
  have HO := Lib.hid ho
  have HNl := Lib.hid hNl
  rw [hNl] at ho' ⊢
  have HO1 := Lib.hid ho'
  obtain ⟨g5, hg5⟩ : ∃ g5, w5.heap.size = g5 := ⟨_, rfl⟩
  have hg2 : w2.heap.size ≤ g5 := by have := HL5.out.size; omega
  rw [hg5] at HO1
  clear hok hlast ho hto hmm hM ho' hto' HO' HLast HOk hNl hg5
  go_wp2_with fail
  go_loopw [57] (fun i wr => ∃ k : Nat, k ≤ M.length ∧ i = .int .i64 k ∧ wr.ownsRow g5 28 5 (.slice C2 M.length q2) M.length ((part (Tok.left b) N k).flatMap Tok.cells) ∧ Keeps (fun j => (Value.slice C2 M.length q2).ownBlock = some j) w6 wr) (fun i _ => M.length - (intOf i).toNat)
  case atStart => exact ⟨0, Nat.zero_le _, rfl, by rw [part_zero]; exact HO1.out, Keeps.refl _ _⟩
  case round =>
    obtain ⟨k, hk, rfl, hown0, hkp⟩ := hrel
    by_cases hlk : k < M.length
    · obtain ⟨g, cap, hA, hgb, hgl⟩ := hown0.form (by omega)
      simp only [Value.slice.injEq, true_and] at hA
      obtain ⟨rfl, rfl⟩ := hA
      have hkl : k < N.length := by rw [HNl.out]; exact hlk
      have hsk := part_get (Tok.left b) N k k hkl
      rw [if_neg (by omega)] at hsk
      have y0 := flat_get (c := Tok.cells) (kk := 5) (fun _ => rfl) _ k _ hsk 4 (by omega)
      have j0 := (hown0.cellAt (k * 5 + 4) (by omega)).trans y0
      have j1 : wr.cell? ⟨g, k * 5 + 4, none⟩ = some (.int .i64 N[k].col) := j0
      have m0 := hown0.frozenAt (k * 5 + 4)
      have k0 : (0 : Int) ≤ (k : Int) := by omega
      have k1 : (k : Int) < (M.length : Int) := by omega
      have hc' := col_bnd (HT'.out N[k] (List.getElem_mem hkl))
      have hc := col_bnd (HT.out M[k] (List.getElem_mem hlk))
      have hcc : N[k].col = M[k].col + b := by
        have : N[k] = (M[k]).right b := by simp only [HMM.out, List.getElem_map]
        rw [this]; rfl
      have l0 : -9223372036854775808 ≤ N[k].col - b := by omega
      have l1 : N[k].col - b ≤ 9223372036854775807 := by omega
      have hst := (hown0.stored (k * 5 + 4) (.int .i64 (N[k].col - b))).1
      have hfs := flat_set (c := Tok.cells) (kk := 5) (fun _ => rfl) _ k _ (Tok.left b N[k]) hsk 4 (.int .i64 (N[k].col - b)) (by omega) rfl
      rw [← part_succ (Tok.left b) N k hkl] at hfs
      rw [hfs] at hst
      have HST := Lib.hid hst
      obtain ⟨q, hq⟩ : ∃ q, N[k].col = q := ⟨_, rfl⟩
      rw [hq] at j1 l0 l1 HST
      clear hsk hst hfs j0 y0 hc hc' hcc hq
      go_wp2_with fail
      go_roundw
      case rel => exact ⟨k + 1, by omega, by go_num, HST.out, hkp.setCell (p := ⟨g, k * 5 + 4, none⟩) (fun _ => rfl) _⟩
      case measure => simp [intOf]; omega
    · obtain rfl : k = M.length := by omega
      have k1 : ¬ ((M.length : Nat) : Int) < (M.length : Int) := by omega
      rw [part_all (Tok.left b) N _ (by rw [HNl.out]; exact Nat.le_refl _), HMM.out, left_right] at hown0
      have hownA := own_keeps (own_keeps HO.out HL6.out (fun _ _ h => h)) hkp (fun i hi hj => by
        have h1 := (HO.out.lt i hi).2
        have h2 := (HO1.out.lt i hj).1
        omega)
      have sA := own_sl hownA HT.out
      have sB := own_sl hown0 HT.out
      have HEq : Hid (∀ X, Keeps (fun _ => False) wr X → Calls Tryd.prog 12 #[.slice B2 M.length d2, .slice C2 M.length q2] X (fun e w' => e = .returned (.bool true) ∧ Keeps (fun _ => False) wr w')) := fun X hk => by
        refine (tokEqual M M _ _ _ _ X (sA.keeps hk (fun _ _ h => h)) (sB.keeps hk (fun _ _ h => h))).mono ?_
        rintro e w' ⟨he, hb⟩
        exact ⟨by rw [he, eqBy_refl _ Tok.eqB_refl], hk.trans (X := fun _ => False) (Keeps.of_below (X := fun _ => False) hb) (fun _ _ h => h)⟩
      have hbwr : Hid (Below w.heap.size w wr) := by
        have h6 : Below w.heap.size w w6 := HK6.out.below (fun _ h => h.elim) (Nat.le_refl _)
        refine h6.trans (hkp.below (fun j hj => ?_) HK6.out.size)
        have := (HO1.out.lt j hj).1
        have := HK2.out.size
        omega
      clear hownA sA sB hown0 hkp hlk
      go_wp2_with fail
      with_reducible refine (HEq.out _ (Keeps.refl _ _)).mono ?_
      rintro e w7 ⟨rfl, hk7⟩
      have HF : Hid (Below w.heap.size w w7) := hbwr.out.trans (hk7.below (fun _ h => h.elim) hbwr.out.size)
      clear hk7
      go_wp2_with fail
      go_ret
      exact ⟨rfl, HF.out⟩

theorem own : ownKnob Tryd.prog.godebug = none := by kernel_rfl
theorem laid : laidOutB Tryd.prog = true := by kernel_rfl
theorem reads (os : Os) {H : Type} (enc : TypeId × Value → H) : ∃ places, DataW.whole enc Tryd.prog ((World.laidAll Tryd.prog os Rows.layoutMovedUptoRow.laid).forCall (fun _ _ => 0) ⟨#[], #[.string ⟨#[]⟩, .int .i64 0], []⟩).memory Tryd.f5.params.toList Rows.layoutMovedSpec.vars false #[Value.string ⟨#[]⟩, .int .i64 0].toList 8 = some ([.lit (.string []), .lit (.int .i64 0)], [], places) :=
  ⟨[], by kernel_rfl⟩

set_option maxRecDepth 100000 in
theorem lifted (os : Os) (started : os.Started) (H : Type) (enc : TypeId × Value → H) (F : Stop.Interp) :
    ReturnsInHanded {} Tryd.checked os 5 .any ((Rows.OpenSpec.upto Rows.layoutMovedSpec).preRow enc Tryd.prog Tryd.f5 Rows.layoutMovedUptoRow.domain false Rows.layoutMovedUptoRow.laid)
      (((Rows.OpenSpec.upto Rows.layoutMovedSpec).at F).post enc Tryd.prog Tryd.f5 false true false false) := by
  obtain ⟨places, hx⟩ := reads os enc
  refine returnsInHanded_of_row (C := Tryd.checked) (s := Rows.OpenSpec.upto Rows.layoutMovedSpec) own started (by kernel_rfl) Tryd.func5
    (witness_row_at (enc := enc) (C := Tryd.checked) false (World.laidAll Tryd.prog os Rows.layoutMovedUptoRow.laid) #[.string ⟨#[]⟩, .int .i64 0] (World.laidAll_os _ _ _) (by kernel_rfl) (by kernel_rfl) (by kernel_rfl)
      (OpenSpec.preRow_of_cond 8 hx (by kernel_rfl) (fun k hk => by cases hk; kernel_rfl) (by kernel_rfl)
        (by rw [MakeChecks.laidMetH_plain _ _ _ (by kernel_rfl)]; exact laidMet_laidAll _ (by kernel_rfl) (by kernel_rfl)))) ?_
  intro W base args ds gs before hval0 hW _ hcond _ _ hsh _
  obtain ⟨m, hm⟩ := Tryd.laysM144.s1_3 W hsh
  have hLim : Lim W W.heap.size m := ⟨hm, World.block_lt_of_cell? _ _ hm⟩
  have hk0 := hcond _ rfl
  have hval : ∀ (j : Nat) t v, Tryd.f5.params[j]? = some t → args[j]? = some v → Value.okWide Tryd.prog W .any base t v := hval0
  have hW' := hW
  obtain ⟨p, q, hA0, hV, hbef, hfz, hnd⟩ := hW
  have hA : DataW.TrodAll enc Tryd.prog W 0 (fun _ => true) true Tryd.f5.params.toList args.toList ds p := hA0
  rw [Tryd.params5] at hA hval
  obtain ⟨v0, vs0, d0, ds0, p0, q0, hargs, hds, rfl, h0, r0⟩ := trodAll_cons hA
  obtain ⟨v1, vs1, d1, ds1, p1, q1, rfl, rfl, rfl, h1, r1⟩ := trodAll_cons r0
  obtain ⟨rfl, rfl, rfl⟩ := trodAll_nil r1
  obtain rfl : args = #[v0, v1] := by cases args; simp_all
  obtain ⟨rfl, _⟩ := trodVars_none hV
  subst hds
  have hk : Rows.uptoBulkAll ([d0, d1] ++ []) ≤ 1048576 := of_decide_eq_true hk0
  simp only [List.append_nil, Rows.uptoBulkAll] at hk
  obtain ⟨a0, rfl, rfl, rfl, s0⟩ := open_string Tryd.underlying9 (hval 0 9 v0 rfl rfl) h0
  obtain ⟨a1, rfl, rfl, rfl, s1⟩ := open_int Tryd.underlying3 (hval 1 3 v1 rfl rfl) h1
  have z0 : a0.size ≤ 1048576 := by
    simp only [Rows.uptoBulk] at hk
    rw [Lib.size_eq]; omega
  refine (walk a0 a1 W m hLim z0).mono fun e W' ⟨he, hb⟩ => ?_
  subst he
  exact ⟨_, rfl, law_post laid (by kernel_rfl) rfl Tryd.underlying4 rfl rfl rfl rfl hW' hb⟩

theorem over : Rows.layoutMovedUptoRow.holds Tryd.pinned (Rows.OpenSpec.upto Rows.layoutMovedSpec) :=
  OpenClaim.holds_of_cond 5 Tryd.f5 rfl rfl rfl rfl rfl rfl rfl ⟨rfl, rfl, rfl, rfl, rfl⟩ rfl rfl rfl rfl rfl (by kernel_rfl) Tryd.func5 (by kernel_rfl)
    (of_decide_eq_true (by kernel_rfl)) (by unfold Func.isWrapper; first | (rw [if_pos (by decide +kernel)]; kernel_rfl) | (rw [if_neg (by decide +kernel)]; exact ⟨rfl, rfl⟩))
    (fun os started H enc _ F => by rw [OpenClaim.pre_eq_preRow]; exact lifted os started H enc F)

theorem proved : Rows.LayoutMovedUptoCardSaid :=
  Claim7.holds_tied_plain_at .later [] [.data, .pinned] true Rows.layoutMovedUptoCard.stood.harness false over (fun _ h => by cases h) (by kernel_rfl) (fun _ h => by cases h) layoutMovedUpto_row_tie rfl ⟨rfl, rfl⟩ (by kernel_rfl) rfl
    (fun f fn hf hfn => by
      obtain rfl : f = 5 := Option.some.inj ((show Tryd.prog.funcNamed Tryd.f5.name = some 5 by kernel_rfl).symm.trans hf) |>.symm
      obtain rfl : fn = Tryd.f5 := (Option.some.inj (Tryd.func5.symm.trans hfn)).symm
      exact ⟨by kernel_rfl, fun j t ht => by
        rw [Tryd.params5] at ht
        have hm : t ∈ [9, 3] := by simpa using Array.mem_of_getElem? ht
        have hall : ([9, 3].all fun u => !Tryd.prog.wantsStandIn u) = true := by kernel_rfl
        exact (show Tryd.prog.wantsStandIn t = false by simpa using List.all_eq_true.1 hall t hm)⟩)
    (by kernel_rfl)
#print axioms proved
end Go.Proofs.YtnpgdeioaehahaaDoor.layoutMoved
