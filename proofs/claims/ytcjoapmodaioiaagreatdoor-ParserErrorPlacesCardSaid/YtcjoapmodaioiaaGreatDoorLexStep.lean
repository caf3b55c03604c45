/- word, number and step of the scanner. -/
import Derived.Test.YtcjoapmodaioiaaGreatDoorMLexB
namespace Go.Proofs.YtcjoapmodaioiaaGreatDoor
open Go.RowKit Go.Shelf

def Lim (W : World) (B : Nat) (m : Int) : Prop := W.cell? ⟨0, 0, none⟩ = some (.int .i64 m) ∧ 0 < B
theorem Lim.later {W W' : World} {B : Nat} {m : Int} (h : Lim W B m) (hb : Below B W W') : Lim W' B m := ⟨(hb.cell (p := ⟨0, 0, none⟩) h.2).trans h.1, h.2⟩

theorem cut_data (s : ByteArray) (a n : Nat) : (s.extract a (a + n)).data.toList = (s.data.toList.drop a).take n := by
  rw [Lib.extract_data]; simp [List.take_drop]
theorem cut_tw (s : ByteArray) (a : Nat) (pr : UInt8 → Bool) : (s.extract a (a + ((s.data.toList.drop a).takeWhile pr).length)).data.toList = (s.data.toList.drop a).takeWhile pr := by
  rw [cut_data]; exact (List.prefix_iff_eq_take.1 (List.takeWhile_prefix pr)).symm
theorem cut_size (s : ByteArray) (a : Nat) (pr : UInt8 → Bool) : (s.extract a (a + ((s.data.toList.drop a).takeWhile pr).length)).size = ((s.data.toList.drop a).takeWhile pr).length := by
  rw [Lib.size_eq, cut_tw]

set_option maxHeartbeats 1000000 in
theorem word_any (W : World) (B p : Nat) (s : ByteArray) (at_ ln cl : Int) (ov bv : Value) (toks : List Tok) (bads : List (Int × Int × Int)) (h : Sc W B p s at_ ln cl ov bv toks bads) (kd m : Int) (u : ByteArray)
    (hL : Lim W B m) (hn : toks.length ≤ 100000) (hB : B ≤ W.heap.size) (hu : u.size ≤ 8192) (h0 : 0 ≤ at_ ∧ 0 ≤ cl) (h1 : at_ ≤ 100000 ∧ cl ≤ 100000) :
    Calls Tryz.prog 72 #[.pointer (some ⟨p, 0, none⟩), .int .i64 kd, .string u] W fun e w' => e = .returned (.tuple #[]) ∧
      ∃ ov', Sc w' B p s (at_ + u.size) ln (cl + u.size) ov' bv (toks ++ [⟨if kwB u.data.toList = true then 4 else kd, u, 0, ln, cl⟩]) bads ∧ Below B W w' := by
  have HK := Lib.hid (keyword_any u W m hL.1 hu)
  have HP := Lib.hid (fun (k : Int) => put_any W B p s at_ ln cl ov bv toks bads h k 0 u hn hB hu h0 h1)
  cases hk : kwB u.data.toList
  · rw [hk] at HK
    have HP1 := Lib.hid (HP.out kd)
    go_enter Tryz.func72, Tryz.ntmps72
    go_wp2_with fail
    with_reducible refine HK.out.mono ?_
    rintro e w1 ⟨rfl, rfl⟩
    go_wp2_with fail
    with_reducible refine HP1.out.mono ?_
    rintro e w2 ⟨rfl, ov', hz, hb⟩
    go_wp2_with fail
    go_end0
    first
      | exact ⟨rfl, ov', by simpa using hz, hb⟩
      | exact ⟨rfl, ⟨ov', by simpa using hz⟩, hb⟩
  · rw [hk] at HK
    have HP1 := Lib.hid (HP.out 4)
    go_enter Tryz.func72, Tryz.ntmps72
    go_wp2_with fail
    with_reducible refine HK.out.mono ?_
    rintro e w1 ⟨rfl, rfl⟩
    go_wp2_with fail
    with_reducible refine HP1.out.mono ?_
    rintro e w2 ⟨rfl, ov', hz, hb⟩
    go_wp2_with fail
    go_end0
    first
      | exact ⟨rfl, ov', by simpa using hz, hb⟩
      | exact ⟨rfl, ⟨ov', by simpa using hz⟩, hb⟩

theorem numFrom_bd : ∀ (l : Bs) (n : Int), 0 ≤ n → n ≤ 1073741824 → l.all digit = true → 0 ≤ numFrom n l ∧ numFrom n l ≤ 1073741824
  | [], _, h0, h1, _ => ⟨h0, h1⟩
  | c :: t, n, h0, h1, hd => by
    rw [List.all_cons, Bool.and_eq_true] at hd
    have hc : 48 ≤ c.toNat := by have := hd.1; simp [digit] at this; omega
    exact numFrom_bd t _ (by omega) (by omega) hd.2
theorem num_step (n : Int) (l : Bs) (k : Nat) (h : k < l.length) : numFrom n (l.drop k) = numFrom (min (n * 10 + ((l[k].toNat : Int) - 48)) 1073741824) (l.drop (k + 1)) := by
  rw [List.drop_eq_getElem_cons h]; rfl

set_option maxHeartbeats 2000000 in
theorem number_any (W : World) (B p : Nat) (s : ByteArray) (a : Nat) (ln cl : Int) (ov bv : Value) (toks : List Tok) (bads : List (Int × Int × Int)) (h : Sc W B p s a ln cl ov bv toks bads)
    (ha : a ≤ s.size) (hs : s.size ≤ 8192) (hn : toks.length ≤ 100000) (hm : bads.length ≤ 100000) (hB : B ≤ W.heap.size) (h0 : 0 ≤ cl) (h1 : cl ≤ 100000) :
    Calls Tryz.prog 77 #[.pointer (some ⟨p, 0, none⟩)] W fun e w' => e = .returned (.tuple #[]) ∧
      ∃ ov' bv' bads' u, u.data.toList = (s.data.toList.drop a).takeWhile digit ∧ Sc w' B p s (a + u.size) ln (cl + u.size) ov' bv' (toks ++ [⟨2, u, if 1073741823 < numFrom 0 u.data.toList then 0 else numFrom 0 u.data.toList, ln, cl⟩]) bads' ∧
        bads' = bads ++ (if 1073741823 < numFrom 0 u.data.toList then [(4, ln, cl)] else []) ∧ Below B W w' := by
  obtain ⟨u, hu⟩ : ∃ u, s.extract a (a + ((s.data.toList.drop a).takeWhile digit).length) = u := ⟨_, rfl⟩
  have hud := cut_tw s a digit
  rw [hu] at hud
  have eg : Enters Tryz.prog 76 := enters_of Tryz.func76 (by kernel_rfl) rfl
  have HR := Lib.hid (run_any W p s a _ _ _ _ h.blk ha hs 76 digit eg (fun c V => digit_any c V))
  rw [hu] at HR
  have husz : u.size ≤ 8192 := by
    rw [Lib.size_eq, hud]
    have := tw_le (p := digit) (s.data.toList.drop a)
    rw [List.length_drop, ← Lib.size_eq] at this; omega
  have hall : u.data.toList.all digit = true := by rw [hud]; exact List.all_takeWhile
  have hbd := numFrom_bd u.data.toList 0 (by omega) (by omega) hall
  have HSc := Lib.hid h
  obtain ⟨N, hN⟩ : ∃ N, numFrom 0 u.data.toList = N := ⟨_, rfl⟩
  rw [hN] at hbd
  have husl : u.data.toList.length = u.size := (Lib.size_eq u).symm
  have us : (u.size : Int) ≤ 8192 := by omega
  clear eg hu
  go_enter Tryz.func77, Tryz.ntmps77
  go_wp2_with fail
  with_reducible refine HR.out.mono ?_
  rintro e V ⟨rfl, hkV⟩
  go_wp2_with fail
  go_loopw [3, 9] (fun n i wr => ∃ (k : Nat), ∃ q : Int, k ≤ u.size ∧ i = .int .i64 k ∧ n = .int .i64 q ∧ V = wr ∧ 0 ≤ q ∧ q ≤ 1073741824 ∧ Hid (N = numFrom q (u.data.toList.drop k))) (fun _ i _ => u.size - (intOf i).toNat)
  case atStart => exact ⟨0, 0, Nat.zero_le _, rfl, rfl, rfl, by omega, by omega, hN.symm⟩
  case round =>
    obtain ⟨k, q, hk, rfl, rfl, rfl, q0, q1, hno⟩ := hrel
    by_cases hlt : k < u.size
    · have k0 : (0 : Int) ≤ (k : Int) := by omega
      have k1 : (k : Int) < (u.size : Int) := by omega
      have hst := num_step q u.data.toList k (by omega)
      have hget : u.data.toList[k]'(by omega) = u[k] := by rw [Array.getElem_toList]; rfl
      rw [hget] at hst
      have hdg : digit u[k] = true := by rw [← hget]; exact List.all_eq_true.1 hall _ (List.getElem_mem _)
      have hc0 : 48 ≤ u[k].toNat ∧ u[k].toNat ≤ 57 := by simp [digit] at hdg; omega
      have c0 : (48 : Int) ≤ (u[k].toNat : Int) := by omega
      have c1 : (u[k].toNat : Int) ≤ 57 := by omega
      have HE := Lib.hid (hno.out.trans hst)
      have r0 : (0 : Int) ≤ q * 10 := by omega
      have r1 : q * 10 ≤ 10737418240 := by omega
      have r2 : (0 : Int) ≤ (u[k].toNat : Int) - 48 := by omega
      have r3 : (u[k].toNat : Int) - 48 ≤ 9 := by omega
      have r4 : (0 : Int) ≤ q * 10 + ((u[k].toNat : Int) - 48) := by omega
      have r5 : q * 10 + ((u[k].toNat : Int) - 48) ≤ 10737418249 := by omega
      clear hst hget hdg hc0 hno
      go_wp2_with fail
      go_roundw
      case rel => exact ⟨k + 1, _, by omega, by go_num, rfl, by trivial, by omega, by omega, HE.out⟩
      case measure => simp [intOf]; omega
    · have k1 : ¬ (k : Int) < (u.size : Int) := by omega
      have hNq : N = q := by rw [hno.out, List.drop_eq_nil_of_le (by omega)]; rfl
      have hScV := HSc.out.keeps hkV
      have hBV : B ≤ V.heap.size := Nat.le_trans hB hkV.size
      have hbV := hkV.below (fun _ h => h.elim) hB
      have HN := Lib.hid hN
      have HUD := Lib.hid hud
      obtain rfl : q = N := hNq.symm
      clear hno hNq hN hud hall hbd
      by_cases hbig : 1073741823 < q
      · have HFa := Lib.hid (fail_any V B p s a ln cl ov bv toks bads hScV 4 hm hBV)
        go_wp2_with fail
        with_reducible refine HFa.out.mono ?_
        rintro e V1 ⟨rfl, bv', hS1, hb1⟩
        have HP := Lib.hid (put_any V1 B p s a ln cl ov bv' toks _ hS1 2 0 u hn (Nat.le_trans hBV hb1.size) husz ⟨by omega, h0⟩ ⟨by omega, h1⟩)
        go_wp2_with fail
        with_reducible refine HP.out.mono ?_
        rintro e V2 ⟨rfl, ov', hS2, hb2⟩
        go_wp2_with fail
        go_end0
        refine ⟨rfl, ov', bv', _, u, HUD.out, ?_, rfl, (hbV.trans hb1).trans hb2⟩
        rw [HN.out, if_pos hbig, if_pos hbig]
        exact hS2
      · have hnb : ¬ (1073741823 < q) := hbig
        have HP := Lib.hid (put_any V B p s a ln cl ov bv toks bads hScV 2 q u hn hBV husz ⟨by omega, h0⟩ ⟨by omega, h1⟩)
        go_wp2_with fail
        with_reducible refine HP.out.mono ?_
        rintro e V2 ⟨rfl, ov', hS2, hb2⟩
        go_wp2_with fail
        go_end0
        refine ⟨rfl, ov', bv, _, u, HUD.out, ?_, rfl, hbV.trans hb2⟩
        rw [HN.out, if_neg (by omega), if_neg (by omega), List.append_nil]
        exact hS2

def dashB (u : Bs) : Bool := (Lib.trimB u 45).isEmpty

def tokOf (o : Option (Int × Bs × Int)) (ln cl : Int) : List Tok := match o with
  | none => []
  | some (k, u, n) => [⟨k, ⟨u.toArray⟩, n, ln, cl⟩]

def Stepped (W : World) (B p : Nat) (s : ByteArray) (a : Nat) (ln cl : Int) (toks : List Tok) (bads : List (Int × Int × Int)) (c : UInt8) (t : Bs) (w' : World) : Prop :=
  Below B W w' ∧ ∃ ov' bv' bads', (∀ x ∈ bads', x ∈ bads ∨ (x.1 ≠ 0 ∧ x.2 = (ln, cl))) ∧
    if c = 10 then Sc w' B p s ((a : Int) + 1) (ln + 1) 1 ov' bv' toks bads' ∧ bads'.length = bads.length
    else Sc w' B p s ((a : Int) + (item kwB dashB c t).len) ln (cl + (item kwB dashB c t).len) ov' bv' (toks ++ tokOf (item kwB dashB c t).tok ln cl) bads' ∧ bads'.length = bads.length + (if (item kwB dashB c t).bad then 1 else 0)


set_option linter.unusedVariables false in
set_option maxRecDepth 100000 in
set_option maxHeartbeats 4000000 in
theorem step_nl (W : World) (B p : Nat) (s : ByteArray) (a : Nat) (ln cl : Int) (ov bv : Value) (toks : List Tok) (bads : List (Int × Int × Int)) (h : Sc W B p s a ln cl ov bv toks bads) (m : Int)
    (hL : Lim W B m) (ha : a < s.size) (hs : s.size ≤ 8192) (hn : toks.length ≤ 100000) (hm : bads.length ≤ 90000) (hB : B ≤ W.heap.size) (h0 : 0 ≤ ln ∧ 0 ≤ cl) (h1 : ln ≤ 90000 ∧ cl ≤ 20000) (c : UInt8) (t : Bs) (hct : s.data.toList.drop a = c :: t)
    (hc : c = 10)
    : Calls Tryz.prog 35 #[.pointer (some ⟨p, 0, none⟩)] W fun e w' => e = .returned (.tuple #[]) ∧ Stepped W B p s a ln cl toks bads c t w' := by
  have e0 := h.blk.cell (i := 0) rfl
  have e1 := h.blk.cell (i := 1) rfl
  have hget : s[a] = c := by
    have h2 : (s.data.toList.drop a)[0]? = some c := by rw [hct]; rfl
    rw [List.getElem?_drop, Nat.add_zero, Array.getElem?_toList, Array.getElem?_eq_getElem (show a < s.data.size from ha)] at h2
    exact Option.some.inj h2
  have q0 : (0 : Int) ≤ (a : Int) := by omega
  have q1 : (a : Int) < (s.size : Int) := by omega
  have q2 : (s.size : Int) ≤ 8192 := by omega
  have hbyte : ((s[a].toNat : Nat) : Int) = ((c.toNat : Nat) : Int) := by rw [hget]
  have hal : a ≤ s.size := Nat.le_of_lt ha
  go_enter Tryz.func35, Tryz.ntmps35
  go_wp2_with fail
  go_quiet (fail)
  obtain ⟨V, hV⟩ : ∃ V, W.drewN nq = V := ⟨_, rfl⟩
  have hkV : Keeps (fun _ => False) W V := by rw [← hV]; exact (Keeps.refl _ _).drewN _
  rw [hV]
  have hSV := h.keeps hkV
  have hbV := hkV.below (fun _ h => h.elim) hB
  have hBV : B ≤ V.heap.size := Nat.le_trans hB hkV.size
  have hLV := hL.later hbV
  clear hV hget e0 e1
  have d2 := hSV.blk.cell (i := 2) rfl
  have d1 := hSV.blk.cell (i := 1) rfl
  have d3 := hSV.blk.cell (i := 3) rfl
  have f1 := hSV.blk.free 1
  have f2 := hSV.blk.free 2
  have f3 := hSV.blk.free 3
  obtain ⟨l0, c0⟩ := h0
  obtain ⟨l1, c1⟩ := h1
  subst hc
  go_wp2_with fail
  go_region
  all_goals
    go_wp2_with fail
    go_end0
    have hk3 : Keeps (fun j => j = p) V (((V.setCell ⟨p, 1, none⟩ (.int .i64 ((a : Int) + 1))).setCell ⟨p, 2, none⟩ (.int .i64 (ln + 1))).setCell ⟨p, 3, none⟩ (.int .i64 1)).drew :=
      ((((Keeps.refl (fun j => j = p) V).setCell (p := ⟨p, 1, none⟩) (fun _ => rfl) _).setCell (p := ⟨p, 2, none⟩) (fun _ => rfl) _).setCell (p := ⟨p, 3, none⟩) (fun _ => rfl) _).drew
    have hb3 := (((hSV.blk.set_ 1 (.int .i64 ((a : Int) + 1))).set_ 2 (.int .i64 (ln + 1))).set_ 3 (.int .i64 1)).drew
    refine ⟨rfl, hbV.trans (hk3.below (fun j hj => by rw [hj]; exact h.low) hBV), ov, bv, bads, fun x hx => .inl hx, ?_⟩
    rw [if_pos rfl]
    exact ⟨hSV.reblk hk3 hb3, rfl⟩


set_option linter.unusedVariables false in
set_option maxRecDepth 100000 in
set_option maxHeartbeats 4000000 in
theorem step_sp (W : World) (B p : Nat) (s : ByteArray) (a : Nat) (ln cl : Int) (ov bv : Value) (toks : List Tok) (bads : List (Int × Int × Int)) (h : Sc W B p s a ln cl ov bv toks bads) (m : Int)
    (hL : Lim W B m) (ha : a < s.size) (hs : s.size ≤ 8192) (hn : toks.length ≤ 100000) (hm : bads.length ≤ 90000) (hB : B ≤ W.heap.size) (h0 : 0 ≤ ln ∧ 0 ≤ cl) (h1 : ln ≤ 90000 ∧ cl ≤ 20000) (c : UInt8) (t : Bs) (hct : s.data.toList.drop a = c :: t)
    (hc : c ≠ 10)
    (hc2 : c = 32)
    : Calls Tryz.prog 35 #[.pointer (some ⟨p, 0, none⟩)] W fun e w' => e = .returned (.tuple #[]) ∧ Stepped W B p s a ln cl toks bads c t w' := by
  have e0 := h.blk.cell (i := 0) rfl
  have e1 := h.blk.cell (i := 1) rfl
  have hget : s[a] = c := by
    have h2 : (s.data.toList.drop a)[0]? = some c := by rw [hct]; rfl
    rw [List.getElem?_drop, Nat.add_zero, Array.getElem?_toList, Array.getElem?_eq_getElem (show a < s.data.size from ha)] at h2
    exact Option.some.inj h2
  have q0 : (0 : Int) ≤ (a : Int) := by omega
  have q1 : (a : Int) < (s.size : Int) := by omega
  have q2 : (s.size : Int) ≤ 8192 := by omega
  have hbyte : ((s[a].toNat : Nat) : Int) = ((c.toNat : Nat) : Int) := by rw [hget]
  have hal : a ≤ s.size := Nat.le_of_lt ha
  go_enter Tryz.func35, Tryz.ntmps35
  go_wp2_with fail
  go_quiet (fail)
  obtain ⟨V, hV⟩ : ∃ V, W.drewN nq = V := ⟨_, rfl⟩
  have hkV : Keeps (fun _ => False) W V := by rw [← hV]; exact (Keeps.refl _ _).drewN _
  rw [hV]
  have hSV := h.keeps hkV
  have hbV := hkV.below (fun _ h => h.elim) hB
  have hBV : B ≤ V.heap.size := Nat.le_trans hB hkV.size
  have hLV := hL.later hbV
  clear hV hget e0 e1
  have hit : item kwB dashB c t = ⟨1, none, false⟩ := by unfold item; rw [if_pos hc2]
  have HSk := Lib.hid (skip_any V B p s a ln cl ov bv toks bads hSV 1 ⟨by omega, h0.2, by omega⟩ ⟨by omega, by omega, by omega⟩ hBV)
  have hcc : ((c.toNat : Nat) : Int) = 32 := by rw [hc2]; rfl
  go_wp2_with fail
  with_reducible refine HSk.out.mono ?_
  rintro e w3 ⟨rfl, hS3, hb3⟩
  go_wp2_with fail
  go_end0
  refine ⟨rfl, hbV.trans hb3, ov, bv, bads, fun x hx => .inl hx, ?_⟩
  rw [if_neg hc, hit]
  exact ⟨by simpa [tokOf] using hS3, by simp⟩


set_option linter.unusedVariables false in
set_option maxRecDepth 100000 in
set_option maxHeartbeats 4000000 in
theorem step_small (W : World) (B p : Nat) (s : ByteArray) (a : Nat) (ln cl : Int) (ov bv : Value) (toks : List Tok) (bads : List (Int × Int × Int)) (h : Sc W B p s a ln cl ov bv toks bads) (m : Int)
    (hL : Lim W B m) (ha : a < s.size) (hs : s.size ≤ 8192) (hn : toks.length ≤ 100000) (hm : bads.length ≤ 90000) (hB : B ≤ W.heap.size) (h0 : 0 ≤ ln ∧ 0 ≤ cl) (h1 : ln ≤ 90000 ∧ cl ≤ 20000) (c : UInt8) (t : Bs) (hct : s.data.toList.drop a = c :: t)
    (hc : c ≠ 10)
    (hc2 : c ≠ 32)
    (hsmall : small c = true)
    : Calls Tryz.prog 35 #[.pointer (some ⟨p, 0, none⟩)] W fun e w' => e = .returned (.tuple #[]) ∧ Stepped W B p s a ln cl toks bads c t w' := by
  have e0 := h.blk.cell (i := 0) rfl
  have e1 := h.blk.cell (i := 1) rfl
  have hget : s[a] = c := by
    have h2 : (s.data.toList.drop a)[0]? = some c := by rw [hct]; rfl
    rw [List.getElem?_drop, Nat.add_zero, Array.getElem?_toList, Array.getElem?_eq_getElem (show a < s.data.size from ha)] at h2
    exact Option.some.inj h2
  have q0 : (0 : Int) ≤ (a : Int) := by omega
  have q1 : (a : Int) < (s.size : Int) := by omega
  have q2 : (s.size : Int) ≤ 8192 := by omega
  have hbyte : ((s[a].toNat : Nat) : Int) = ((c.toNat : Nat) : Int) := by rw [hget]
  have hal : a ≤ s.size := Nat.le_of_lt ha
  have n10 : (((c.toNat : Nat) : Int) == 10) = false := beq_eq_false_iff_ne.2 fun e => hc (UInt8.toNat_inj.1 (by rw [show (10 : UInt8).toNat = 10 from rfl]; omega))
  have n32 : (((c.toNat : Nat) : Int) == 32) = false := beq_eq_false_iff_ne.2 fun e => hc2 (UInt8.toNat_inj.1 (by rw [show (32 : UInt8).toNat = 32 from rfl]; omega))
  have Hsmall := Lib.hid (fun (V : World) => small_any c V)
  rw [hsmall] at Hsmall
  go_enter Tryz.func35, Tryz.ntmps35
  go_wp2_with fail
  go_quiet (fail)
  obtain ⟨V, hV⟩ : ∃ V, W.drewN nq = V := ⟨_, rfl⟩
  have hkV : Keeps (fun _ => False) W V := by rw [← hV]; exact (Keeps.refl _ _).drewN _
  rw [hV]
  have hSV := h.keeps hkV
  have hbV := hkV.below (fun _ h => h.elim) hB
  have hBV : B ≤ V.heap.size := Nat.le_trans hB hkV.size
  have hLV := hL.later hbV
  clear hV hget e0 e1
  obtain ⟨u, hu⟩ : ∃ u, s.extract a (a + ((s.data.toList.drop a).takeWhile inner).length) = u := ⟨_, rfl⟩
  have hud := cut_tw s a inner
  have husz := cut_size s a inner
  rw [hu] at hud husz
  have hule : u.size ≤ 8192 := by
    rw [husz]
    have := tw_le (p := inner) (s.data.toList.drop a)
    rw [List.length_drop, ← Lib.size_eq] at this; omega
  have eg : Enters Tryz.prog 74 := enters_of Tryz.func74 (by kernel_rfl) rfl
  have HR := Lib.hid (run_any V p s a _ _ _ _ hSV.blk hal hs 74 inner eg (fun c V => inner_any c V))
  rw [hu] at HR
  rw [hct] at hud
  clear eg hu
  have hit : item kwB dashB c t = ⟨u.size, some (if kwB u.data.toList then 4 else 0, u.data.toList, 0), false⟩ := by
    unfold item; rw [if_neg hc2, if_pos hsmall, hud, husz, hct]
  go_wp2_with fail
  with_reducible refine (Hsmall.out _).mono ?_
  rintro e w9 ⟨rfl, rfl⟩
  go_wp2_with fail
  with_reducible refine HR.out.mono ?_
  rintro e V2 ⟨rfl, hk2⟩
  have hS2 := hSV.keeps hk2
  have hB2 : B ≤ V2.heap.size := Nat.le_trans hBV hk2.size
  have hb2 := hk2.below (fun _ h => h.elim) hBV
  have hL2 := hLV.later hb2
  have HW := Lib.hid (word_any V2 B p s a ln cl ov bv toks bads hS2 0 m u hL2 hn hB2 hule ⟨by omega, h0.2⟩ ⟨by omega, by omega⟩)
  go_wp2_with fail
  with_reducible refine HW.out.mono ?_
  rintro e V3 ⟨rfl, ov', hS3, hb3⟩
  go_wp2_with fail
  go_end0
  refine ⟨rfl, (hbV.trans hb2).trans hb3, ov', bv, bads, fun x hx => .inl hx, ?_⟩
  rw [if_neg hc, hit]
  exact ⟨hS3, by simp⟩


set_option linter.unusedVariables false in
set_option maxRecDepth 100000 in
set_option maxHeartbeats 4000000 in
theorem step_large (W : World) (B p : Nat) (s : ByteArray) (a : Nat) (ln cl : Int) (ov bv : Value) (toks : List Tok) (bads : List (Int × Int × Int)) (h : Sc W B p s a ln cl ov bv toks bads) (m : Int)
    (hL : Lim W B m) (ha : a < s.size) (hs : s.size ≤ 8192) (hn : toks.length ≤ 100000) (hm : bads.length ≤ 90000) (hB : B ≤ W.heap.size) (h0 : 0 ≤ ln ∧ 0 ≤ cl) (h1 : ln ≤ 90000 ∧ cl ≤ 20000) (c : UInt8) (t : Bs) (hct : s.data.toList.drop a = c :: t)
    (hc : c ≠ 10)
    (hc2 : c ≠ 32)
    (hsmall : small c = false)
    (hlarge : large c = true)
    : Calls Tryz.prog 35 #[.pointer (some ⟨p, 0, none⟩)] W fun e w' => e = .returned (.tuple #[]) ∧ Stepped W B p s a ln cl toks bads c t w' := by
  have e0 := h.blk.cell (i := 0) rfl
  have e1 := h.blk.cell (i := 1) rfl
  have hget : s[a] = c := by
    have h2 : (s.data.toList.drop a)[0]? = some c := by rw [hct]; rfl
    rw [List.getElem?_drop, Nat.add_zero, Array.getElem?_toList, Array.getElem?_eq_getElem (show a < s.data.size from ha)] at h2
    exact Option.some.inj h2
  have q0 : (0 : Int) ≤ (a : Int) := by omega
  have q1 : (a : Int) < (s.size : Int) := by omega
  have q2 : (s.size : Int) ≤ 8192 := by omega
  have hbyte : ((s[a].toNat : Nat) : Int) = ((c.toNat : Nat) : Int) := by rw [hget]
  have hal : a ≤ s.size := Nat.le_of_lt ha
  have n10 : (((c.toNat : Nat) : Int) == 10) = false := beq_eq_false_iff_ne.2 fun e => hc (UInt8.toNat_inj.1 (by rw [show (10 : UInt8).toNat = 10 from rfl]; omega))
  have n32 : (((c.toNat : Nat) : Int) == 32) = false := beq_eq_false_iff_ne.2 fun e => hc2 (UInt8.toNat_inj.1 (by rw [show (32 : UInt8).toNat = 32 from rfl]; omega))
  have Hsmall := Lib.hid (fun (V : World) => small_any c V)
  rw [hsmall] at Hsmall
  have Hlarge := Lib.hid (fun (V : World) => large_any c V)
  rw [hlarge] at Hlarge
  go_enter Tryz.func35, Tryz.ntmps35
  go_wp2_with fail
  go_quiet (fail)
  obtain ⟨V, hV⟩ : ∃ V, W.drewN nq = V := ⟨_, rfl⟩
  have hkV : Keeps (fun _ => False) W V := by rw [← hV]; exact (Keeps.refl _ _).drewN _
  rw [hV]
  have hSV := h.keeps hkV
  have hbV := hkV.below (fun _ h => h.elim) hB
  have hBV : B ≤ V.heap.size := Nat.le_trans hB hkV.size
  have hLV := hL.later hbV
  clear hV hget e0 e1
  obtain ⟨u, hu⟩ : ∃ u, s.extract a (a + ((s.data.toList.drop a).takeWhile inner).length) = u := ⟨_, rfl⟩
  have hud := cut_tw s a inner
  have husz := cut_size s a inner
  rw [hu] at hud husz
  have hule : u.size ≤ 8192 := by
    rw [husz]
    have := tw_le (p := inner) (s.data.toList.drop a)
    rw [List.length_drop, ← Lib.size_eq] at this; omega
  have eg : Enters Tryz.prog 74 := enters_of Tryz.func74 (by kernel_rfl) rfl
  have HR := Lib.hid (run_any V p s a _ _ _ _ hSV.blk hal hs 74 inner eg (fun c V => inner_any c V))
  rw [hu] at HR
  rw [hct] at hud
  clear eg hu
  have hit : item kwB dashB c t = ⟨u.size, some (1, u.data.toList, 0), false⟩ := by
    unfold item; rw [if_neg hc2, if_neg (by rw [hsmall]; decide), if_pos hlarge, hud, husz, hct]
  go_wp2_with fail
  with_reducible refine (Hsmall.out _).mono ?_
  rintro e w9 ⟨rfl, rfl⟩
  go_wp2_with fail
  with_reducible refine (Hlarge.out _).mono ?_
  rintro e w9 ⟨rfl, rfl⟩
  go_wp2_with fail
  with_reducible refine HR.out.mono ?_
  rintro e V2 ⟨rfl, hk2⟩
  have hS2 := hSV.keeps hk2
  have hB2 : B ≤ V2.heap.size := Nat.le_trans hBV hk2.size
  have hb2 := hk2.below (fun _ h => h.elim) hBV
  have hL2 := hLV.later hb2
  have HW := Lib.hid (put_any V2 B p s a ln cl ov bv toks bads hS2 1 0 u hn hB2 hule ⟨by omega, h0.2⟩ ⟨by omega, by omega⟩)
  go_wp2_with fail
  with_reducible refine HW.out.mono ?_
  rintro e V3 ⟨rfl, ov', hS3, hb3⟩
  go_wp2_with fail
  go_end0
  refine ⟨rfl, (hbV.trans hb2).trans hb3, ov', bv, bads, fun x hx => .inl hx, ?_⟩
  rw [if_neg hc, hit]
  exact ⟨hS3, by simp⟩


set_option linter.unusedVariables false in
set_option maxRecDepth 100000 in
set_option maxHeartbeats 4000000 in
theorem step_digit (W : World) (B p : Nat) (s : ByteArray) (a : Nat) (ln cl : Int) (ov bv : Value) (toks : List Tok) (bads : List (Int × Int × Int)) (h : Sc W B p s a ln cl ov bv toks bads) (m : Int)
    (hL : Lim W B m) (ha : a < s.size) (hs : s.size ≤ 8192) (hn : toks.length ≤ 100000) (hm : bads.length ≤ 90000) (hB : B ≤ W.heap.size) (h0 : 0 ≤ ln ∧ 0 ≤ cl) (h1 : ln ≤ 90000 ∧ cl ≤ 20000) (c : UInt8) (t : Bs) (hct : s.data.toList.drop a = c :: t)
    (hc : c ≠ 10)
    (hc2 : c ≠ 32)
    (hsmall : small c = false)
    (hlarge : large c = false)
    (hdigit : digit c = true)
    : Calls Tryz.prog 35 #[.pointer (some ⟨p, 0, none⟩)] W fun e w' => e = .returned (.tuple #[]) ∧ Stepped W B p s a ln cl toks bads c t w' := by
  have e0 := h.blk.cell (i := 0) rfl
  have e1 := h.blk.cell (i := 1) rfl
  have hget : s[a] = c := by
    have h2 : (s.data.toList.drop a)[0]? = some c := by rw [hct]; rfl
    rw [List.getElem?_drop, Nat.add_zero, Array.getElem?_toList, Array.getElem?_eq_getElem (show a < s.data.size from ha)] at h2
    exact Option.some.inj h2
  have q0 : (0 : Int) ≤ (a : Int) := by omega
  have q1 : (a : Int) < (s.size : Int) := by omega
  have q2 : (s.size : Int) ≤ 8192 := by omega
  have hbyte : ((s[a].toNat : Nat) : Int) = ((c.toNat : Nat) : Int) := by rw [hget]
  have hal : a ≤ s.size := Nat.le_of_lt ha
  have n10 : (((c.toNat : Nat) : Int) == 10) = false := beq_eq_false_iff_ne.2 fun e => hc (UInt8.toNat_inj.1 (by rw [show (10 : UInt8).toNat = 10 from rfl]; omega))
  have n32 : (((c.toNat : Nat) : Int) == 32) = false := beq_eq_false_iff_ne.2 fun e => hc2 (UInt8.toNat_inj.1 (by rw [show (32 : UInt8).toNat = 32 from rfl]; omega))
  have Hsmall := Lib.hid (fun (V : World) => small_any c V)
  rw [hsmall] at Hsmall
  have Hlarge := Lib.hid (fun (V : World) => large_any c V)
  rw [hlarge] at Hlarge
  have Hdigit := Lib.hid (fun (V : World) => digit_any c V)
  rw [hdigit] at Hdigit
  go_enter Tryz.func35, Tryz.ntmps35
  go_wp2_with fail
  go_quiet (fail)
  obtain ⟨V, hV⟩ : ∃ V, W.drewN nq = V := ⟨_, rfl⟩
  have hkV : Keeps (fun _ => False) W V := by rw [← hV]; exact (Keeps.refl _ _).drewN _
  rw [hV]
  have hSV := h.keeps hkV
  have hbV := hkV.below (fun _ h => h.elim) hB
  have hBV : B ≤ V.heap.size := Nat.le_trans hB hkV.size
  have hLV := hL.later hbV
  clear hV hget e0 e1
  have HNu := Lib.hid (number_any V B p s a ln cl ov bv toks bads hSV hal hs hn (by omega) hBV h0.2 (by omega))
  go_wp2_with fail
  with_reducible refine (Hsmall.out _).mono ?_
  rintro e w9 ⟨rfl, rfl⟩
  go_wp2_with fail
  with_reducible refine (Hlarge.out _).mono ?_
  rintro e w9 ⟨rfl, rfl⟩
  go_wp2_with fail
  with_reducible refine (Hdigit.out _).mono ?_
  rintro e w9 ⟨rfl, rfl⟩
  go_wp2_with fail
  with_reducible refine HNu.out.mono ?_
  rintro e V3 ⟨rfl, ov', bv', bads', u, hud, hS3, hbd, hb3⟩
  go_wp2_with fail
  go_end0
  rw [hct] at hud
  have husz : u.size = ((c :: t).takeWhile digit).length := by rw [Lib.size_eq, hud]
  by_cases hbig : 1073741823 < numFrom 0 u.data.toList
  · have hit : item kwB dashB c t = ⟨u.size, some (2, u.data.toList, 0), true⟩ := by
      unfold item; rw [if_neg hc2, if_neg (by rw [hsmall]; decide), if_neg (by rw [hlarge]; decide), if_pos hdigit]
      dsimp only
      rw [← hud, if_pos hbig, ← Lib.size_eq]
    rw [if_pos hbig] at hS3 hbd
    refine ⟨rfl, hbV.trans hb3, ov', bv', bads', fun x hx => ?_, ?_⟩
    · rw [hbd] at hx
      rcases List.mem_append.1 hx with hx | hx
      · exact .inl hx
      · rw [List.mem_singleton.1 hx]; exact .inr ⟨show (4 : Int) ≠ 0 by decide, rfl⟩
    · rw [if_neg hc, hit]
      exact ⟨hS3, by rw [hbd]; simp⟩
  · have hit : item kwB dashB c t = ⟨u.size, some (2, u.data.toList, numFrom 0 u.data.toList), false⟩ := by
      unfold item; rw [if_neg hc2, if_neg (by rw [hsmall]; decide), if_neg (by rw [hlarge]; decide), if_pos hdigit]
      dsimp only
      rw [← hud, if_neg hbig, ← Lib.size_eq]
    rw [if_neg hbig] at hS3 hbd
    refine ⟨rfl, hbV.trans hb3, ov', bv', bads', fun x hx => by rw [hbd, List.append_nil] at hx; exact .inl hx, ?_⟩
    rw [if_neg hc, hit]
    exact ⟨hS3, by rw [hbd]; simp⟩


set_option linter.unusedVariables false in
set_option maxRecDepth 100000 in
set_option maxHeartbeats 4000000 in
theorem step_punct (W : World) (B p : Nat) (s : ByteArray) (a : Nat) (ln cl : Int) (ov bv : Value) (toks : List Tok) (bads : List (Int × Int × Int)) (h : Sc W B p s a ln cl ov bv toks bads) (m : Int)
    (hL : Lim W B m) (ha : a < s.size) (hs : s.size ≤ 8192) (hn : toks.length ≤ 100000) (hm : bads.length ≤ 90000) (hB : B ≤ W.heap.size) (h0 : 0 ≤ ln ∧ 0 ≤ cl) (h1 : ln ≤ 90000 ∧ cl ≤ 20000) (c : UInt8) (t : Bs) (hct : s.data.toList.drop a = c :: t)
    (hc : c ≠ 10)
    (hc2 : c ≠ 32)
    (hsmall : small c = false)
    (hlarge : large c = false)
    (hdigit : digit c = false)
    (hpunct : punct c = true)
    : Calls Tryz.prog 35 #[.pointer (some ⟨p, 0, none⟩)] W fun e w' => e = .returned (.tuple #[]) ∧ Stepped W B p s a ln cl toks bads c t w' := by
  have e0 := h.blk.cell (i := 0) rfl
  have e1 := h.blk.cell (i := 1) rfl
  have hget : s[a] = c := by
    have h2 : (s.data.toList.drop a)[0]? = some c := by rw [hct]; rfl
    rw [List.getElem?_drop, Nat.add_zero, Array.getElem?_toList, Array.getElem?_eq_getElem (show a < s.data.size from ha)] at h2
    exact Option.some.inj h2
  have q0 : (0 : Int) ≤ (a : Int) := by omega
  have q1 : (a : Int) < (s.size : Int) := by omega
  have q2 : (s.size : Int) ≤ 8192 := by omega
  have hbyte : ((s[a].toNat : Nat) : Int) = ((c.toNat : Nat) : Int) := by rw [hget]
  have hal : a ≤ s.size := Nat.le_of_lt ha
  have n10 : (((c.toNat : Nat) : Int) == 10) = false := beq_eq_false_iff_ne.2 fun e => hc (UInt8.toNat_inj.1 (by rw [show (10 : UInt8).toNat = 10 from rfl]; omega))
  have n32 : (((c.toNat : Nat) : Int) == 32) = false := beq_eq_false_iff_ne.2 fun e => hc2 (UInt8.toNat_inj.1 (by rw [show (32 : UInt8).toNat = 32 from rfl]; omega))
  have Hsmall := Lib.hid (fun (V : World) => small_any c V)
  rw [hsmall] at Hsmall
  have Hlarge := Lib.hid (fun (V : World) => large_any c V)
  rw [hlarge] at Hlarge
  have Hdigit := Lib.hid (fun (V : World) => digit_any c V)
  rw [hdigit] at Hdigit
  obtain ⟨ix, hix⟩ : ∃ ix, Lib.indexByte puncts c = ix := ⟨_, rfl⟩
  have Hpunct := Lib.hid (fun (V : World) => (Tryz.strings_IndexByte ⟨puncts.toArray⟩ (c.toNat : Int) V).mono (R' := fun e w' => e = .returned (.int .i64 ix) ∧ V = w') fun e w' ⟨he, hw⟩ => ⟨by rw [he]; simp [hix], hw.symm⟩)
  have hpx : punct c = decide (0 ≤ ix) := by unfold punct; rw [hix]
  rw [hpunct] at hpx
  have hix2 : 0 ≤ ix := by simpa using hpx.symm
  clear hpx
  go_enter Tryz.func35, Tryz.ntmps35
  go_wp2_with fail
  go_quiet (fail)
  obtain ⟨V, hV⟩ : ∃ V, W.drewN nq = V := ⟨_, rfl⟩
  have hkV : Keeps (fun _ => False) W V := by rw [← hV]; exact (Keeps.refl _ _).drewN _
  rw [hV]
  have hSV := h.keeps hkV
  have hbV := hkV.below (fun _ h => h.elim) hB
  have hBV : B ≤ V.heap.size := Nat.le_trans hB hkV.size
  have hLV := hL.later hbV
  clear hV hget e0 e1
  have hit : item kwB dashB c t = ⟨1, some (5, [c], 0), false⟩ := by
    unfold item; rw [if_neg hc2, if_neg (by rw [hsmall]; decide), if_neg (by rw [hlarge]; decide), if_neg (by rw [hdigit]; decide), if_pos hpunct]
  have hq1 : (0 : Int) ≤ (a : Int) + 1 := by omega
  have hq2 : (a : Int) + 1 ≤ (s.size : Int) := by omega
  have hq4 : (a : Int) ≤ (a : Int) + 1 := by omega
  have hq3 : IntKind.i64.wrap ((a : Int) + 1) = (a : Int) + 1 := by simp [IntKind.wrap, IntKind.signed, IntKind.bits]; omega
  have hud : (s.extract a (a + 1)).data.toList = [c] := by rw [cut_data, hct]; rfl
  have husz : (s.extract a (a + 1)).size = 1 := by rw [Lib.size_eq, hud]; rfl
  have HP := Lib.hid (fun (X : World) (hk : Keeps (fun _ => False) V X) => put_any X B p s a ln cl ov bv toks bads (hSV.keeps hk) 5 0 (s.extract a (a + 1)) hn (Nat.le_trans hBV hk.size) (by omega) ⟨by omega, h0.2⟩ ⟨by omega, by omega⟩)
  have d0 := hSV.blk.cell (i := 0) rfl
  have d1 := hSV.blk.cell (i := 1) rfl
  go_wp2_with fail
  with_reducible refine (Hsmall.out _).mono ?_
  rintro e w9 ⟨rfl, rfl⟩
  go_wp2_with fail
  with_reducible refine (Hlarge.out _).mono ?_
  rintro e w9 ⟨rfl, rfl⟩
  go_wp2_with fail
  with_reducible refine (Hdigit.out _).mono ?_
  rintro e w9 ⟨rfl, rfl⟩
  go_wp2_with fail
  refine (Hpunct.out _).mono ?_
  rintro e w9 ⟨rfl, rfl⟩
  go_wp2_with fail
  go_region_law (go_simp; go_at_call 36; refine (HP.out _ (by repeat (first | assumption | exact Keeps.refl _ _ | refine Keeps.drewN ?_ _ | refine Keeps.drew ?_))).mono ?_; rintro e V3 ⟨rfl, ov', hS3, hb3⟩; go_wp2_with fail)
  all_goals
    go_wp2_with fail
    go_end0
    have hb3' : Below B V V3 := ⟨hb3.os, hb3.tape, hb3.output, hb3.size, hb3.block⟩
    refine ⟨rfl, hbV.trans hb3', ov', bv, bads, fun x hx => .inl hx, ?_⟩
    rw [if_neg hc, hit]
    refine ⟨?_, by simp⟩
    rw [husz] at hS3
    have he : (⟨5, s.extract a (a + 1), 0, ln, cl⟩ : Tok) = ⟨5, ⟨[c].toArray⟩, 0, ln, cl⟩ := by rw [← hud]
    rw [he] at hS3
    exact hS3


set_option linter.unusedVariables false in
set_option maxRecDepth 100000 in
set_option maxHeartbeats 4000000 in
theorem step_dash (W : World) (B p : Nat) (s : ByteArray) (a : Nat) (ln cl : Int) (ov bv : Value) (toks : List Tok) (bads : List (Int × Int × Int)) (h : Sc W B p s a ln cl ov bv toks bads) (m : Int)
    (hL : Lim W B m) (ha : a < s.size) (hs : s.size ≤ 8192) (hn : toks.length ≤ 100000) (hm : bads.length ≤ 90000) (hB : B ≤ W.heap.size) (h0 : 0 ≤ ln ∧ 0 ≤ cl) (h1 : ln ≤ 90000 ∧ cl ≤ 20000) (c : UInt8) (t : Bs) (hct : s.data.toList.drop a = c :: t)
    (hc : c ≠ 10)
    (hc2 : c ≠ 32)
    (hsmall : small c = false)
    (hlarge : large c = false)
    (hdigit : digit c = false)
    (hpunct : punct c = false)
    (hmark : mark c = true)
    (hlong : 1 < ((c :: t).takeWhile mark).length) (hdash : dashB ((c :: t).takeWhile mark) = true)
    : Calls Tryz.prog 35 #[.pointer (some ⟨p, 0, none⟩)] W fun e w' => e = .returned (.tuple #[]) ∧ Stepped W B p s a ln cl toks bads c t w' := by
  have e0 := h.blk.cell (i := 0) rfl
  have e1 := h.blk.cell (i := 1) rfl
  have hget : s[a] = c := by
    have h2 : (s.data.toList.drop a)[0]? = some c := by rw [hct]; rfl
    rw [List.getElem?_drop, Nat.add_zero, Array.getElem?_toList, Array.getElem?_eq_getElem (show a < s.data.size from ha)] at h2
    exact Option.some.inj h2
  have q0 : (0 : Int) ≤ (a : Int) := by omega
  have q1 : (a : Int) < (s.size : Int) := by omega
  have q2 : (s.size : Int) ≤ 8192 := by omega
  have hbyte : ((s[a].toNat : Nat) : Int) = ((c.toNat : Nat) : Int) := by rw [hget]
  have hal : a ≤ s.size := Nat.le_of_lt ha
  have n10 : (((c.toNat : Nat) : Int) == 10) = false := beq_eq_false_iff_ne.2 fun e => hc (UInt8.toNat_inj.1 (by rw [show (10 : UInt8).toNat = 10 from rfl]; omega))
  have n32 : (((c.toNat : Nat) : Int) == 32) = false := beq_eq_false_iff_ne.2 fun e => hc2 (UInt8.toNat_inj.1 (by rw [show (32 : UInt8).toNat = 32 from rfl]; omega))
  have Hsmall := Lib.hid (fun (V : World) => small_any c V)
  rw [hsmall] at Hsmall
  have Hlarge := Lib.hid (fun (V : World) => large_any c V)
  rw [hlarge] at Hlarge
  have Hdigit := Lib.hid (fun (V : World) => digit_any c V)
  rw [hdigit] at Hdigit
  obtain ⟨ix, hix⟩ : ∃ ix, Lib.indexByte puncts c = ix := ⟨_, rfl⟩
  have Hpunct := Lib.hid (fun (V : World) => (Tryz.strings_IndexByte ⟨puncts.toArray⟩ (c.toNat : Int) V).mono (R' := fun e w' => e = .returned (.int .i64 ix) ∧ V = w') fun e w' ⟨he, hw⟩ => ⟨by rw [he]; simp [hix], hw.symm⟩)
  have hpx : punct c = decide (0 ≤ ix) := by unfold punct; rw [hix]
  rw [hpunct] at hpx
  have hix2 : ¬ 0 ≤ ix := by simpa using hpx.symm
  clear hpx
  have Hmark := Lib.hid (fun (V : World) => mark_any c V)
  rw [hmark] at Hmark
  go_enter Tryz.func35, Tryz.ntmps35
  go_wp2_with fail
  go_quiet (fail)
  obtain ⟨V, hV⟩ : ∃ V, W.drewN nq = V := ⟨_, rfl⟩
  have hkV : Keeps (fun _ => False) W V := by rw [← hV]; exact (Keeps.refl _ _).drewN _
  rw [hV]
  have hSV := h.keeps hkV
  have hbV := hkV.below (fun _ h => h.elim) hB
  have hBV : B ≤ V.heap.size := Nat.le_trans hB hkV.size
  have hLV := hL.later hbV
  clear hV hget e0 e1
  obtain ⟨u, hu⟩ : ∃ u, s.extract a (a + ((s.data.toList.drop a).takeWhile mark).length) = u := ⟨_, rfl⟩
  have hud := cut_tw s a mark
  have husz := cut_size s a mark
  rw [hu] at hud husz
  have hule : u.size ≤ 8192 := by
    rw [husz]
    have := tw_le (p := mark) (s.data.toList.drop a)
    rw [List.length_drop, ← Lib.size_eq] at this; omega
  have eg : Enters Tryz.prog 78 := enters_of Tryz.func78 (by kernel_rfl) rfl
  have HR := Lib.hid (run_any V p s a _ _ _ _ hSV.blk hal hs 78 mark eg (fun c V => mark_any c V))
  rw [hu] at HR
  rw [hct] at hud
  clear eg hu
  have HT := Lib.hid (fun (X : World) => (Tryz.strings_Trim_one u 45 (by decide) X (by omega)).mono (R' := fun e w' => e = .returned (.string ⟨(Lib.trimB u.data.toList 45).toArray⟩) ∧ Keeps (fun _ => False) X w') fun e w' ⟨he, hw⟩ => ⟨he, by rcases hw with hw | hw <;> rw [hw] <;> first | exact Keeps.refl _ _ | exact (Keeps.refl _ _).drew⟩)
  obtain ⟨tr, htr⟩ : ∃ tr : ByteArray, (⟨(Lib.trimB u.data.toList 45).toArray⟩ : ByteArray) = tr := ⟨_, rfl⟩
  rw [htr] at HT
  have htd : dashB u.data.toList = tr.toList.isEmpty := by rw [← htr, ByteArray.toList_eq]; simp [dashB]
  rw [hud, hdash] at htd
  have u1 : (1 : Int) < (u.size : Int) := by rw [← hct, ← husz] at hlong; omega
  have htd' : tr.toList.isEmpty = true := htd.symm
  obtain ⟨r, hr⟩ : ∃ r, s.extract a (a + ((s.data.toList.drop a).takeWhile (fun b => b != 10)).length) = r := ⟨_, rfl⟩
  have hrz := cut_size s a (fun b => b != 10)
  rw [hr] at hrz
  have hrle : r.size ≤ 8192 := by
    rw [hrz]
    have := tw_le (p := fun b => b != 10) (s.data.toList.drop a)
    rw [List.length_drop, ← Lib.size_eq] at this; omega
  have eg2 : Enters Tryz.prog 80 := enters_of Tryz.func80 (by kernel_rfl) rfl
  have HR2 := Lib.hid (fun (X : World) (hk : Keeps (fun _ => False) V X) => run_any X p s a _ _ _ _ (hSV.blk.keeps hk (fun h => h)) hal hs 80 (fun b => b != 10) eg2 (fun c V => notnl_any c V))
  rw [hr] at HR2
  have HSk := Lib.hid (fun (X : World) (hk : Keeps (fun _ => False) V X) => skip_any X B p s a ln cl ov bv toks bads (hSV.keeps hk) (r.size : Int) ⟨by omega, h0.2, by omega⟩ ⟨by omega, by omega, by omega⟩ (Nat.le_trans hBV hk.size))
  have hit : item kwB dashB c t = ⟨r.size, none, false⟩ := by
    unfold item; rw [if_neg hc2, if_neg (by rw [hsmall]; decide), if_neg (by rw [hlarge]; decide), if_neg (by rw [hdigit]; decide), if_neg (by rw [hpunct]; decide), if_pos hmark]
    dsimp only
    rw [if_pos ⟨hlong, hdash⟩, hrz, hct]
  clear eg2 hr htr htd hrz hud husz
  go_wp2_with fail
  with_reducible refine (Hsmall.out _).mono ?_
  rintro e w9 ⟨rfl, rfl⟩
  go_wp2_with fail
  with_reducible refine (Hlarge.out _).mono ?_
  rintro e w9 ⟨rfl, rfl⟩
  go_wp2_with fail
  with_reducible refine (Hdigit.out _).mono ?_
  rintro e w9 ⟨rfl, rfl⟩
  go_wp2_with fail
  refine (Hpunct.out _).mono ?_
  rintro e w9 ⟨rfl, rfl⟩
  go_wp2_with fail
  with_reducible refine (Hmark.out _).mono ?_
  rintro e w9 ⟨rfl, rfl⟩
  go_wp2_with fail
  with_reducible refine HR.out.mono ?_
  rintro e V2 ⟨rfl, hk2⟩
  go_wp2_with fail
  with_reducible refine (HT.out _).mono ?_
  rintro e V3 ⟨rfl, hk3⟩
  have hk13 := hk2.trans (X := fun _ => False) hk3 (fun _ _ h => h)
  have HR3 := Lib.hid (HR2.out V3 hk13)
  go_wp2_with fail
  with_reducible refine HR3.out.mono ?_
  rintro e V4 ⟨rfl, hk4⟩
  have hk14 := hk13.trans (X := fun _ => False) hk4 (fun _ _ h => h)
  have HS4 := Lib.hid (HSk.out V4 hk14)
  go_wp2_with fail
  with_reducible refine HS4.out.mono ?_
  rintro e V5 ⟨rfl, hS5, hb5⟩
  go_wp2_with fail
  try simp only [Exit.inBlock, Exit.then]
  refine bodyPost_ret (results_none rfl _ _ _) rfl ?_
  refine ⟨rfl, (hbV.trans (hk14.below (fun _ h => h.elim) hBV)).trans hb5, ov, bv, bads, fun x hx => .inl hx, ?_⟩
  rw [if_neg hc, hit]
  exact ⟨by simpa [tokOf] using hS5, by simp⟩


set_option linter.unusedVariables false in
set_option maxRecDepth 100000 in
set_option maxHeartbeats 4000000 in
theorem step_op1 (W : World) (B p : Nat) (s : ByteArray) (a : Nat) (ln cl : Int) (ov bv : Value) (toks : List Tok) (bads : List (Int × Int × Int)) (h : Sc W B p s a ln cl ov bv toks bads) (m : Int)
    (hL : Lim W B m) (ha : a < s.size) (hs : s.size ≤ 8192) (hn : toks.length ≤ 100000) (hm : bads.length ≤ 90000) (hB : B ≤ W.heap.size) (h0 : 0 ≤ ln ∧ 0 ≤ cl) (h1 : ln ≤ 90000 ∧ cl ≤ 20000) (c : UInt8) (t : Bs) (hct : s.data.toList.drop a = c :: t)
    (hc : c ≠ 10)
    (hc2 : c ≠ 32)
    (hsmall : small c = false)
    (hlarge : large c = false)
    (hdigit : digit c = false)
    (hpunct : punct c = false)
    (hmark : mark c = true)
    (hshort : ¬ 1 < ((c :: t).takeWhile mark).length)
    : Calls Tryz.prog 35 #[.pointer (some ⟨p, 0, none⟩)] W fun e w' => e = .returned (.tuple #[]) ∧ Stepped W B p s a ln cl toks bads c t w' := by
  have e0 := h.blk.cell (i := 0) rfl
  have e1 := h.blk.cell (i := 1) rfl
  have hget : s[a] = c := by
    have h2 : (s.data.toList.drop a)[0]? = some c := by rw [hct]; rfl
    rw [List.getElem?_drop, Nat.add_zero, Array.getElem?_toList, Array.getElem?_eq_getElem (show a < s.data.size from ha)] at h2
    exact Option.some.inj h2
  have q0 : (0 : Int) ≤ (a : Int) := by omega
  have q1 : (a : Int) < (s.size : Int) := by omega
  have q2 : (s.size : Int) ≤ 8192 := by omega
  have hbyte : ((s[a].toNat : Nat) : Int) = ((c.toNat : Nat) : Int) := by rw [hget]
  have hal : a ≤ s.size := Nat.le_of_lt ha
  have n10 : (((c.toNat : Nat) : Int) == 10) = false := beq_eq_false_iff_ne.2 fun e => hc (UInt8.toNat_inj.1 (by rw [show (10 : UInt8).toNat = 10 from rfl]; omega))
  have n32 : (((c.toNat : Nat) : Int) == 32) = false := beq_eq_false_iff_ne.2 fun e => hc2 (UInt8.toNat_inj.1 (by rw [show (32 : UInt8).toNat = 32 from rfl]; omega))
  have Hsmall := Lib.hid (fun (V : World) => small_any c V)
  rw [hsmall] at Hsmall
  have Hlarge := Lib.hid (fun (V : World) => large_any c V)
  rw [hlarge] at Hlarge
  have Hdigit := Lib.hid (fun (V : World) => digit_any c V)
  rw [hdigit] at Hdigit
  obtain ⟨ix, hix⟩ : ∃ ix, Lib.indexByte puncts c = ix := ⟨_, rfl⟩
  have Hpunct := Lib.hid (fun (V : World) => (Tryz.strings_IndexByte ⟨puncts.toArray⟩ (c.toNat : Int) V).mono (R' := fun e w' => e = .returned (.int .i64 ix) ∧ V = w') fun e w' ⟨he, hw⟩ => ⟨by rw [he]; simp [hix], hw.symm⟩)
  have hpx : punct c = decide (0 ≤ ix) := by unfold punct; rw [hix]
  rw [hpunct] at hpx
  have hix2 : ¬ 0 ≤ ix := by simpa using hpx.symm
  clear hpx
  have Hmark := Lib.hid (fun (V : World) => mark_any c V)
  rw [hmark] at Hmark
  go_enter Tryz.func35, Tryz.ntmps35
  go_wp2_with fail
  go_quiet (fail)
  obtain ⟨V, hV⟩ : ∃ V, W.drewN nq = V := ⟨_, rfl⟩
  have hkV : Keeps (fun _ => False) W V := by rw [← hV]; exact (Keeps.refl _ _).drewN _
  rw [hV]
  have hSV := h.keeps hkV
  have hbV := hkV.below (fun _ h => h.elim) hB
  have hBV : B ≤ V.heap.size := Nat.le_trans hB hkV.size
  have hLV := hL.later hbV
  clear hV hget e0 e1
  obtain ⟨u, hu⟩ : ∃ u, s.extract a (a + ((s.data.toList.drop a).takeWhile mark).length) = u := ⟨_, rfl⟩
  have hud := cut_tw s a mark
  have husz := cut_size s a mark
  rw [hu] at hud husz
  have hule : u.size ≤ 8192 := by
    rw [husz]
    have := tw_le (p := mark) (s.data.toList.drop a)
    rw [List.length_drop, ← Lib.size_eq] at this; omega
  have eg : Enters Tryz.prog 78 := enters_of Tryz.func78 (by kernel_rfl) rfl
  have HR := Lib.hid (run_any V p s a _ _ _ _ hSV.blk hal hs 78 mark eg (fun c V => mark_any c V))
  rw [hu] at HR
  rw [hct] at hud
  clear eg hu
  have hit : item kwB dashB c t = ⟨u.size, some (if kwB u.data.toList then 4 else 3, u.data.toList, 0), false⟩ := by
    unfold item; rw [if_neg hc2, if_neg (by rw [hsmall]; decide), if_neg (by rw [hlarge]; decide), if_neg (by rw [hdigit]; decide), if_neg (by rw [hpunct]; decide), if_pos hmark]
    dsimp only
    rw [if_neg (fun h => hshort h.1), hud, husz, hct]
  have u1 : ¬ (1 : Int) < (u.size : Int) := by rw [← hct, ← husz] at hshort; omega
  clear hud husz
  go_wp2_with fail
  with_reducible refine (Hsmall.out _).mono ?_
  rintro e w9 ⟨rfl, rfl⟩
  go_wp2_with fail
  with_reducible refine (Hlarge.out _).mono ?_
  rintro e w9 ⟨rfl, rfl⟩
  go_wp2_with fail
  with_reducible refine (Hdigit.out _).mono ?_
  rintro e w9 ⟨rfl, rfl⟩
  go_wp2_with fail
  refine (Hpunct.out _).mono ?_
  rintro e w9 ⟨rfl, rfl⟩
  go_wp2_with fail
  with_reducible refine (Hmark.out _).mono ?_
  rintro e w9 ⟨rfl, rfl⟩
  go_wp2_with fail
  with_reducible refine HR.out.mono ?_
  rintro e V2 ⟨rfl, hk2⟩
  have hS2 := hSV.keeps hk2
  have hB2 : B ≤ V2.heap.size := Nat.le_trans hBV hk2.size
  have hb2 := hk2.below (fun _ h => h.elim) hBV
  have hL2 := hLV.later hb2
  have HW := Lib.hid (word_any V2 B p s a ln cl ov bv toks bads hS2 3 m u hL2 hn hB2 hule ⟨by omega, h0.2⟩ ⟨by omega, by omega⟩)
  go_wp2_with fail
  with_reducible refine HW.out.mono ?_
  rintro e V5 ⟨rfl, ov', hS5, hb5⟩
  go_wp2_with fail
  go_end0
  refine ⟨rfl, (hbV.trans hb2).trans hb5, ov', bv, bads, fun x hx => .inl hx, ?_⟩
  rw [if_neg hc, hit]
  exact ⟨hS5, by simp⟩


set_option linter.unusedVariables false in
set_option maxRecDepth 100000 in
set_option maxHeartbeats 4000000 in
theorem step_op2 (W : World) (B p : Nat) (s : ByteArray) (a : Nat) (ln cl : Int) (ov bv : Value) (toks : List Tok) (bads : List (Int × Int × Int)) (h : Sc W B p s a ln cl ov bv toks bads) (m : Int)
    (hL : Lim W B m) (ha : a < s.size) (hs : s.size ≤ 8192) (hn : toks.length ≤ 100000) (hm : bads.length ≤ 90000) (hB : B ≤ W.heap.size) (h0 : 0 ≤ ln ∧ 0 ≤ cl) (h1 : ln ≤ 90000 ∧ cl ≤ 20000) (c : UInt8) (t : Bs) (hct : s.data.toList.drop a = c :: t)
    (hc : c ≠ 10)
    (hc2 : c ≠ 32)
    (hsmall : small c = false)
    (hlarge : large c = false)
    (hdigit : digit c = false)
    (hpunct : punct c = false)
    (hmark : mark c = true)
    (hlong : 1 < ((c :: t).takeWhile mark).length) (hdash : dashB ((c :: t).takeWhile mark) = false)
    : Calls Tryz.prog 35 #[.pointer (some ⟨p, 0, none⟩)] W fun e w' => e = .returned (.tuple #[]) ∧ Stepped W B p s a ln cl toks bads c t w' := by
  have e0 := h.blk.cell (i := 0) rfl
  have e1 := h.blk.cell (i := 1) rfl
  have hget : s[a] = c := by
    have h2 : (s.data.toList.drop a)[0]? = some c := by rw [hct]; rfl
    rw [List.getElem?_drop, Nat.add_zero, Array.getElem?_toList, Array.getElem?_eq_getElem (show a < s.data.size from ha)] at h2
    exact Option.some.inj h2
  have q0 : (0 : Int) ≤ (a : Int) := by omega
  have q1 : (a : Int) < (s.size : Int) := by omega
  have q2 : (s.size : Int) ≤ 8192 := by omega
  have hbyte : ((s[a].toNat : Nat) : Int) = ((c.toNat : Nat) : Int) := by rw [hget]
  have hal : a ≤ s.size := Nat.le_of_lt ha
  have n10 : (((c.toNat : Nat) : Int) == 10) = false := beq_eq_false_iff_ne.2 fun e => hc (UInt8.toNat_inj.1 (by rw [show (10 : UInt8).toNat = 10 from rfl]; omega))
  have n32 : (((c.toNat : Nat) : Int) == 32) = false := beq_eq_false_iff_ne.2 fun e => hc2 (UInt8.toNat_inj.1 (by rw [show (32 : UInt8).toNat = 32 from rfl]; omega))
  have Hsmall := Lib.hid (fun (V : World) => small_any c V)
  rw [hsmall] at Hsmall
  have Hlarge := Lib.hid (fun (V : World) => large_any c V)
  rw [hlarge] at Hlarge
  have Hdigit := Lib.hid (fun (V : World) => digit_any c V)
  rw [hdigit] at Hdigit
  obtain ⟨ix, hix⟩ : ∃ ix, Lib.indexByte puncts c = ix := ⟨_, rfl⟩
  have Hpunct := Lib.hid (fun (V : World) => (Tryz.strings_IndexByte ⟨puncts.toArray⟩ (c.toNat : Int) V).mono (R' := fun e w' => e = .returned (.int .i64 ix) ∧ V = w') fun e w' ⟨he, hw⟩ => ⟨by rw [he]; simp [hix], hw.symm⟩)
  have hpx : punct c = decide (0 ≤ ix) := by unfold punct; rw [hix]
  rw [hpunct] at hpx
  have hix2 : ¬ 0 ≤ ix := by simpa using hpx.symm
  clear hpx
  have Hmark := Lib.hid (fun (V : World) => mark_any c V)
  rw [hmark] at Hmark
  go_enter Tryz.func35, Tryz.ntmps35
  go_wp2_with fail
  go_quiet (fail)
  obtain ⟨V, hV⟩ : ∃ V, W.drewN nq = V := ⟨_, rfl⟩
  have hkV : Keeps (fun _ => False) W V := by rw [← hV]; exact (Keeps.refl _ _).drewN _
  rw [hV]
  have hSV := h.keeps hkV
  have hbV := hkV.below (fun _ h => h.elim) hB
  have hBV : B ≤ V.heap.size := Nat.le_trans hB hkV.size
  have hLV := hL.later hbV
  clear hV hget e0 e1
  obtain ⟨u, hu⟩ : ∃ u, s.extract a (a + ((s.data.toList.drop a).takeWhile mark).length) = u := ⟨_, rfl⟩
  have hud := cut_tw s a mark
  have husz := cut_size s a mark
  rw [hu] at hud husz
  have hule : u.size ≤ 8192 := by
    rw [husz]
    have := tw_le (p := mark) (s.data.toList.drop a)
    rw [List.length_drop, ← Lib.size_eq] at this; omega
  have eg : Enters Tryz.prog 78 := enters_of Tryz.func78 (by kernel_rfl) rfl
  have HR := Lib.hid (run_any V p s a _ _ _ _ hSV.blk hal hs 78 mark eg (fun c V => mark_any c V))
  rw [hu] at HR
  rw [hct] at hud
  clear eg hu
  have HT := Lib.hid (fun (X : World) => (Tryz.strings_Trim_one u 45 (by decide) X (by omega)).mono (R' := fun e w' => e = .returned (.string ⟨(Lib.trimB u.data.toList 45).toArray⟩) ∧ Keeps (fun _ => False) X w') fun e w' ⟨he, hw⟩ => ⟨he, by rcases hw with hw | hw <;> rw [hw] <;> first | exact Keeps.refl _ _ | exact (Keeps.refl _ _).drew⟩)
  obtain ⟨tr, htr⟩ : ∃ tr : ByteArray, (⟨(Lib.trimB u.data.toList 45).toArray⟩ : ByteArray) = tr := ⟨_, rfl⟩
  rw [htr] at HT
  have htd : dashB u.data.toList = tr.toList.isEmpty := by rw [← htr, ByteArray.toList_eq]; simp [dashB]
  have hit : item kwB dashB c t = ⟨u.size, some (if kwB u.data.toList then 4 else 3, u.data.toList, 0), false⟩ := by
    unfold item; rw [if_neg hc2, if_neg (by rw [hsmall]; decide), if_neg (by rw [hlarge]; decide), if_neg (by rw [hdigit]; decide), if_neg (by rw [hpunct]; decide), if_pos hmark]
    dsimp only
    rw [if_neg (fun h => by rw [hdash] at h; exact absurd h.2 (by decide)), hud, husz, hct]
  rw [hud, hdash] at htd
  have u1 : (1 : Int) < (u.size : Int) := by rw [← hct, ← husz] at hlong; omega
  have htd' : tr.toList.isEmpty = false := htd.symm
  clear htr htd hud husz
  go_wp2_with fail
  with_reducible refine (Hsmall.out _).mono ?_
  rintro e w9 ⟨rfl, rfl⟩
  go_wp2_with fail
  with_reducible refine (Hlarge.out _).mono ?_
  rintro e w9 ⟨rfl, rfl⟩
  go_wp2_with fail
  with_reducible refine (Hdigit.out _).mono ?_
  rintro e w9 ⟨rfl, rfl⟩
  go_wp2_with fail
  refine (Hpunct.out _).mono ?_
  rintro e w9 ⟨rfl, rfl⟩
  go_wp2_with fail
  with_reducible refine (Hmark.out _).mono ?_
  rintro e w9 ⟨rfl, rfl⟩
  go_wp2_with fail
  with_reducible refine HR.out.mono ?_
  rintro e V2 ⟨rfl, hk2⟩
  go_wp2_with fail
  with_reducible refine (HT.out _).mono ?_
  rintro e V3 ⟨rfl, hk3⟩
  have hk13 := hk2.trans (X := fun _ => False) hk3 (fun _ _ h => h)
  have hS3 := hSV.keeps hk13
  have hB3 : B ≤ V3.heap.size := Nat.le_trans hBV hk13.size
  have hb3 := hk13.below (fun _ h => h.elim) hBV
  have hL3 := hLV.later hb3
  have HW := Lib.hid (word_any V3 B p s a ln cl ov bv toks bads hS3 3 m u hL3 hn hB3 hule ⟨by omega, h0.2⟩ ⟨by omega, by omega⟩)
  go_wp2_with fail
  with_reducible refine HW.out.mono ?_
  rintro e V5 ⟨rfl, ov', hS5, hb5⟩
  go_wp2_with fail
  go_end0
  refine ⟨rfl, (hbV.trans hb3).trans hb5, ov', bv, bads, fun x hx => .inl hx, ?_⟩
  rw [if_neg hc, hit]
  exact ⟨hS5, by simp⟩


set_option linter.unusedVariables false in
set_option maxRecDepth 100000 in
set_option maxHeartbeats 4000000 in
theorem step_bad (W : World) (B p : Nat) (s : ByteArray) (a : Nat) (ln cl : Int) (ov bv : Value) (toks : List Tok) (bads : List (Int × Int × Int)) (h : Sc W B p s a ln cl ov bv toks bads) (m : Int)
    (hL : Lim W B m) (ha : a < s.size) (hs : s.size ≤ 8192) (hn : toks.length ≤ 100000) (hm : bads.length ≤ 90000) (hB : B ≤ W.heap.size) (h0 : 0 ≤ ln ∧ 0 ≤ cl) (h1 : ln ≤ 90000 ∧ cl ≤ 20000) (c : UInt8) (t : Bs) (hct : s.data.toList.drop a = c :: t)
    (hc : c ≠ 10)
    (hc2 : c ≠ 32)
    (hsmall : small c = false)
    (hlarge : large c = false)
    (hdigit : digit c = false)
    (hpunct : punct c = false)
    (hmark : mark c = false)
    : Calls Tryz.prog 35 #[.pointer (some ⟨p, 0, none⟩)] W fun e w' => e = .returned (.tuple #[]) ∧ Stepped W B p s a ln cl toks bads c t w' := by
  have e0 := h.blk.cell (i := 0) rfl
  have e1 := h.blk.cell (i := 1) rfl
  have hget : s[a] = c := by
    have h2 : (s.data.toList.drop a)[0]? = some c := by rw [hct]; rfl
    rw [List.getElem?_drop, Nat.add_zero, Array.getElem?_toList, Array.getElem?_eq_getElem (show a < s.data.size from ha)] at h2
    exact Option.some.inj h2
  have q0 : (0 : Int) ≤ (a : Int) := by omega
  have q1 : (a : Int) < (s.size : Int) := by omega
  have q2 : (s.size : Int) ≤ 8192 := by omega
  have hbyte : ((s[a].toNat : Nat) : Int) = ((c.toNat : Nat) : Int) := by rw [hget]
  have hal : a ≤ s.size := Nat.le_of_lt ha
  have n10 : (((c.toNat : Nat) : Int) == 10) = false := beq_eq_false_iff_ne.2 fun e => hc (UInt8.toNat_inj.1 (by rw [show (10 : UInt8).toNat = 10 from rfl]; omega))
  have n32 : (((c.toNat : Nat) : Int) == 32) = false := beq_eq_false_iff_ne.2 fun e => hc2 (UInt8.toNat_inj.1 (by rw [show (32 : UInt8).toNat = 32 from rfl]; omega))
  have Hsmall := Lib.hid (fun (V : World) => small_any c V)
  rw [hsmall] at Hsmall
  have Hlarge := Lib.hid (fun (V : World) => large_any c V)
  rw [hlarge] at Hlarge
  have Hdigit := Lib.hid (fun (V : World) => digit_any c V)
  rw [hdigit] at Hdigit
  obtain ⟨ix, hix⟩ : ∃ ix, Lib.indexByte puncts c = ix := ⟨_, rfl⟩
  have Hpunct := Lib.hid (fun (V : World) => (Tryz.strings_IndexByte ⟨puncts.toArray⟩ (c.toNat : Int) V).mono (R' := fun e w' => e = .returned (.int .i64 ix) ∧ V = w') fun e w' ⟨he, hw⟩ => ⟨by rw [he]; simp [hix], hw.symm⟩)
  have hpx : punct c = decide (0 ≤ ix) := by unfold punct; rw [hix]
  rw [hpunct] at hpx
  have hix2 : ¬ 0 ≤ ix := by simpa using hpx.symm
  clear hpx
  have Hmark := Lib.hid (fun (V : World) => mark_any c V)
  rw [hmark] at Hmark
  go_enter Tryz.func35, Tryz.ntmps35
  go_wp2_with fail
  go_quiet (fail)
  obtain ⟨V, hV⟩ : ∃ V, W.drewN nq = V := ⟨_, rfl⟩
  have hkV : Keeps (fun _ => False) W V := by rw [← hV]; exact (Keeps.refl _ _).drewN _
  rw [hV]
  have hSV := h.keeps hkV
  have hbV := hkV.below (fun _ h => h.elim) hB
  have hBV : B ≤ V.heap.size := Nat.le_trans hB hkV.size
  have hLV := hL.later hbV
  clear hV hget e0 e1
  have hit : item kwB dashB c t = ⟨1, none, true⟩ := by
    unfold item; rw [if_neg hc2, if_neg (by rw [hsmall]; decide), if_neg (by rw [hlarge]; decide), if_neg (by rw [hdigit]; decide), if_neg (by rw [hpunct]; decide), if_neg (by rw [hmark]; decide)]
  have HF := Lib.hid (fail_any V B p s a ln cl ov bv toks bads hSV 5 (by omega) hBV)
  go_wp2_with fail
  with_reducible refine (Hsmall.out _).mono ?_
  rintro e w9 ⟨rfl, rfl⟩
  go_wp2_with fail
  with_reducible refine (Hlarge.out _).mono ?_
  rintro e w9 ⟨rfl, rfl⟩
  go_wp2_with fail
  with_reducible refine (Hdigit.out _).mono ?_
  rintro e w9 ⟨rfl, rfl⟩
  go_wp2_with fail
  refine (Hpunct.out _).mono ?_
  rintro e w9 ⟨rfl, rfl⟩
  go_wp2_with fail
  with_reducible refine (Hmark.out _).mono ?_
  rintro e w9 ⟨rfl, rfl⟩
  go_wp2_with fail
  with_reducible refine HF.out.mono ?_
  rintro e V2 ⟨rfl, bv', hS2, hb2⟩
  have HSk := Lib.hid (skip_any V2 B p s a ln cl ov bv' toks _ hS2 1 ⟨by omega, h0.2, by omega⟩ ⟨by omega, by omega, by omega⟩ (Nat.le_trans hBV hb2.size))
  go_wp2_with fail
  with_reducible refine HSk.out.mono ?_
  rintro e V3 ⟨rfl, hS3, hb3⟩
  go_wp2_with fail
  go_end0
  refine ⟨rfl, (hbV.trans hb2).trans hb3, ov, bv', bads ++ [(5, ln, cl)], fun x hx => ?_, ?_⟩
  · rcases List.mem_append.1 hx with hx | hx
    · exact .inl hx
    · rw [List.mem_singleton.1 hx]; exact .inr ⟨show (5 : Int) ≠ 0 by decide, rfl⟩
  · rw [if_neg hc, hit]
    exact ⟨by simpa [tokOf] using hS3, by simp⟩


theorem step_any (W : World) (B p : Nat) (s : ByteArray) (a : Nat) (ln cl : Int) (ov bv : Value) (toks : List Tok) (bads : List (Int × Int × Int)) (h : Sc W B p s a ln cl ov bv toks bads) (m : Int)
    (hL : Lim W B m) (ha : a < s.size) (hs : s.size ≤ 8192) (hn : toks.length ≤ 100000) (hm : bads.length ≤ 90000) (hB : B ≤ W.heap.size) (h0 : 0 ≤ ln ∧ 0 ≤ cl) (h1 : ln ≤ 90000 ∧ cl ≤ 20000) (c : UInt8) (t : Bs) (hct : s.data.toList.drop a = c :: t) :
    Calls Tryz.prog 35 #[.pointer (some ⟨p, 0, none⟩)] W fun e w' => e = .returned (.tuple #[]) ∧ Stepped W B p s a ln cl toks bads c t w' := by
  by_cases hc : c = 10
  · exact step_nl W B p s a ln cl ov bv toks bads h m hL ha hs hn hm hB h0 h1 c t hct hc
  by_cases hc2 : c = 32
  · exact step_sp W B p s a ln cl ov bv toks bads h m hL ha hs hn hm hB h0 h1 c t hct hc hc2
  cases h3 : small c
  case true => exact step_small W B p s a ln cl ov bv toks bads h m hL ha hs hn hm hB h0 h1 c t hct hc hc2 h3
  cases h4 : large c
  case true => exact step_large W B p s a ln cl ov bv toks bads h m hL ha hs hn hm hB h0 h1 c t hct hc hc2 h3 h4
  cases h5 : digit c
  case true => exact step_digit W B p s a ln cl ov bv toks bads h m hL ha hs hn hm hB h0 h1 c t hct hc hc2 h3 h4 h5
  cases h6 : punct c
  case true => exact step_punct W B p s a ln cl ov bv toks bads h m hL ha hs hn hm hB h0 h1 c t hct hc hc2 h3 h4 h5 h6
  cases h7 : mark c
  case false => exact step_bad W B p s a ln cl ov bv toks bads h m hL ha hs hn hm hB h0 h1 c t hct hc hc2 h3 h4 h5 h6 h7
  by_cases h8 : 1 < ((c :: t).takeWhile mark).length
  · cases h9 : dashB ((c :: t).takeWhile mark)
    · exact step_op2 W B p s a ln cl ov bv toks bads h m hL ha hs hn hm hB h0 h1 c t hct hc hc2 h3 h4 h5 h6 h7 h8 h9
    · exact step_dash W B p s a ln cl ov bv toks bads h m hL ha hs hn hm hB h0 h1 c t hct hc hc2 h3 h4 h5 h6 h7 h8 h9
  · exact step_op1 W B p s a ln cl ov bv toks bads h m hL ha hs hn hm hB h0 h1 c t hct hc hc2 h3 h4 h5 h6 h7 h8

end Go.Proofs.YtcjoapmodaioiaaGreatDoor
