/- unify.check at the kinds 2 and 3. -/
import Derived.Test.YthchnabhbpdfgaaDoorUChkD
namespace Go.Proofs.YthchnabhbpdfgaaDoor
open Go.RowKit

set_option maxRecDepth 100000 in
set_option maxHeartbeats 8000000 in
theorem chk_k2 (n : ByteArray) (v : Int) (l : List Ty) (ih : ∀ a ∈ l, ChkAt a) : ChkAt (.mk 2 n v l) := by
  intro W B p av left depth row hT hP hB0 hB hS hl0 hl1 hd0 hd1
  obtain ⟨A, c, rfl, hlc, hcm, _⟩ := hT.form
  have c0 := hP.cell (i := 0) rfl
  have f0 := hP.free 0
  have hpl := hP.lt
  have hp0 : (0 : Nat) ≠ p := by omega
  have s0 := hS.c2
  have hz0 := block_lt_of_cell s0
  simp only [Ty.kind, Ty.name, Ty.var, Ty.args] at *
  have hlm : l.length ≤ 9223372036854775807 := by unfold maxLen at hcm; omega
  have hwk : (Lit.int .i64 2).wf = true := by decide
  by_cases h1 : left - 1 < 0
  · have HE := Lib.hid (show chk (.mk 2 n v l) left row depth = (2, left - 1) by rw [chk, if_pos (.inl h1)])
    go_enter Tryd.func15, Tryd.ntmps15
    go_wp2_with fail
    go_ret
    exact ⟨by rw [HE.out]; rfl, by rw [HE.out]; first | exact (hP.set_ 0 _).alloc _ | exact ((hP.set_ 0 _).alloc _).drewN _, by first | exact ((Keeps.refl (· = p) W).setCell (p := ⟨p, 0, none⟩) (fun _ => rfl) _).alloc _ | exact (((Keeps.refl (· = p) W).setCell (p := ⟨p, 0, none⟩) (fun _ => rfl) _).alloc _).drewN _⟩
  by_cases h2 : 400 < depth
  · have HE := Lib.hid (show chk (.mk 2 n v l) left row depth = (2, left - 1) by rw [chk, if_pos (.inr h2)])
    go_enter Tryd.func15, Tryd.ntmps15
    go_wp2_with fail
    go_ret
    exact ⟨by rw [HE.out]; rfl, by rw [HE.out]; first | exact (hP.set_ 0 _).alloc _ | exact ((hP.set_ 0 _).alloc _).drewN _, by first | exact ((Keeps.refl (· = p) W).setCell (p := ⟨p, 0, none⟩) (fun _ => rfl) _).alloc _ | exact (((Keeps.refl (· = p) W).setCell (p := ⟨p, 0, none⟩) (fun _ => rfl) _).alloc _).drewN _⟩
  have hA : ¬ (left - 1 < 0 ∨ 400 < depth) := by omega
  have HA := Lib.hid hA
  clear hA
  by_cases h3 : (l.length : Int) ≠ 3
  · have HE := Lib.hid (show chk (.mk 2 n v l) left row depth = (3, left - 1) by rw [chk, if_neg HA.out, if_neg (by decide), if_pos (.inl ⟨by decide, h3⟩)])
    have h3b : ((l.length : Int) != 3) = true := bne_iff_ne.2 h3
    go_enter Tryd.func15, Tryd.ntmps15
    go_wp2_with fail
    go_quiet (fail)
    go_wp2_with fail
    go_ret
    exact ⟨by rw [HE.out]; rfl, by rw [HE.out]; first | exact (hP.set_ 0 _).alloc _ | exact ((hP.set_ 0 _).alloc _).drewN _, by first | exact ((Keeps.refl (· = p) W).setCell (p := ⟨p, 0, none⟩) (fun _ => rfl) _).alloc _ | exact (((Keeps.refl (· = p) W).setCell (p := ⟨p, 0, none⟩) (fun _ => rfl) _).alloc _).drewN _⟩
  have h3c : (l.length : Int) = 3 := by omega
  have h3b : ((l.length : Int) != 3) = false := by rw [h3c]; rfl
  have H3 := Lib.hid h3c
  clear h3 h3c
  by_cases h4 : v ≠ 0
  · have HE := Lib.hid (show chk (.mk 2 n v l) left row depth = (3, left - 1) by rw [chk, if_neg HA.out, if_neg (by decide), if_pos (.inr (.inl ⟨by decide, h4⟩))])
    have h4b : (v != 0) = true := bne_iff_ne.2 h4
    go_enter Tryd.func15, Tryd.ntmps15
    go_wp2_with fail
    go_quiet (fail)
    go_wp2_with fail
    go_ret
    exact ⟨by rw [HE.out]; rfl, by rw [HE.out]; first | exact (hP.set_ 0 _).alloc _ | exact ((hP.set_ 0 _).alloc _).drewN _, by first | exact ((Keeps.refl (· = p) W).setCell (p := ⟨p, 0, none⟩) (fun _ => rfl) _).alloc _ | exact (((Keeps.refl (· = p) W).setCell (p := ⟨p, 0, none⟩) (fun _ => rfl) _).alloc _).drewN _⟩
  obtain rfl : v = 0 := by omega
  clear h4
  cases h5 : n.toList.isEmpty
  · have HE := Lib.hid (show chk (.mk 2 n 0 l) left row depth = (3, left - 1) by rw [chk, if_neg HA.out, if_neg (by decide), if_pos (.inr (.inr ⟨by decide, by decide, h5⟩))])
    have h5b : (!n.toList.isEmpty) = true := by rw [h5]; rfl
    go_enter Tryd.func15, Tryd.ntmps15
    go_wp2_with fail
    go_quiet (fail)
    go_wp2_with fail
    go_ret
    exact ⟨by rw [HE.out]; rfl, by rw [HE.out]; first | exact (hP.set_ 0 _).alloc _ | exact ((hP.set_ 0 _).alloc _).drewN _, by first | exact ((Keeps.refl (· = p) W).setCell (p := ⟨p, 0, none⟩) (fun _ => rfl) _).alloc _ | exact (((Keeps.refl (· = p) W).setCell (p := ⟨p, 0, none⟩) (fun _ => rfl) _).alloc _).drewN _⟩
  · have H5 := Lib.hid h5
    cases row
    · have HC := Lib.hid (show chk (.mk 2 n 0 l) left false depth = chks 2 l 0 (left - 1) (depth + 1) by rw [chk, if_neg HA.out, if_neg (by decide), if_neg (by rintro (⟨h, h'⟩ | ⟨h, h'⟩ | ⟨h, h0, h'⟩) <;> first | exact absurd h (by decide) | exact h' H3.out | exact absurd rfl h' | exact absurd rfl h | exact absurd rfl h0 | (rw [H5.out] at h'; cases h')), if_neg (by rintro ⟨_, h⟩; exact absurd rfl h), if_neg (by rintro ⟨h, _⟩; exact absurd h (by decide))])
      obtain ⟨tb, htb⟩ : ∃ tb, W.heap.size = tb := ⟨_, rfl⟩
      have hbx : Blk ((W.setCell ⟨p, 0, none⟩ (.int .i64 (left - 1))).alloc (.cells #[.int .i64 2, .string n, .int .i64 0, .slice A l.length c] 24)) tb 24 [.int .i64 2, .string n, .int .i64 0, .slice A l.length c] := by
        have := Blk.new (W.setCell ⟨p, 0, none⟩ (.int .i64 (left - 1))) 24 [.int .i64 2, .string n, .int .i64 0, .slice A l.length c]
        simpa [htb] using this
      have hkx : Keeps (· = p) W ((W.setCell ⟨p, 0, none⟩ (.int .i64 (left - 1))).alloc (.cells #[.int .i64 2, .string n, .int .i64 0, .slice A l.length c] 24)) := ((Keeps.refl (· = p) W).setCell (p := ⟨p, 0, none⟩) (fun _ => rfl) _).alloc _
      have hpx := (hP.set_ 0 (.int .i64 (left - 1))).alloc (.cells #[.int .i64 2, .string n, .int .i64 0, .slice A l.length c] 24)
      have HTB := Lib.hid htb
      clear htb
      have HIH := Lib.hid ih
      have HT := Lib.hid (show Sl W (fun b => b < B) tyD l (.slice A l.length c) from hT.args)
      have HS := Lib.hid hS
      clear ih hT hS hP
      go_enter Tryd.func15, Tryd.ntmps15
      go_wp2_with fail
      go_quiet (fail)
      go_wp2_with fail
      rw [HTB.out]
      have hpl2 : p < tb := by rw [← HTB.out]; exact hpl
      clear c0 f0 s0
      go_loopw [104] (fun i wr => ∃ (j : Nat) (lf : Int), j ≤ l.length ∧ i = .int .i64 j ∧ 0 ≤ lf ∧ lf ≤ left - 1 ∧ Keeps (· = p) W wr ∧ Blk wr p 43 [.int .i64 lf] ∧ Blk wr tb 24 [.int .i64 2, .string n, .int .i64 0, .slice A l.length c] ∧ Hid (chks 2 l 0 (left - 1) (depth + 1) = chks 2 (l.drop j) j lf (depth + 1))) (fun i _ => l.length - (intOf i).toNat)
      case atStart => exact ⟨0, left - 1, Nat.zero_le _, rfl, by omega, Int.le_refl _, hkx.drewN _, hpx.drewN _, hbx.drewN _, rfl⟩
      case round =>
        obtain ⟨j, lf, hj, rfl, hlf0, hlf1, hk, hpb, htB, hch⟩ := hrel
        by_cases hlt : j < l.length
        · have hst : chks 2 (l.drop j) j lf (depth + 1) = if (chk l[j] lf (rowed 2 j l[j].kind) (depth + 1)).1 = 0 then chks 2 (l.drop (j + 1)) (j + 1) (chk l[j] lf (rowed 2 j l[j].kind) (depth + 1)).2 (depth + 1) else chk l[j] lf (rowed 2 j l[j].kind) (depth + 1) := by
            rw [List.drop_eq_getElem_cons hlt, chks]
          obtain ⟨g, off, av, hadr, hg, e0, e1, e2, e3, hTj⟩ := tyD.get (HT.out.keeps hk (fun i hi => by omega)) hlt
          obtain rfl := hadr
          obtain ⟨a, ha⟩ : ∃ a, l[j] = a := ⟨_, rfl⟩
          rw [ha] at hst e0 e1 e2 hTj
          obtain ⟨A3, c3, rfl, _⟩ := hTj.form
          have hIA := HIH.out a (by rw [← ha]; exact List.getElem_mem hlt)
          have HST := Lib.hid (HC.out.trans (hch.out.trans hst))
          obtain ⟨rw_, hrw⟩ : ∃ b, rowed 2 j a.kind = b := ⟨_, rfl⟩
          rw [hrw] at HST
          have d0 := htB.cell (i := 0) rfl
          have j0 : (0 : Int) ≤ (j : Int) := by omega
          have j1 : (j : Int) < (l.length : Int) := by omega
          have hgw := block_lt_of_cell e0
          have htw := htB.lt
          have hpw := hpb.lt
          have hTw : Hid (p ≠ tb) := by show p ≠ tb; omega
          have HK := Lib.hid hk
          have HPB := Lib.hid hpb
          have HTb := Lib.hid htB
          have HTJ := Lib.hid hTj
          have hka : ∀ o : Obj, Keeps (fun _ => False) wr (wr.alloc o) := fun o => (Keeps.refl _ _).alloc o
          have hkb : Keeps (fun _ => False) wr (wr.alloc (.cells #[.int .i64 a.kind, .string a.name, .int .i64 a.var, .slice A3 a.args.length c3] 24)) := hka _
          have HCL := Lib.hid (hIA (wr.alloc (.cells #[.int .i64 a.kind, .string a.name, .int .i64 a.var, .slice A3 a.args.length c3] 24)) B p _ lf (depth + 1) rw_ (hTj.keeps hkb (fun _ _ h => h)) (hpb.keeps hkb (fun h => h)) hB0 hB ((HS.out.keeps hk (by omega)).keeps hkb (fun h => h)) hlf0 (by omega) (by omega) (by omega))
          have HA2 := Lib.hid hkb
          clear hst hch hk hpb htB hTj hka hkb hIA ha
          by_cases h8 : j = 1
          · subst h8
            obtain rfl : rw_ = true := by rw [← hrw]; rfl
            go_wp2_with fail
            with_reducible refine HCL.out.mono ?_
            rintro e w2 ⟨rfl, hp2, hk2⟩
            have hk3 : Keeps (· = p) W w2 := (HK.out.trans (HA2.out.mono (Y := (· = p)) (fun _ _ h => h.elim)) (fun _ _ h => h)).trans hk2 (fun _ _ h => h)
            have hb3 := (HTb.out.keeps HA2.out (fun h => h)).keeps hk2 (fun h => hTw.out h.symm)
            by_cases hz : (chk a lf true (depth + 1)).1 = 0
            · have HN := Lib.hid (HST.out.trans (if_pos hz))
              have hbd := chk_bound a lf true (depth + 1) 
              have hbd2 := hbd.2 hz
              have hbd1 := hbd.1
              clear hbd
              obtain ⟨r, hr⟩ : ∃ r, chk a lf true (depth + 1) = r := ⟨_, rfl⟩
              rw [hr] at hz hbd1 hbd2 HN hp2
              rw [hr]
              clear hr
              obtain ⟨r1, r2⟩ := r
              obtain rfl : r1 = 0 := hz
              change r2 ≤ lf - 1 at hbd1
              change 0 ≤ r2 at hbd2
              go_wp2_with fail
              go_roundw
              case rel => exact ⟨1 + 1, r2, by omega, by go_num, hbd2, by omega, hk3, hp2, hb3, Lib.hid (HC.out.symm.trans HN.out)⟩
              case measure => simp [intOf]; omega
            · have HN := Lib.hid (HST.out.trans (if_neg hz))
              have hzb : ((chk a lf true (depth + 1)).1 != 0) = true := bne_iff_ne.2 hz
              go_wp2_with fail
              go_ret
              exact ⟨by rw [HN.out]; rfl, by rw [HN.out]; exact hp2, hk3⟩
          · have h8i : (j : Int) ≠ 1 := by omega
            have h8b : ((j : Int) == 1) = false := by rw [beq_eq_false_iff_ne]; omega
            obtain rfl : rw_ = false := by rw [← hrw]; simp [rowed, h8]
            go_wp2_with fail
            with_reducible refine HCL.out.mono ?_
            rintro e w2 ⟨rfl, hp2, hk2⟩
            have hk3 : Keeps (· = p) W w2 := (HK.out.trans (HA2.out.mono (Y := (· = p)) (fun _ _ h => h.elim)) (fun _ _ h => h)).trans hk2 (fun _ _ h => h)
            have hb3 := (HTb.out.keeps HA2.out (fun h => h)).keeps hk2 (fun h => hTw.out h.symm)
            by_cases hz : (chk a lf false (depth + 1)).1 = 0
            · have HN := Lib.hid (HST.out.trans (if_pos hz))
              have hbd := chk_bound a lf false (depth + 1) 
              have hbd2 := hbd.2 hz
              have hbd1 := hbd.1
              clear hbd
              obtain ⟨r, hr⟩ : ∃ r, chk a lf false (depth + 1) = r := ⟨_, rfl⟩
              rw [hr] at hz hbd1 hbd2 HN hp2
              rw [hr]
              clear hr
              obtain ⟨r1, r2⟩ := r
              obtain rfl : r1 = 0 := hz
              change r2 ≤ lf - 1 at hbd1
              change 0 ≤ r2 at hbd2
              go_wp2_with fail
              go_roundw
              case rel => exact ⟨j + 1, r2, by omega, by go_num, hbd2, by omega, hk3, hp2, hb3, Lib.hid (HC.out.symm.trans HN.out)⟩
              case measure => simp [intOf]; omega
            · have HN := Lib.hid (HST.out.trans (if_neg hz))
              have hzb : ((chk a lf false (depth + 1)).1 != 0) = true := bne_iff_ne.2 hz
              go_wp2_with fail
              go_ret
              exact ⟨by rw [HN.out]; rfl, by rw [HN.out]; exact hp2, hk3⟩
        · have j1 : ¬ (j : Int) < (l.length : Int) := by omega
          obtain rfl : j = l.length := by omega
          have HN := Lib.hid (HC.out.trans (hch.out.trans (by rw [List.drop_length, chks])))
          go_wp2_with fail
          go_ret
          exact ⟨by rw [HN.out]; rfl, by rw [HN.out]; exact hpb, hk⟩
    · have HE := Lib.hid (show chk (.mk 2 n 0 l) left true depth = (9, left - 1) by rw [chk, if_neg HA.out, if_neg (by decide), if_neg (by rintro (⟨h, h'⟩ | ⟨h, h'⟩ | ⟨h, h0, h'⟩) <;> first | exact absurd h (by decide) | exact h' H3.out | exact absurd rfl h' | exact absurd rfl h | exact absurd rfl h0 | (rw [H5.out] at h'; cases h')), if_pos ⟨by decide, by decide⟩])
      go_enter Tryd.func15, Tryd.ntmps15
      go_wp2_with fail
      go_quiet (fail)
      go_wp2_with fail
      go_ret
      exact ⟨by rw [HE.out]; rfl, by rw [HE.out]; first | exact (hP.set_ 0 _).alloc _ | exact ((hP.set_ 0 _).alloc _).drewN _, by first | exact ((Keeps.refl (· = p) W).setCell (p := ⟨p, 0, none⟩) (fun _ => rfl) _).alloc _ | exact (((Keeps.refl (· = p) W).setCell (p := ⟨p, 0, none⟩) (fun _ => rfl) _).alloc _).drewN _⟩

set_option maxRecDepth 100000 in
set_option maxHeartbeats 8000000 in
theorem chk_k3 (n : ByteArray) (v : Int) (l : List Ty) (ih : ∀ a ∈ l, ChkAt a) : ChkAt (.mk 3 n v l) := by
  intro W B p av left depth row hT hP hB0 hB hS hl0 hl1 hd0 hd1
  obtain ⟨A, c, rfl, hlc, hcm, _⟩ := hT.form
  have c0 := hP.cell (i := 0) rfl
  have f0 := hP.free 0
  have hpl := hP.lt
  have hp0 : (0 : Nat) ≠ p := by omega
  have s0 := hS.c3
  have hz0 := block_lt_of_cell s0
  simp only [Ty.kind, Ty.name, Ty.var, Ty.args] at *
  have hlm : l.length ≤ 9223372036854775807 := by unfold maxLen at hcm; omega
  have hwk : (Lit.int .i64 3).wf = true := by decide
  by_cases h1 : left - 1 < 0
  · have HE := Lib.hid (show chk (.mk 3 n v l) left row depth = (2, left - 1) by rw [chk, if_pos (.inl h1)])
    go_enter Tryd.func15, Tryd.ntmps15
    go_wp2_with fail
    go_ret
    exact ⟨by rw [HE.out]; rfl, by rw [HE.out]; first | exact (hP.set_ 0 _).alloc _ | exact ((hP.set_ 0 _).alloc _).drewN _, by first | exact ((Keeps.refl (· = p) W).setCell (p := ⟨p, 0, none⟩) (fun _ => rfl) _).alloc _ | exact (((Keeps.refl (· = p) W).setCell (p := ⟨p, 0, none⟩) (fun _ => rfl) _).alloc _).drewN _⟩
  by_cases h2 : 400 < depth
  · have HE := Lib.hid (show chk (.mk 3 n v l) left row depth = (2, left - 1) by rw [chk, if_pos (.inr h2)])
    go_enter Tryd.func15, Tryd.ntmps15
    go_wp2_with fail
    go_ret
    exact ⟨by rw [HE.out]; rfl, by rw [HE.out]; first | exact (hP.set_ 0 _).alloc _ | exact ((hP.set_ 0 _).alloc _).drewN _, by first | exact ((Keeps.refl (· = p) W).setCell (p := ⟨p, 0, none⟩) (fun _ => rfl) _).alloc _ | exact (((Keeps.refl (· = p) W).setCell (p := ⟨p, 0, none⟩) (fun _ => rfl) _).alloc _).drewN _⟩
  have hA : ¬ (left - 1 < 0 ∨ 400 < depth) := by omega
  have HA := Lib.hid hA
  clear hA
  by_cases h3 : (l.length : Int) ≠ 1
  · have HE := Lib.hid (show chk (.mk 3 n v l) left row depth = (3, left - 1) by rw [chk, if_neg HA.out, if_neg (by decide), if_pos (.inl ⟨by decide, h3⟩)])
    have h3b : ((l.length : Int) != 1) = true := bne_iff_ne.2 h3
    go_enter Tryd.func15, Tryd.ntmps15
    go_wp2_with fail
    go_quiet (fail)
    go_wp2_with fail
    go_ret
    exact ⟨by rw [HE.out]; rfl, by rw [HE.out]; first | exact (hP.set_ 0 _).alloc _ | exact ((hP.set_ 0 _).alloc _).drewN _, by first | exact ((Keeps.refl (· = p) W).setCell (p := ⟨p, 0, none⟩) (fun _ => rfl) _).alloc _ | exact (((Keeps.refl (· = p) W).setCell (p := ⟨p, 0, none⟩) (fun _ => rfl) _).alloc _).drewN _⟩
  have h3c : (l.length : Int) = 1 := by omega
  have h3b : ((l.length : Int) != 1) = false := by rw [h3c]; rfl
  have H3 := Lib.hid h3c
  clear h3 h3c
  by_cases h4 : v ≠ 0
  · have HE := Lib.hid (show chk (.mk 3 n v l) left row depth = (3, left - 1) by rw [chk, if_neg HA.out, if_neg (by decide), if_pos (.inr (.inl ⟨by decide, h4⟩))])
    have h4b : (v != 0) = true := bne_iff_ne.2 h4
    go_enter Tryd.func15, Tryd.ntmps15
    go_wp2_with fail
    go_quiet (fail)
    go_wp2_with fail
    go_ret
    exact ⟨by rw [HE.out]; rfl, by rw [HE.out]; first | exact (hP.set_ 0 _).alloc _ | exact ((hP.set_ 0 _).alloc _).drewN _, by first | exact ((Keeps.refl (· = p) W).setCell (p := ⟨p, 0, none⟩) (fun _ => rfl) _).alloc _ | exact (((Keeps.refl (· = p) W).setCell (p := ⟨p, 0, none⟩) (fun _ => rfl) _).alloc _).drewN _⟩
  obtain rfl : v = 0 := by omega
  clear h4
  cases h5 : n.toList.isEmpty
  · have HE := Lib.hid (show chk (.mk 3 n 0 l) left row depth = (3, left - 1) by rw [chk, if_neg HA.out, if_neg (by decide), if_pos (.inr (.inr ⟨by decide, by decide, h5⟩))])
    have h5b : (!n.toList.isEmpty) = true := by rw [h5]; rfl
    go_enter Tryd.func15, Tryd.ntmps15
    go_wp2_with fail
    go_quiet (fail)
    go_wp2_with fail
    go_ret
    exact ⟨by rw [HE.out]; rfl, by rw [HE.out]; first | exact (hP.set_ 0 _).alloc _ | exact ((hP.set_ 0 _).alloc _).drewN _, by first | exact ((Keeps.refl (· = p) W).setCell (p := ⟨p, 0, none⟩) (fun _ => rfl) _).alloc _ | exact (((Keeps.refl (· = p) W).setCell (p := ⟨p, 0, none⟩) (fun _ => rfl) _).alloc _).drewN _⟩
  · have H5 := Lib.hid h5
    cases row
    · have HC := Lib.hid (show chk (.mk 3 n 0 l) left false depth = chks 3 l 0 (left - 1) (depth + 1) by rw [chk, if_neg HA.out, if_neg (by decide), if_neg (by rintro (⟨h, h'⟩ | ⟨h, h'⟩ | ⟨h, h0, h'⟩) <;> first | exact absurd h (by decide) | exact h' H3.out | exact absurd rfl h' | exact absurd rfl h | exact absurd rfl h0 | (rw [H5.out] at h'; cases h')), if_neg (by rintro ⟨_, h⟩; exact absurd rfl h), if_neg (by rintro ⟨h, _⟩; exact absurd h (by decide))])
      obtain ⟨tb, htb⟩ : ∃ tb, W.heap.size = tb := ⟨_, rfl⟩
      have hbx : Blk ((W.setCell ⟨p, 0, none⟩ (.int .i64 (left - 1))).alloc (.cells #[.int .i64 3, .string n, .int .i64 0, .slice A l.length c] 24)) tb 24 [.int .i64 3, .string n, .int .i64 0, .slice A l.length c] := by
        have := Blk.new (W.setCell ⟨p, 0, none⟩ (.int .i64 (left - 1))) 24 [.int .i64 3, .string n, .int .i64 0, .slice A l.length c]
        simpa [htb] using this
      have hkx : Keeps (· = p) W ((W.setCell ⟨p, 0, none⟩ (.int .i64 (left - 1))).alloc (.cells #[.int .i64 3, .string n, .int .i64 0, .slice A l.length c] 24)) := ((Keeps.refl (· = p) W).setCell (p := ⟨p, 0, none⟩) (fun _ => rfl) _).alloc _
      have hpx := (hP.set_ 0 (.int .i64 (left - 1))).alloc (.cells #[.int .i64 3, .string n, .int .i64 0, .slice A l.length c] 24)
      have HTB := Lib.hid htb
      clear htb
      have HIH := Lib.hid ih
      have HT := Lib.hid (show Sl W (fun b => b < B) tyD l (.slice A l.length c) from hT.args)
      have HS := Lib.hid hS
      clear ih hT hS hP
      go_enter Tryd.func15, Tryd.ntmps15
      go_wp2_with fail
      go_quiet (fail)
      go_wp2_with fail
      rw [HTB.out]
      have hpl2 : p < tb := by rw [← HTB.out]; exact hpl
      clear c0 f0 s0
      go_loopw [104] (fun i wr => ∃ (j : Nat) (lf : Int), j ≤ l.length ∧ i = .int .i64 j ∧ 0 ≤ lf ∧ lf ≤ left - 1 ∧ Keeps (· = p) W wr ∧ Blk wr p 43 [.int .i64 lf] ∧ Blk wr tb 24 [.int .i64 3, .string n, .int .i64 0, .slice A l.length c] ∧ Hid (chks 3 l 0 (left - 1) (depth + 1) = chks 3 (l.drop j) j lf (depth + 1))) (fun i _ => l.length - (intOf i).toNat)
      case atStart => exact ⟨0, left - 1, Nat.zero_le _, rfl, by omega, Int.le_refl _, hkx.drewN _, hpx.drewN _, hbx.drewN _, rfl⟩
      case round =>
        obtain ⟨j, lf, hj, rfl, hlf0, hlf1, hk, hpb, htB, hch⟩ := hrel
        by_cases hlt : j < l.length
        · have hst : chks 3 (l.drop j) j lf (depth + 1) = if (chk l[j] lf (rowed 3 j l[j].kind) (depth + 1)).1 = 0 then chks 3 (l.drop (j + 1)) (j + 1) (chk l[j] lf (rowed 3 j l[j].kind) (depth + 1)).2 (depth + 1) else chk l[j] lf (rowed 3 j l[j].kind) (depth + 1) := by
            rw [List.drop_eq_getElem_cons hlt, chks]
          obtain ⟨g, off, av, hadr, hg, e0, e1, e2, e3, hTj⟩ := tyD.get (HT.out.keeps hk (fun i hi => by omega)) hlt
          obtain rfl := hadr
          obtain ⟨a, ha⟩ : ∃ a, l[j] = a := ⟨_, rfl⟩
          rw [ha] at hst e0 e1 e2 hTj
          obtain ⟨A3, c3, rfl, _⟩ := hTj.form
          have hIA := HIH.out a (by rw [← ha]; exact List.getElem_mem hlt)
          have HST := Lib.hid (HC.out.trans (hch.out.trans hst))
          obtain ⟨rw_, hrw⟩ : ∃ b, rowed 3 j a.kind = b := ⟨_, rfl⟩
          rw [hrw] at HST
          have d0 := htB.cell (i := 0) rfl
          have j0 : (0 : Int) ≤ (j : Int) := by omega
          have j1 : (j : Int) < (l.length : Int) := by omega
          have hgw := block_lt_of_cell e0
          have htw := htB.lt
          have hpw := hpb.lt
          have hTw : Hid (p ≠ tb) := by show p ≠ tb; omega
          have HK := Lib.hid hk
          have HPB := Lib.hid hpb
          have HTb := Lib.hid htB
          have HTJ := Lib.hid hTj
          have hka : ∀ o : Obj, Keeps (fun _ => False) wr (wr.alloc o) := fun o => (Keeps.refl _ _).alloc o
          have hkb : Keeps (fun _ => False) wr (wr.alloc (.cells #[.int .i64 a.kind, .string a.name, .int .i64 a.var, .slice A3 a.args.length c3] 24)) := hka _
          have HCL := Lib.hid (hIA (wr.alloc (.cells #[.int .i64 a.kind, .string a.name, .int .i64 a.var, .slice A3 a.args.length c3] 24)) B p _ lf (depth + 1) rw_ (hTj.keeps hkb (fun _ _ h => h)) (hpb.keeps hkb (fun h => h)) hB0 hB ((HS.out.keeps hk (by omega)).keeps hkb (fun h => h)) hlf0 (by omega) (by omega) (by omega))
          have HA2 := Lib.hid hkb
          clear hst hch hk hpb htB hTj hka hkb hIA ha
          obtain rfl : rw_ = true := by rw [← hrw]; rfl
          go_wp2_with fail
          with_reducible refine HCL.out.mono ?_
          rintro e w2 ⟨rfl, hp2, hk2⟩
          have hk3 : Keeps (· = p) W w2 := (HK.out.trans (HA2.out.mono (Y := (· = p)) (fun _ _ h => h.elim)) (fun _ _ h => h)).trans hk2 (fun _ _ h => h)
          have hb3 := (HTb.out.keeps HA2.out (fun h => h)).keeps hk2 (fun h => hTw.out h.symm)
          by_cases hz : (chk a lf true (depth + 1)).1 = 0
          · have HN := Lib.hid (HST.out.trans (if_pos hz))
            have hbd := chk_bound a lf true (depth + 1) 
            have hbd2 := hbd.2 hz
            have hbd1 := hbd.1
            clear hbd
            obtain ⟨r, hr⟩ : ∃ r, chk a lf true (depth + 1) = r := ⟨_, rfl⟩
            rw [hr] at hz hbd1 hbd2 HN hp2
            rw [hr]
            clear hr
            obtain ⟨r1, r2⟩ := r
            obtain rfl : r1 = 0 := hz
            change r2 ≤ lf - 1 at hbd1
            change 0 ≤ r2 at hbd2
            go_wp2_with fail
            go_roundw
            case rel => exact ⟨j + 1, r2, by omega, by go_num, hbd2, by omega, hk3, hp2, hb3, Lib.hid (HC.out.symm.trans HN.out)⟩
            case measure => simp [intOf]; omega
          · have HN := Lib.hid (HST.out.trans (if_neg hz))
            have hzb : ((chk a lf true (depth + 1)).1 != 0) = true := bne_iff_ne.2 hz
            go_wp2_with fail
            go_ret
            exact ⟨by rw [HN.out]; rfl, by rw [HN.out]; exact hp2, hk3⟩
        · have j1 : ¬ (j : Int) < (l.length : Int) := by omega
          obtain rfl : j = l.length := by omega
          have HN := Lib.hid (HC.out.trans (hch.out.trans (by rw [List.drop_length, chks])))
          go_wp2_with fail
          go_ret
          exact ⟨by rw [HN.out]; rfl, by rw [HN.out]; exact hpb, hk⟩
    · have HE := Lib.hid (show chk (.mk 3 n 0 l) left true depth = (9, left - 1) by rw [chk, if_neg HA.out, if_neg (by decide), if_neg (by rintro (⟨h, h'⟩ | ⟨h, h'⟩ | ⟨h, h0, h'⟩) <;> first | exact absurd h (by decide) | exact h' H3.out | exact absurd rfl h' | exact absurd rfl h | exact absurd rfl h0 | (rw [H5.out] at h'; cases h')), if_pos ⟨by decide, by decide⟩])
      go_enter Tryd.func15, Tryd.ntmps15
      go_wp2_with fail
      go_quiet (fail)
      go_wp2_with fail
      go_ret
      exact ⟨by rw [HE.out]; rfl, by rw [HE.out]; first | exact (hP.set_ 0 _).alloc _ | exact ((hP.set_ 0 _).alloc _).drewN _, by first | exact ((Keeps.refl (· = p) W).setCell (p := ⟨p, 0, none⟩) (fun _ => rfl) _).alloc _ | exact (((Keeps.refl (· = p) W).setCell (p := ⟨p, 0, none⟩) (fun _ => rfl) _).alloc _).drewN _⟩

end Go.Proofs.YthchnabhbpdfgaaDoor
