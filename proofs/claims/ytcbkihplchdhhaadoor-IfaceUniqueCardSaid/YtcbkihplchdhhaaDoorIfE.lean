/- iface.each at every element type. -/
import Derived.Test.YtcbkihplchdhhaaDoorIfT
namespace Go.Proofs.YtcbkihplchdhhaaDoor
open Go.RowKit Go.Shelf

namespace If
section
variable {α : Type}
/-- A function that writes an element; 'arg' makes the argument out of its cells. All is told of a base world W. -/
def WFn (m : FuncId) (pre post : Array Value) (arg : List Value → Value) (f : α → D) (g : α → Bs) (W : World) (B bw : Nat) (v : Value) (x : α) : Prop :=
  ∀ (F : Nat → Prop) (cs : List Value) (w : World) (bs : Bs), Rp W F (f x) cs → (∀ i, F i → i < B) → WrTo B bw v W bs w → bs.length + (g x).length ≤ 4194304 →
    Calls Tryd.prog m (pre.push (arg cs) ++ post) w (fun e w' => e = .returned (.tuple #[]) ∧ WrTo B bw v W (bs ++ g x) w')
theorem flatg_take (g : α → Bs) (l : List α) (j : Nat) (h : j < l.length) : (l.take (j + 1)).flatMap g = (l.take j).flatMap g ++ g l[j] := by
  rw [List.take_succ_eq_append_getElem h, List.flatMap_append]; simp
theorem flatg_le (g : α → Bs) (l : List α) (j : Nat) (h : j < l.length) : ((l.take j).flatMap g).length + (g l[j]).length ≤ (l.flatMap g).length := by
  have h1 : l.flatMap g = (l.take (j + 1)).flatMap g ++ (l.drop (j + 1)).flatMap g := by rw [← List.flatMap_append, List.take_append_drop]
  rw [h1, flatg_take g l j h]
  simp only [List.length_append]; omega
end
theorem WrTo.far {W w : World} {B bw : Nat} {v : Value} {bs : Bs} (_T : WrTo B bw v W bs w) (hlo : ∀ i, Own2 bw v i → B ≤ i) {F : Nat → Prop} (hF : ∀ i, F i → i < B) (i : Nat) (hi : F i) : ¬ Own2 bw v i := fun h => by
  have := hF i hi; have := hlo i h; omega
set_option maxRecDepth 100000 in
set_option maxHeartbeats 8000000 in
theorem eachStr_any (W : World) (B bw : Nat) (v : Value) (hlo : ∀ i, Own2 bw v i → B ≤ i) (m : FuncId) (pre post : Array Value) (eg : Enters Tryd.prog m) (g : ByteArray → Bs) (l : List ByteArray) (hc : ∀ x ∈ l, WFn m pre post argS dStr g W B bw v x)
    (F : Nat → Prop) (lv : Value) (w : World) (bs : Bs) (hS : Sl W F dStr l lv) (hF : ∀ i, F i → i < B) (T : WrTo B bw v W bs w) (hB : B ≤ bw) (hn : bs.length + (eachW g l).length ≤ 4194304) :
    Calls Tryd.prog 32 #[.pointer (some ⟨bw, 0, none⟩), lv, .func (.func m) pre post] w (fun e w' => e = .returned (.tuple #[]) ∧ WrTo B bw v W (bs ++ eachW g l) w') := by
  obtain ⟨A, c, rfl, hlc, hcm, -⟩ := hS.form
  have hal : l.length ≤ 9223372036854775807 := by unfold maxLen at hcm; omega
  have hsum : bs.length + 4 + (l.flatMap g).length ≤ 4194304 := by unfold eachW at hn; simp only [List.length_append, enc4_len] at hn; omega
  have HE : Hid (bs ++ eachW g l = bs ++ enc4 (l.length : Int) ++ l.flatMap g) := by show _ = _; unfold eachW; rw [List.append_assoc]
  have HLo := Lib.hid hlo
  have HC := Lib.hid hc
  have HS := Lib.hid hS
  have HF := Lib.hid hF
  have T0 := Lib.hid T
  have HB := Lib.hid hB
  have HL := Lib.hid hsum
  clear hlo hc hS hF T hB hn hsum hcm hlc
  unfold Enters at eg
  rw [HE.out]
  obtain ⟨b4, hb4⟩ : ∃ b4, bs ++ enc4 (l.length : Int) = b4 := ⟨_, rfl⟩
  have hb4l : b4.length + (l.flatMap g).length ≤ 4194304 := by have := HL.out; rw [← hb4]; simp only [List.length_append, enc4_len]; omega
  rw [hb4]
  have HL4 := Lib.hid hb4l
  have HB4 := Lib.hid hb4
  clear hb4 hb4l HE
  go_enter Tryd.func32, Tryd.ntmps32
  go_wp2_with fail
  with_reducible refine (wnum_to T0.out HB.out (l.length : Int) (by have := HL.out; omega)).mono ?_
  rintro e w1 ⟨rfl, t1⟩
  rw [HB4.out] at t1
  have T1 := Lib.hid t1
  clear t1 T0 HL HB4
  go_wp2_with fail
  go_loopw [14] (fun i wr => ∃ j : Nat, j ≤ l.length ∧ .int .i64 (j : Int) = i ∧ WrTo B bw v W (b4 ++ (l.take j).flatMap g) wr) (fun i _ => l.length - (intOf i).toNat)
  case atStart => exact ⟨0, Nat.zero_le _, rfl, by simpa using T1.out⟩
  case round =>
    obtain ⟨j, hj, rfl, hT⟩ := hrel
    by_cases hlt : j < l.length
    · have hft := flatg_take g l j hlt
      have hfl := flatg_le g l j hlt
      have hmem := List.getElem_mem hlt
      obtain ⟨gg, off, hA, hgF, d0, hs0⟩ := dStr.get HS.out hlt
      have hR : Rp W (fun i => i < B) (dStr l[j]) [.string l[j]] := rp_str.2 ⟨rfl, hs0⟩
      have hfar := hT.far HLo.out HF.out gg hgF
      obtain ⟨a, ha⟩ : ∃ a, l[j] = a := ⟨_, rfl⟩
      rw [ha] at d0 hft hfl hmem hR hs0
      have c0 := hT.keeps.cell d0 hfar
      clear d0 hfar hgF
      subst hA
      have k0 : (0 : Int) ≤ (j : Int) := by omega
      have k1 : (j : Int) < (l.length : Int) := by omega
      have HX := Lib.hid ((HC.out a hmem) (fun i => i < B) _ _ _ hR (fun _ h => h) hT (by have := HL4.out; simp only [List.length_append]; omega))
      have HFt := Lib.hid hft
      clear hft hfl hmem ha hR hT hs0
      go_wp2_with fail
      refine HX.out.mono ?_
      rintro e w6 ⟨rfl, t6⟩
      have T6 := Lib.hid t6
      clear t6 HX
      go_wp2_with fail
      go_roundw
      case rel => exact ⟨j + 1, by omega, by go_num, by rw [HFt.out, ← List.append_assoc]; exact T6.out⟩
      case measure => simp [intOf]; omega
    · obtain rfl : j = l.length := by omega
      have k1 : ¬ ((l.length : Nat) : Int) < (l.length : Int) := by omega
      rw [List.take_of_length_le (Nat.le_refl _)] at hT
      have HX := Lib.hid hT
      clear hT
      go_wp2_with fail
      go_end0
      exact ⟨rfl, HX.out⟩
set_option maxRecDepth 100000 in
set_option maxHeartbeats 8000000 in
theorem eachTy_any (W : World) (B bw : Nat) (v : Value) (hlo : ∀ i, Own2 bw v i → B ≤ i) (m : FuncId) (pre post : Array Value) (eg : Enters Tryd.prog m) (g : Ty → Bs) (l : List Ty) (hc : ∀ x ∈ l, WFn m pre post argA tyD g W B bw v x)
    (F : Nat → Prop) (lv : Value) (w : World) (bs : Bs) (hS : Sl W F tyD l lv) (hF : ∀ i, F i → i < B) (T : WrTo B bw v W bs w) (hB : B ≤ bw) (hn : bs.length + (eachW g l).length ≤ 4194304) :
    Calls Tryd.prog 84 #[.pointer (some ⟨bw, 0, none⟩), lv, .func (.func m) pre post] w (fun e w' => e = .returned (.tuple #[]) ∧ WrTo B bw v W (bs ++ eachW g l) w') := by
  obtain ⟨A, c, rfl, hlc, hcm, -⟩ := hS.form
  have hal : l.length ≤ 9223372036854775807 := by unfold maxLen at hcm; omega
  have hsum : bs.length + 4 + (l.flatMap g).length ≤ 4194304 := by unfold eachW at hn; simp only [List.length_append, enc4_len] at hn; omega
  have HE : Hid (bs ++ eachW g l = bs ++ enc4 (l.length : Int) ++ l.flatMap g) := by show _ = _; unfold eachW; rw [List.append_assoc]
  have HLo := Lib.hid hlo
  have HC := Lib.hid hc
  have HS := Lib.hid hS
  have HF := Lib.hid hF
  have T0 := Lib.hid T
  have HB := Lib.hid hB
  have HL := Lib.hid hsum
  clear hlo hc hS hF T hB hn hsum hcm hlc
  unfold Enters at eg
  rw [HE.out]
  obtain ⟨b4, hb4⟩ : ∃ b4, bs ++ enc4 (l.length : Int) = b4 := ⟨_, rfl⟩
  have hb4l : b4.length + (l.flatMap g).length ≤ 4194304 := by have := HL.out; rw [← hb4]; simp only [List.length_append, enc4_len]; omega
  rw [hb4]
  have HL4 := Lib.hid hb4l
  have HB4 := Lib.hid hb4
  clear hb4 hb4l HE
  go_enter Tryd.func84, Tryd.ntmps84
  go_wp2_with fail
  with_reducible refine (wnum_to T0.out HB.out (l.length : Int) (by have := HL.out; omega)).mono ?_
  rintro e w1 ⟨rfl, t1⟩
  rw [HB4.out] at t1
  have T1 := Lib.hid t1
  clear t1 T0 HL HB4
  go_wp2_with fail
  go_loopw [14] (fun i wr => ∃ j : Nat, j ≤ l.length ∧ .int .i64 (j : Int) = i ∧ WrTo B bw v W (b4 ++ (l.take j).flatMap g) wr) (fun i _ => l.length - (intOf i).toNat)
  case atStart => exact ⟨0, Nat.zero_le _, rfl, by simpa using T1.out⟩
  case round =>
    obtain ⟨j, hj, rfl, hT⟩ := hrel
    by_cases hlt : j < l.length
    · have hft := flatg_take g l j hlt
      have hfl := flatg_le g l j hlt
      have hmem := List.getElem_mem hlt
      obtain ⟨gg, off, v3, hA, hgF, d0, d1, d2, d3, s3⟩ := tyD.get HS.out hlt
      obtain ⟨a, ha⟩ : ∃ a, l[j] = a := ⟨_, rfl⟩
      rw [ha] at hft hfl hmem d0 d1 d2 s3
      obtain ⟨A3, k3, rfl, -, -, -⟩ := s3.form
      subst hA
      have hRW : Rp W F (tyD a) [.int .i64 a.kind, .string a.name, .int .i64 a.var, .slice A3 a.args.length k3] := tyD.rp.2 ⟨_, rfl, s3⟩
      have hfar := hT.far HLo.out HF.out gg hgF
      have c0 := hT.keeps.cell d0 hfar
      clear d0
      have c1 := hT.keeps.cell d1 hfar
      clear d1
      have c2 := hT.keeps.cell d2 hfar
      clear d2
      have c3 := hT.keeps.cell d3 hfar
      clear d3
      clear hfar hgF
      have k0 : (0 : Int) ≤ (j : Int) := by omega
      have k1 : (j : Int) < (l.length : Int) := by omega
      obtain ⟨ba, hba⟩ : ∃ ba, wr.heap.size = ba := ⟨_, rfl⟩
      obtain ⟨W1, hW1⟩ : ∃ W1, wr.alloc (.cells #[.int .i64 a.kind, .string a.name, .int .i64 a.var, .slice A3 a.args.length k3] 47) = W1 := ⟨_, rfl⟩
      have hk1 : Keeps (fun _ => False) wr W1 := by rw [← hW1]; exact (Keeps.refl _ _).alloc _
      have hb1 : Blk W1 ba 47 [.int .i64 a.kind, .string a.name, .int .i64 a.var, .slice A3 a.args.length k3] := by rw [← hW1, ← hba]; exact Blk.new wr _ [_, _, _, _]
      have y0 := hb1.cell (i := 0) rfl
      have y1 := hb1.cell (i := 1) rfl
      have y2 := hb1.cell (i := 2) rfl
      have y3 := hb1.cell (i := 3) rfl
      have HX := Lib.hid ((HC.out a hmem) F _ _ _ hRW HF.out (hT.more hk1) (by have := HL4.out; simp only [List.length_append]; omega))
      have HFt := Lib.hid hft
      have HW1 := Lib.hid hW1
      have HBa := Lib.hid hba
      clear hft hfl hmem ha hRW hk1 hb1 hW1 hba hT s3
      go_upto_region 4 with (fail)
      rw [HW1.out, HBa.out]
      clear c0 c1 c2 c3
      go_wp2_with fail
      refine HX.out.mono ?_
      rintro e w6 ⟨rfl, t6⟩
      have T6 := Lib.hid t6
      clear t6 HX
      go_wp2_with fail
      go_roundw
      case rel => exact ⟨j + 1, by omega, by go_num, by rw [HFt.out, ← List.append_assoc]; exact T6.out⟩
      case measure => simp [intOf]; omega
    · obtain rfl : j = l.length := by omega
      have k1 : ¬ ((l.length : Nat) : Int) < (l.length : Int) := by omega
      rw [List.take_of_length_le (Nat.le_refl _)] at hT
      have HX := Lib.hid hT
      clear hT
      go_wp2_with fail
      go_end0
      exact ⟨rfl, HX.out⟩
set_option maxRecDepth 100000 in
set_option maxHeartbeats 8000000 in
theorem eachConSig_any (W : World) (B bw : Nat) (v : Value) (hlo : ∀ i, Own2 bw v i → B ≤ i) (m : FuncId) (pre post : Array Value) (eg : Enters Tryd.prog m) (g : ConSig → Bs) (l : List ConSig) (hc : ∀ x ∈ l, WFn m pre post argA ConSig.d g W B bw v x)
    (F : Nat → Prop) (lv : Value) (w : World) (bs : Bs) (hS : Sl W F ConSig.d l lv) (hF : ∀ i, F i → i < B) (T : WrTo B bw v W bs w) (hB : B ≤ bw) (hn : bs.length + (eachW g l).length ≤ 4194304) :
    Calls Tryd.prog 82 #[.pointer (some ⟨bw, 0, none⟩), lv, .func (.func m) pre post] w (fun e w' => e = .returned (.tuple #[]) ∧ WrTo B bw v W (bs ++ eachW g l) w') := by
  obtain ⟨A, c, rfl, hlc, hcm, -⟩ := hS.form
  have hal : l.length ≤ 9223372036854775807 := by unfold maxLen at hcm; omega
  have hsum : bs.length + 4 + (l.flatMap g).length ≤ 4194304 := by unfold eachW at hn; simp only [List.length_append, enc4_len] at hn; omega
  have HE : Hid (bs ++ eachW g l = bs ++ enc4 (l.length : Int) ++ l.flatMap g) := by show _ = _; unfold eachW; rw [List.append_assoc]
  have HLo := Lib.hid hlo
  have HC := Lib.hid hc
  have HS := Lib.hid hS
  have HF := Lib.hid hF
  have T0 := Lib.hid T
  have HB := Lib.hid hB
  have HL := Lib.hid hsum
  clear hlo hc hS hF T hB hn hsum hcm hlc
  unfold Enters at eg
  rw [HE.out]
  obtain ⟨b4, hb4⟩ : ∃ b4, bs ++ enc4 (l.length : Int) = b4 := ⟨_, rfl⟩
  have hb4l : b4.length + (l.flatMap g).length ≤ 4194304 := by have := HL.out; rw [← hb4]; simp only [List.length_append, enc4_len]; omega
  rw [hb4]
  have HL4 := Lib.hid hb4l
  have HB4 := Lib.hid hb4
  clear hb4 hb4l HE
  go_enter Tryd.func82, Tryd.ntmps82
  go_wp2_with fail
  with_reducible refine (wnum_to T0.out HB.out (l.length : Int) (by have := HL.out; omega)).mono ?_
  rintro e w1 ⟨rfl, t1⟩
  rw [HB4.out] at t1
  have T1 := Lib.hid t1
  clear t1 T0 HL HB4
  go_wp2_with fail
  go_loopw [14] (fun i wr => ∃ j : Nat, j ≤ l.length ∧ .int .i64 (j : Int) = i ∧ WrTo B bw v W (b4 ++ (l.take j).flatMap g) wr) (fun i _ => l.length - (intOf i).toNat)
  case atStart => exact ⟨0, Nat.zero_le _, rfl, by simpa using T1.out⟩
  case round =>
    obtain ⟨j, hj, rfl, hT⟩ := hrel
    by_cases hlt : j < l.length
    · have hft := flatg_take g l j hlt
      have hfl := flatg_le g l j hlt
      have hmem := List.getElem_mem hlt
      obtain ⟨gg, off, v1, hA, hgF, d0, d1, s0, s1⟩ := ConSig.get HS.out hlt
      obtain ⟨a, ha⟩ : ∃ a, l[j] = a := ⟨_, rfl⟩
      rw [ha] at hft hfl hmem d0 s0 s1
      obtain ⟨A1, q1, rfl, -, -, -⟩ := s1.form
      subst hA
      have hRW : Rp W F (ConSig.d a) [.string a.name, .slice A1 a.args.length q1] := ConSig.rp.2 ⟨_, rfl, s0, s1⟩
      have hfar := hT.far HLo.out HF.out gg hgF
      have c0 := hT.keeps.cell d0 hfar
      clear d0
      have c1 := hT.keeps.cell d1 hfar
      clear d1
      clear hfar hgF
      have k0 : (0 : Int) ≤ (j : Int) := by omega
      have k1 : (j : Int) < (l.length : Int) := by omega
      obtain ⟨ba, hba⟩ : ∃ ba, wr.heap.size = ba := ⟨_, rfl⟩
      obtain ⟨W1, hW1⟩ : ∃ W1, wr.alloc (.cells #[.string a.name, .slice A1 a.args.length q1] 56) = W1 := ⟨_, rfl⟩
      have hk1 : Keeps (fun _ => False) wr W1 := by rw [← hW1]; exact (Keeps.refl _ _).alloc _
      have hb1 : Blk W1 ba 56 [.string a.name, .slice A1 a.args.length q1] := by rw [← hW1, ← hba]; exact Blk.new wr _ [_, _]
      have y0 := hb1.cell (i := 0) rfl
      have y1 := hb1.cell (i := 1) rfl
      have HX := Lib.hid ((HC.out a hmem) F _ _ _ hRW HF.out (hT.more hk1) (by have := HL4.out; simp only [List.length_append]; omega))
      have HFt := Lib.hid hft
      have HW1 := Lib.hid hW1
      have HBa := Lib.hid hba
      clear hft hfl hmem ha hRW hk1 hb1 hW1 hba hT s0 s1
      go_upto_region 4 with (fail)
      rw [HW1.out, HBa.out]
      clear c0 c1
      go_wp2_with fail
      refine HX.out.mono ?_
      rintro e w6 ⟨rfl, t6⟩
      have T6 := Lib.hid t6
      clear t6 HX
      go_wp2_with fail
      go_roundw
      case rel => exact ⟨j + 1, by omega, by go_num, by rw [HFt.out, ← List.append_assoc]; exact T6.out⟩
      case measure => simp [intOf]; omega
    · obtain rfl : j = l.length := by omega
      have k1 : ¬ ((l.length : Nat) : Int) < (l.length : Int) := by omega
      rw [List.take_of_length_le (Nat.le_refl _)] at hT
      have HX := Lib.hid hT
      clear hT
      go_wp2_with fail
      go_end0
      exact ⟨rfl, HX.out⟩
set_option maxRecDepth 100000 in
set_option maxHeartbeats 8000000 in
theorem eachDataSig_any (W : World) (B bw : Nat) (v : Value) (hlo : ∀ i, Own2 bw v i → B ≤ i) (m : FuncId) (pre post : Array Value) (eg : Enters Tryd.prog m) (g : DataSig → Bs) (l : List DataSig) (hc : ∀ x ∈ l, WFn m pre post argA DataSig.d g W B bw v x)
    (F : Nat → Prop) (lv : Value) (w : World) (bs : Bs) (hS : Sl W F DataSig.d l lv) (hF : ∀ i, F i → i < B) (T : WrTo B bw v W bs w) (hB : B ≤ bw) (hn : bs.length + (eachW g l).length ≤ 4194304) :
    Calls Tryd.prog 36 #[.pointer (some ⟨bw, 0, none⟩), lv, .func (.func m) pre post] w (fun e w' => e = .returned (.tuple #[]) ∧ WrTo B bw v W (bs ++ eachW g l) w') := by
  obtain ⟨A, c, rfl, hlc, hcm, -⟩ := hS.form
  have hal : l.length ≤ 9223372036854775807 := by unfold maxLen at hcm; omega
  have hsum : bs.length + 4 + (l.flatMap g).length ≤ 4194304 := by unfold eachW at hn; simp only [List.length_append, enc4_len] at hn; omega
  have HE : Hid (bs ++ eachW g l = bs ++ enc4 (l.length : Int) ++ l.flatMap g) := by show _ = _; unfold eachW; rw [List.append_assoc]
  have HLo := Lib.hid hlo
  have HC := Lib.hid hc
  have HS := Lib.hid hS
  have HF := Lib.hid hF
  have T0 := Lib.hid T
  have HB := Lib.hid hB
  have HL := Lib.hid hsum
  clear hlo hc hS hF T hB hn hsum hcm hlc
  unfold Enters at eg
  rw [HE.out]
  obtain ⟨b4, hb4⟩ : ∃ b4, bs ++ enc4 (l.length : Int) = b4 := ⟨_, rfl⟩
  have hb4l : b4.length + (l.flatMap g).length ≤ 4194304 := by have := HL.out; rw [← hb4]; simp only [List.length_append, enc4_len]; omega
  rw [hb4]
  have HL4 := Lib.hid hb4l
  have HB4 := Lib.hid hb4
  clear hb4 hb4l HE
  go_enter Tryd.func36, Tryd.ntmps36
  go_wp2_with fail
  with_reducible refine (wnum_to T0.out HB.out (l.length : Int) (by have := HL.out; omega)).mono ?_
  rintro e w1 ⟨rfl, t1⟩
  rw [HB4.out] at t1
  have T1 := Lib.hid t1
  clear t1 T0 HL HB4
  go_wp2_with fail
  go_loopw [14] (fun i wr => ∃ j : Nat, j ≤ l.length ∧ .int .i64 (j : Int) = i ∧ WrTo B bw v W (b4 ++ (l.take j).flatMap g) wr) (fun i _ => l.length - (intOf i).toNat)
  case atStart => exact ⟨0, Nat.zero_le _, rfl, by simpa using T1.out⟩
  case round =>
    obtain ⟨j, hj, rfl, hT⟩ := hrel
    by_cases hlt : j < l.length
    · have hft := flatg_take g l j hlt
      have hfl := flatg_le g l j hlt
      have hmem := List.getElem_mem hlt
      obtain ⟨gg, off, v2, hA, hgF, d0, d1, d2, s0, s1, s2⟩ := DataSig.get HS.out hlt
      obtain ⟨a, ha⟩ : ∃ a, l[j] = a := ⟨_, rfl⟩
      rw [ha] at hft hfl hmem d0 d1 s0 s1 s2
      obtain ⟨A2, q2, rfl, -, -, -⟩ := s2.form
      subst hA
      have hRW : Rp W F (DataSig.d a) [.string a.name, .int .i64 a.params, .slice A2 a.cons.length q2] := DataSig.rp.2 ⟨_, rfl, s0, s1, s2⟩
      have hfar := hT.far HLo.out HF.out gg hgF
      have c0 := hT.keeps.cell d0 hfar
      clear d0
      have c1 := hT.keeps.cell d1 hfar
      clear d1
      have c2 := hT.keeps.cell d2 hfar
      clear d2
      clear hfar hgF
      have k0 : (0 : Int) ≤ (j : Int) := by omega
      have k1 : (j : Int) < (l.length : Int) := by omega
      obtain ⟨ba, hba⟩ : ∃ ba, wr.heap.size = ba := ⟨_, rfl⟩
      obtain ⟨W1, hW1⟩ : ∃ W1, wr.alloc (.cells #[.string a.name, .int .i64 a.params, .slice A2 a.cons.length q2] 54) = W1 := ⟨_, rfl⟩
      have hk1 : Keeps (fun _ => False) wr W1 := by rw [← hW1]; exact (Keeps.refl _ _).alloc _
      have hb1 : Blk W1 ba 54 [.string a.name, .int .i64 a.params, .slice A2 a.cons.length q2] := by rw [← hW1, ← hba]; exact Blk.new wr _ [_, _, _]
      have y0 := hb1.cell (i := 0) rfl
      have y1 := hb1.cell (i := 1) rfl
      have y2 := hb1.cell (i := 2) rfl
      have HX := Lib.hid ((HC.out a hmem) F _ _ _ hRW HF.out (hT.more hk1) (by have := HL4.out; simp only [List.length_append]; omega))
      have HFt := Lib.hid hft
      have HW1 := Lib.hid hW1
      have HBa := Lib.hid hba
      clear hft hfl hmem ha hRW hk1 hb1 hW1 hba hT s0 s1 s2
      go_upto_region 4 with (fail)
      rw [HW1.out, HBa.out]
      clear c0 c1 c2
      go_wp2_with fail
      refine HX.out.mono ?_
      rintro e w6 ⟨rfl, t6⟩
      have T6 := Lib.hid t6
      clear t6 HX
      go_wp2_with fail
      go_roundw
      case rel => exact ⟨j + 1, by omega, by go_num, by rw [HFt.out, ← List.append_assoc]; exact T6.out⟩
      case measure => simp [intOf]; omega
    · obtain rfl : j = l.length := by omega
      have k1 : ¬ ((l.length : Nat) : Int) < (l.length : Int) := by omega
      rw [List.take_of_length_le (Nat.le_refl _)] at hT
      have HX := Lib.hid hT
      clear hT
      go_wp2_with fail
      go_end0
      exact ⟨rfl, HX.out⟩
set_option maxRecDepth 100000 in
set_option maxHeartbeats 8000000 in
theorem eachFixSig_any (W : World) (B bw : Nat) (v : Value) (hlo : ∀ i, Own2 bw v i → B ≤ i) (m : FuncId) (pre post : Array Value) (eg : Enters Tryd.prog m) (g : FixSig → Bs) (l : List FixSig) (hc : ∀ x ∈ l, WFn m pre post argA FixSig.d g W B bw v x)
    (F : Nat → Prop) (lv : Value) (w : World) (bs : Bs) (hS : Sl W F FixSig.d l lv) (hF : ∀ i, F i → i < B) (T : WrTo B bw v W bs w) (hB : B ≤ bw) (hn : bs.length + (eachW g l).length ≤ 4194304) :
    Calls Tryd.prog 33 #[.pointer (some ⟨bw, 0, none⟩), lv, .func (.func m) pre post] w (fun e w' => e = .returned (.tuple #[]) ∧ WrTo B bw v W (bs ++ eachW g l) w') := by
  obtain ⟨A, c, rfl, hlc, hcm, -⟩ := hS.form
  have hal : l.length ≤ 9223372036854775807 := by unfold maxLen at hcm; omega
  have hsum : bs.length + 4 + (l.flatMap g).length ≤ 4194304 := by unfold eachW at hn; simp only [List.length_append, enc4_len] at hn; omega
  have HE : Hid (bs ++ eachW g l = bs ++ enc4 (l.length : Int) ++ l.flatMap g) := by show _ = _; unfold eachW; rw [List.append_assoc]
  have HLo := Lib.hid hlo
  have HC := Lib.hid hc
  have HS := Lib.hid hS
  have HF := Lib.hid hF
  have T0 := Lib.hid T
  have HB := Lib.hid hB
  have HL := Lib.hid hsum
  clear hlo hc hS hF T hB hn hsum hcm hlc
  unfold Enters at eg
  rw [HE.out]
  obtain ⟨b4, hb4⟩ : ∃ b4, bs ++ enc4 (l.length : Int) = b4 := ⟨_, rfl⟩
  have hb4l : b4.length + (l.flatMap g).length ≤ 4194304 := by have := HL.out; rw [← hb4]; simp only [List.length_append, enc4_len]; omega
  rw [hb4]
  have HL4 := Lib.hid hb4l
  have HB4 := Lib.hid hb4
  clear hb4 hb4l HE
  go_enter Tryd.func33, Tryd.ntmps33
  go_wp2_with fail
  with_reducible refine (wnum_to T0.out HB.out (l.length : Int) (by have := HL.out; omega)).mono ?_
  rintro e w1 ⟨rfl, t1⟩
  rw [HB4.out] at t1
  have T1 := Lib.hid t1
  clear t1 T0 HL HB4
  go_wp2_with fail
  go_loopw [14] (fun i wr => ∃ j : Nat, j ≤ l.length ∧ .int .i64 (j : Int) = i ∧ WrTo B bw v W (b4 ++ (l.take j).flatMap g) wr) (fun i _ => l.length - (intOf i).toNat)
  case atStart => exact ⟨0, Nat.zero_le _, rfl, by simpa using T1.out⟩
  case round =>
    obtain ⟨j, hj, rfl, hT⟩ := hrel
    by_cases hlt : j < l.length
    · have hft := flatg_take g l j hlt
      have hfl := flatg_le g l j hlt
      have hmem := List.getElem_mem hlt
      obtain ⟨gg, off, hA, hgF, d0, d1, d2, s0, s1, s2⟩ := FixSig.get HS.out hlt
      obtain ⟨a, ha⟩ : ∃ a, l[j] = a := ⟨_, rfl⟩
      rw [ha] at hft hfl hmem d0 d1 d2 s0 s1 s2
      subst hA
      have hRW : Rp W F (FixSig.d a) [.string a.op, .int .i64 a.side, .int .i64 a.level] := FixSig.rp.2 ⟨rfl, s0, s1, s2⟩
      have hfar := hT.far HLo.out HF.out gg hgF
      have c0 := hT.keeps.cell d0 hfar
      clear d0
      have c1 := hT.keeps.cell d1 hfar
      clear d1
      have c2 := hT.keeps.cell d2 hfar
      clear d2
      clear hfar hgF
      have k0 : (0 : Int) ≤ (j : Int) := by omega
      have k1 : (j : Int) < (l.length : Int) := by omega
      obtain ⟨ba, hba⟩ : ∃ ba, wr.heap.size = ba := ⟨_, rfl⟩
      obtain ⟨W1, hW1⟩ : ∃ W1, wr.alloc (.cells #[.string a.op, .int .i64 a.side, .int .i64 a.level] 51) = W1 := ⟨_, rfl⟩
      have hk1 : Keeps (fun _ => False) wr W1 := by rw [← hW1]; exact (Keeps.refl _ _).alloc _
      have hb1 : Blk W1 ba 51 [.string a.op, .int .i64 a.side, .int .i64 a.level] := by rw [← hW1, ← hba]; exact Blk.new wr _ [_, _, _]
      have y0 := hb1.cell (i := 0) rfl
      have y1 := hb1.cell (i := 1) rfl
      have y2 := hb1.cell (i := 2) rfl
      have HX := Lib.hid ((HC.out a hmem) F _ _ _ hRW HF.out (hT.more hk1) (by have := HL4.out; simp only [List.length_append]; omega))
      have HFt := Lib.hid hft
      have HW1 := Lib.hid hW1
      have HBa := Lib.hid hba
      clear hft hfl hmem ha hRW hk1 hb1 hW1 hba hT s0 s1 s2
      go_upto_region 4 with (fail)
      rw [HW1.out, HBa.out]
      clear c0 c1 c2
      go_wp2_with fail
      refine HX.out.mono ?_
      rintro e w6 ⟨rfl, t6⟩
      have T6 := Lib.hid t6
      clear t6 HX
      go_wp2_with fail
      go_roundw
      case rel => exact ⟨j + 1, by omega, by go_num, by rw [HFt.out, ← List.append_assoc]; exact T6.out⟩
      case measure => simp [intOf]; omega
    · obtain rfl : j = l.length := by omega
      have k1 : ¬ ((l.length : Nat) : Int) < (l.length : Int) := by omega
      rw [List.take_of_length_le (Nat.le_refl _)] at hT
      have HX := Lib.hid hT
      clear hT
      go_wp2_with fail
      go_end0
      exact ⟨rfl, HX.out⟩
set_option maxRecDepth 100000 in
set_option maxHeartbeats 8000000 in
theorem eachPred_any (W : World) (B bw : Nat) (v : Value) (hlo : ∀ i, Own2 bw v i → B ≤ i) (m : FuncId) (pre post : Array Value) (eg : Enters Tryd.prog m) (g : Pred → Bs) (l : List Pred) (hc : ∀ x ∈ l, WFn m pre post argA Pred.d g W B bw v x)
    (F : Nat → Prop) (lv : Value) (w : World) (bs : Bs) (hS : Sl W F Pred.d l lv) (hF : ∀ i, F i → i < B) (T : WrTo B bw v W bs w) (hB : B ≤ bw) (hn : bs.length + (eachW g l).length ≤ 4194304) :
    Calls Tryd.prog 45 #[.pointer (some ⟨bw, 0, none⟩), lv, .func (.func m) pre post] w (fun e w' => e = .returned (.tuple #[]) ∧ WrTo B bw v W (bs ++ eachW g l) w') := by
  obtain ⟨A, c, rfl, hlc, hcm, -⟩ := hS.form
  have hal : l.length ≤ 9223372036854775807 := by unfold maxLen at hcm; omega
  have hsum : bs.length + 4 + (l.flatMap g).length ≤ 4194304 := by unfold eachW at hn; simp only [List.length_append, enc4_len] at hn; omega
  have HE : Hid (bs ++ eachW g l = bs ++ enc4 (l.length : Int) ++ l.flatMap g) := by show _ = _; unfold eachW; rw [List.append_assoc]
  have HLo := Lib.hid hlo
  have HC := Lib.hid hc
  have HS := Lib.hid hS
  have HF := Lib.hid hF
  have T0 := Lib.hid T
  have HB := Lib.hid hB
  have HL := Lib.hid hsum
  clear hlo hc hS hF T hB hn hsum hcm hlc
  unfold Enters at eg
  rw [HE.out]
  obtain ⟨b4, hb4⟩ : ∃ b4, bs ++ enc4 (l.length : Int) = b4 := ⟨_, rfl⟩
  have hb4l : b4.length + (l.flatMap g).length ≤ 4194304 := by have := HL.out; rw [← hb4]; simp only [List.length_append, enc4_len]; omega
  rw [hb4]
  have HL4 := Lib.hid hb4l
  have HB4 := Lib.hid hb4
  clear hb4 hb4l HE
  go_enter Tryd.func45, Tryd.ntmps45
  go_wp2_with fail
  with_reducible refine (wnum_to T0.out HB.out (l.length : Int) (by have := HL.out; omega)).mono ?_
  rintro e w1 ⟨rfl, t1⟩
  rw [HB4.out] at t1
  have T1 := Lib.hid t1
  clear t1 T0 HL HB4
  go_wp2_with fail
  go_loopw [14] (fun i wr => ∃ j : Nat, j ≤ l.length ∧ .int .i64 (j : Int) = i ∧ WrTo B bw v W (b4 ++ (l.take j).flatMap g) wr) (fun i _ => l.length - (intOf i).toNat)
  case atStart => exact ⟨0, Nat.zero_le _, rfl, by simpa using T1.out⟩
  case round =>
    obtain ⟨j, hj, rfl, hT⟩ := hrel
    by_cases hlt : j < l.length
    · have hft := flatg_take g l j hlt
      have hfl := flatg_le g l j hlt
      have hmem := List.getElem_mem hlt
      obtain ⟨gg, off, v1, hA, hgF, d0, d1, d2, d3, d4, s0, s1⟩ := Pred.get HS.out hlt
      obtain ⟨a, ha⟩ : ∃ a, l[j] = a := ⟨_, rfl⟩
      rw [ha] at hft hfl hmem d0 d1 d2 d3 s0 s1
      obtain ⟨A1, q1, rfl, -, -, -⟩ := s1.form
      subst hA
      have hRW : Rp W F (Pred.d a) [.string a.cls, .int .i64 a.ty.kind, .string a.ty.name, .int .i64 a.ty.var, .slice A1 a.ty.args.length q1] := Pred.rp.2 ⟨_, rfl, s0, s1⟩
      have hfar := hT.far HLo.out HF.out gg hgF
      have c0 := hT.keeps.cell d0 hfar
      clear d0
      have c1 := hT.keeps.cell d1 hfar
      clear d1
      have c2 := hT.keeps.cell d2 hfar
      clear d2
      have c3 := hT.keeps.cell d3 hfar
      clear d3
      have c4 := hT.keeps.cell d4 hfar
      clear d4
      clear hfar hgF
      have k0 : (0 : Int) ≤ (j : Int) := by omega
      have k1 : (j : Int) < (l.length : Int) := by omega
      obtain ⟨ba, hba⟩ : ∃ ba, wr.heap.size = ba := ⟨_, rfl⟩
      obtain ⟨W1, hW1⟩ : ∃ W1, wr.alloc (.cells #[.string a.cls, .int .i64 a.ty.kind, .string a.ty.name, .int .i64 a.ty.var, .slice A1 a.ty.args.length q1] 104) = W1 := ⟨_, rfl⟩
      have hk1 : Keeps (fun _ => False) wr W1 := by rw [← hW1]; exact (Keeps.refl _ _).alloc _
      have hb1 : Blk W1 ba 104 [.string a.cls, .int .i64 a.ty.kind, .string a.ty.name, .int .i64 a.ty.var, .slice A1 a.ty.args.length q1] := by rw [← hW1, ← hba]; exact Blk.new wr _ [_, _, _, _, _]
      have y0 := hb1.cell (i := 0) rfl
      have y1 := hb1.cell (i := 1) rfl
      have y2 := hb1.cell (i := 2) rfl
      have y3 := hb1.cell (i := 3) rfl
      have y4 := hb1.cell (i := 4) rfl
      have HX := Lib.hid ((HC.out a hmem) F _ _ _ hRW HF.out (hT.more hk1) (by have := HL4.out; simp only [List.length_append]; omega))
      have HFt := Lib.hid hft
      have HW1 := Lib.hid hW1
      have HBa := Lib.hid hba
      clear hft hfl hmem ha hRW hk1 hb1 hW1 hba hT s0 s1
      go_upto_region 4 with (fail)
      rw [HW1.out, HBa.out]
      clear c0 c1 c2 c3 c4
      go_wp2_with fail
      refine HX.out.mono ?_
      rintro e w6 ⟨rfl, t6⟩
      have T6 := Lib.hid t6
      clear t6 HX
      go_wp2_with fail
      go_roundw
      case rel => exact ⟨j + 1, by omega, by go_num, by rw [HFt.out, ← List.append_assoc]; exact T6.out⟩
      case measure => simp [intOf]; omega
    · obtain rfl : j = l.length := by omega
      have k1 : ¬ ((l.length : Nat) : Int) < (l.length : Int) := by omega
      rw [List.take_of_length_le (Nat.le_refl _)] at hT
      have HX := Lib.hid hT
      clear hT
      go_wp2_with fail
      go_end0
      exact ⟨rfl, HX.out⟩
set_option maxRecDepth 100000 in
set_option maxHeartbeats 8000000 in
theorem eachValSig_any (W : World) (B bw : Nat) (v : Value) (hlo : ∀ i, Own2 bw v i → B ≤ i) (m : FuncId) (pre post : Array Value) (eg : Enters Tryd.prog m) (g : ValSig → Bs) (l : List ValSig) (hc : ∀ x ∈ l, WFn m pre post argA ValSig.d g W B bw v x)
    (F : Nat → Prop) (lv : Value) (w : World) (bs : Bs) (hS : Sl W F ValSig.d l lv) (hF : ∀ i, F i → i < B) (T : WrTo B bw v W bs w) (hB : B ≤ bw) (hn : bs.length + (eachW g l).length ≤ 4194304) :
    Calls Tryd.prog 40 #[.pointer (some ⟨bw, 0, none⟩), lv, .func (.func m) pre post] w (fun e w' => e = .returned (.tuple #[]) ∧ WrTo B bw v W (bs ++ eachW g l) w') := by
  obtain ⟨A, c, rfl, hlc, hcm, -⟩ := hS.form
  have hal : l.length ≤ 9223372036854775807 := by unfold maxLen at hcm; omega
  have hsum : bs.length + 4 + (l.flatMap g).length ≤ 4194304 := by unfold eachW at hn; simp only [List.length_append, enc4_len] at hn; omega
  have HE : Hid (bs ++ eachW g l = bs ++ enc4 (l.length : Int) ++ l.flatMap g) := by show _ = _; unfold eachW; rw [List.append_assoc]
  have HLo := Lib.hid hlo
  have HC := Lib.hid hc
  have HS := Lib.hid hS
  have HF := Lib.hid hF
  have T0 := Lib.hid T
  have HB := Lib.hid hB
  have HL := Lib.hid hsum
  clear hlo hc hS hF T hB hn hsum hcm hlc
  unfold Enters at eg
  rw [HE.out]
  obtain ⟨b4, hb4⟩ : ∃ b4, bs ++ enc4 (l.length : Int) = b4 := ⟨_, rfl⟩
  have hb4l : b4.length + (l.flatMap g).length ≤ 4194304 := by have := HL.out; rw [← hb4]; simp only [List.length_append, enc4_len]; omega
  rw [hb4]
  have HL4 := Lib.hid hb4l
  have HB4 := Lib.hid hb4
  clear hb4 hb4l HE
  go_enter Tryd.func40, Tryd.ntmps40
  go_wp2_with fail
  with_reducible refine (wnum_to T0.out HB.out (l.length : Int) (by have := HL.out; omega)).mono ?_
  rintro e w1 ⟨rfl, t1⟩
  rw [HB4.out] at t1
  have T1 := Lib.hid t1
  clear t1 T0 HL HB4
  go_wp2_with fail
  go_loopw [14] (fun i wr => ∃ j : Nat, j ≤ l.length ∧ .int .i64 (j : Int) = i ∧ WrTo B bw v W (b4 ++ (l.take j).flatMap g) wr) (fun i _ => l.length - (intOf i).toNat)
  case atStart => exact ⟨0, Nat.zero_le _, rfl, by simpa using T1.out⟩
  case round =>
    obtain ⟨j, hj, rfl, hT⟩ := hrel
    by_cases hlt : j < l.length
    · have hft := flatg_take g l j hlt
      have hfl := flatg_le g l j hlt
      have hmem := List.getElem_mem hlt
      obtain ⟨gg, off, v2, v3, hA, hgF, d0, d1, d2, d3, d4, d5, d6, s0, s1, s2, s3⟩ := ValSig.get HS.out hlt
      obtain ⟨a, ha⟩ : ∃ a, l[j] = a := ⟨_, rfl⟩
      rw [ha] at hft hfl hmem d0 d1 d3 d4 d5 s0 s1 s2 s3
      obtain ⟨A2, q2, rfl, -, -, -⟩ := s2.form
      obtain ⟨A3, q3, rfl, -, -, -⟩ := s3.form
      subst hA
      have hRW : Rp W F (ValSig.d a) [.string a.name, .int .i64 a.vars, .slice A2 a.preds.length q2, .int .i64 a.ty.kind, .string a.ty.name, .int .i64 a.ty.var, .slice A3 a.ty.args.length q3] := ValSig.rp.2 ⟨_, _, rfl, s0, s1, s2, s3⟩
      have hfar := hT.far HLo.out HF.out gg hgF
      have c0 := hT.keeps.cell d0 hfar
      clear d0
      have c1 := hT.keeps.cell d1 hfar
      clear d1
      have c2 := hT.keeps.cell d2 hfar
      clear d2
      have c3 := hT.keeps.cell d3 hfar
      clear d3
      have c4 := hT.keeps.cell d4 hfar
      clear d4
      have c5 := hT.keeps.cell d5 hfar
      clear d5
      have c6 := hT.keeps.cell d6 hfar
      clear d6
      clear hfar hgF
      have k0 : (0 : Int) ≤ (j : Int) := by omega
      have k1 : (j : Int) < (l.length : Int) := by omega
      obtain ⟨ba, hba⟩ : ∃ ba, wr.heap.size = ba := ⟨_, rfl⟩
      obtain ⟨W1, hW1⟩ : ∃ W1, wr.alloc (.cells #[.string a.name, .int .i64 a.vars, .slice A2 a.preds.length q2, .int .i64 a.ty.kind, .string a.ty.name, .int .i64 a.ty.var, .slice A3 a.ty.args.length q3] 61) = W1 := ⟨_, rfl⟩
      have hk1 : Keeps (fun _ => False) wr W1 := by rw [← hW1]; exact (Keeps.refl _ _).alloc _
      have hb1 : Blk W1 ba 61 [.string a.name, .int .i64 a.vars, .slice A2 a.preds.length q2, .int .i64 a.ty.kind, .string a.ty.name, .int .i64 a.ty.var, .slice A3 a.ty.args.length q3] := by rw [← hW1, ← hba]; exact Blk.new wr _ [_, _, _, _, _, _, _]
      have y0 := hb1.cell (i := 0) rfl
      have y1 := hb1.cell (i := 1) rfl
      have y2 := hb1.cell (i := 2) rfl
      have y3 := hb1.cell (i := 3) rfl
      have y4 := hb1.cell (i := 4) rfl
      have y5 := hb1.cell (i := 5) rfl
      have y6 := hb1.cell (i := 6) rfl
      have HX := Lib.hid ((HC.out a hmem) F _ _ _ hRW HF.out (hT.more hk1) (by have := HL4.out; simp only [List.length_append]; omega))
      have HFt := Lib.hid hft
      have HW1 := Lib.hid hW1
      have HBa := Lib.hid hba
      clear hft hfl hmem ha hRW hk1 hb1 hW1 hba hT s0 s1 s2 s3
      go_upto_region 4 with (fail)
      rw [HW1.out, HBa.out]
      clear c0 c1 c2 c3 c4 c5 c6
      go_wp2_with fail
      refine HX.out.mono ?_
      rintro e w6 ⟨rfl, t6⟩
      have T6 := Lib.hid t6
      clear t6 HX
      go_wp2_with fail
      go_roundw
      case rel => exact ⟨j + 1, by omega, by go_num, by rw [HFt.out, ← List.append_assoc]; exact T6.out⟩
      case measure => simp [intOf]; omega
    · obtain rfl : j = l.length := by omega
      have k1 : ¬ ((l.length : Nat) : Int) < (l.length : Int) := by omega
      rw [List.take_of_length_le (Nat.le_refl _)] at hT
      have HX := Lib.hid hT
      clear hT
      go_wp2_with fail
      go_end0
      exact ⟨rfl, HX.out⟩
set_option maxRecDepth 100000 in
set_option maxHeartbeats 8000000 in
theorem eachClassSig_any (W : World) (B bw : Nat) (v : Value) (hlo : ∀ i, Own2 bw v i → B ≤ i) (m : FuncId) (pre post : Array Value) (eg : Enters Tryd.prog m) (g : ClassSig → Bs) (l : List ClassSig) (hc : ∀ x ∈ l, WFn m pre post argA ClassSig.d g W B bw v x)
    (F : Nat → Prop) (lv : Value) (w : World) (bs : Bs) (hS : Sl W F ClassSig.d l lv) (hF : ∀ i, F i → i < B) (T : WrTo B bw v W bs w) (hB : B ≤ bw) (hn : bs.length + (eachW g l).length ≤ 4194304) :
    Calls Tryd.prog 38 #[.pointer (some ⟨bw, 0, none⟩), lv, .func (.func m) pre post] w (fun e w' => e = .returned (.tuple #[]) ∧ WrTo B bw v W (bs ++ eachW g l) w') := by
  obtain ⟨A, c, rfl, hlc, hcm, -⟩ := hS.form
  have hal : l.length ≤ 9223372036854775807 := by unfold maxLen at hcm; omega
  have hsum : bs.length + 4 + (l.flatMap g).length ≤ 4194304 := by unfold eachW at hn; simp only [List.length_append, enc4_len] at hn; omega
  have HE : Hid (bs ++ eachW g l = bs ++ enc4 (l.length : Int) ++ l.flatMap g) := by show _ = _; unfold eachW; rw [List.append_assoc]
  have HLo := Lib.hid hlo
  have HC := Lib.hid hc
  have HS := Lib.hid hS
  have HF := Lib.hid hF
  have T0 := Lib.hid T
  have HB := Lib.hid hB
  have HL := Lib.hid hsum
  clear hlo hc hS hF T hB hn hsum hcm hlc
  unfold Enters at eg
  rw [HE.out]
  obtain ⟨b4, hb4⟩ : ∃ b4, bs ++ enc4 (l.length : Int) = b4 := ⟨_, rfl⟩
  have hb4l : b4.length + (l.flatMap g).length ≤ 4194304 := by have := HL.out; rw [← hb4]; simp only [List.length_append, enc4_len]; omega
  rw [hb4]
  have HL4 := Lib.hid hb4l
  have HB4 := Lib.hid hb4
  clear hb4 hb4l HE
  go_enter Tryd.func38, Tryd.ntmps38
  go_wp2_with fail
  with_reducible refine (wnum_to T0.out HB.out (l.length : Int) (by have := HL.out; omega)).mono ?_
  rintro e w1 ⟨rfl, t1⟩
  rw [HB4.out] at t1
  have T1 := Lib.hid t1
  clear t1 T0 HL HB4
  go_wp2_with fail
  go_loopw [14] (fun i wr => ∃ j : Nat, j ≤ l.length ∧ .int .i64 (j : Int) = i ∧ WrTo B bw v W (b4 ++ (l.take j).flatMap g) wr) (fun i _ => l.length - (intOf i).toNat)
  case atStart => exact ⟨0, Nat.zero_le _, rfl, by simpa using T1.out⟩
  case round =>
    obtain ⟨j, hj, rfl, hT⟩ := hrel
    by_cases hlt : j < l.length
    · have hft := flatg_take g l j hlt
      have hfl := flatg_le g l j hlt
      have hmem := List.getElem_mem hlt
      obtain ⟨gg, off, v1, v2, hA, hgF, d0, d1, d2, s0, s1, s2⟩ := ClassSig.get HS.out hlt
      obtain ⟨a, ha⟩ : ∃ a, l[j] = a := ⟨_, rfl⟩
      rw [ha] at hft hfl hmem d0 s0 s1 s2
      obtain ⟨A1, q1, rfl, -, -, -⟩ := s1.form
      obtain ⟨A2, q2, rfl, -, -, -⟩ := s2.form
      subst hA
      have hRW : Rp W F (ClassSig.d a) [.string a.name, .slice A1 a.super.length q1, .slice A2 a.ops.length q2] := ClassSig.rp.2 ⟨_, _, rfl, s0, s1, s2⟩
      have hfar := hT.far HLo.out HF.out gg hgF
      have c0 := hT.keeps.cell d0 hfar
      clear d0
      have c1 := hT.keeps.cell d1 hfar
      clear d1
      have c2 := hT.keeps.cell d2 hfar
      clear d2
      clear hfar hgF
      have k0 : (0 : Int) ≤ (j : Int) := by omega
      have k1 : (j : Int) < (l.length : Int) := by omega
      obtain ⟨ba, hba⟩ : ∃ ba, wr.heap.size = ba := ⟨_, rfl⟩
      obtain ⟨W1, hW1⟩ : ∃ W1, wr.alloc (.cells #[.string a.name, .slice A1 a.super.length q1, .slice A2 a.ops.length q2] 74) = W1 := ⟨_, rfl⟩
      have hk1 : Keeps (fun _ => False) wr W1 := by rw [← hW1]; exact (Keeps.refl _ _).alloc _
      have hb1 : Blk W1 ba 74 [.string a.name, .slice A1 a.super.length q1, .slice A2 a.ops.length q2] := by rw [← hW1, ← hba]; exact Blk.new wr _ [_, _, _]
      have y0 := hb1.cell (i := 0) rfl
      have y1 := hb1.cell (i := 1) rfl
      have y2 := hb1.cell (i := 2) rfl
      have HX := Lib.hid ((HC.out a hmem) F _ _ _ hRW HF.out (hT.more hk1) (by have := HL4.out; simp only [List.length_append]; omega))
      have HFt := Lib.hid hft
      have HW1 := Lib.hid hW1
      have HBa := Lib.hid hba
      clear hft hfl hmem ha hRW hk1 hb1 hW1 hba hT s0 s1 s2
      go_upto_region 4 with (fail)
      rw [HW1.out, HBa.out]
      clear c0 c1 c2
      go_wp2_with fail
      refine HX.out.mono ?_
      rintro e w6 ⟨rfl, t6⟩
      have T6 := Lib.hid t6
      clear t6 HX
      go_wp2_with fail
      go_roundw
      case rel => exact ⟨j + 1, by omega, by go_num, by rw [HFt.out, ← List.append_assoc]; exact T6.out⟩
      case measure => simp [intOf]; omega
    · obtain rfl : j = l.length := by omega
      have k1 : ¬ ((l.length : Nat) : Int) < (l.length : Int) := by omega
      rw [List.take_of_length_le (Nat.le_refl _)] at hT
      have HX := Lib.hid hT
      clear hT
      go_wp2_with fail
      go_end0
      exact ⟨rfl, HX.out⟩
set_option maxRecDepth 100000 in
set_option maxHeartbeats 8000000 in
theorem eachInstSig_any (W : World) (B bw : Nat) (v : Value) (hlo : ∀ i, Own2 bw v i → B ≤ i) (m : FuncId) (pre post : Array Value) (eg : Enters Tryd.prog m) (g : InstSig → Bs) (l : List InstSig) (hc : ∀ x ∈ l, WFn m pre post argA InstSig.d g W B bw v x)
    (F : Nat → Prop) (lv : Value) (w : World) (bs : Bs) (hS : Sl W F InstSig.d l lv) (hF : ∀ i, F i → i < B) (T : WrTo B bw v W bs w) (hB : B ≤ bw) (hn : bs.length + (eachW g l).length ≤ 4194304) :
    Calls Tryd.prog 42 #[.pointer (some ⟨bw, 0, none⟩), lv, .func (.func m) pre post] w (fun e w' => e = .returned (.tuple #[]) ∧ WrTo B bw v W (bs ++ eachW g l) w') := by
  obtain ⟨A, c, rfl, hlc, hcm, -⟩ := hS.form
  have hal : l.length ≤ 9223372036854775807 := by unfold maxLen at hcm; omega
  have hsum : bs.length + 4 + (l.flatMap g).length ≤ 4194304 := by unfold eachW at hn; simp only [List.length_append, enc4_len] at hn; omega
  have HE : Hid (bs ++ eachW g l = bs ++ enc4 (l.length : Int) ++ l.flatMap g) := by show _ = _; unfold eachW; rw [List.append_assoc]
  have HLo := Lib.hid hlo
  have HC := Lib.hid hc
  have HS := Lib.hid hS
  have HF := Lib.hid hF
  have T0 := Lib.hid T
  have HB := Lib.hid hB
  have HL := Lib.hid hsum
  clear hlo hc hS hF T hB hn hsum hcm hlc
  unfold Enters at eg
  rw [HE.out]
  obtain ⟨b4, hb4⟩ : ∃ b4, bs ++ enc4 (l.length : Int) = b4 := ⟨_, rfl⟩
  have hb4l : b4.length + (l.flatMap g).length ≤ 4194304 := by have := HL.out; rw [← hb4]; simp only [List.length_append, enc4_len]; omega
  rw [hb4]
  have HL4 := Lib.hid hb4l
  have HB4 := Lib.hid hb4
  clear hb4 hb4l HE
  go_enter Tryd.func42, Tryd.ntmps42
  go_wp2_with fail
  with_reducible refine (wnum_to T0.out HB.out (l.length : Int) (by have := HL.out; omega)).mono ?_
  rintro e w1 ⟨rfl, t1⟩
  rw [HB4.out] at t1
  have T1 := Lib.hid t1
  clear t1 T0 HL HB4
  go_wp2_with fail
  go_loopw [14] (fun i wr => ∃ j : Nat, j ≤ l.length ∧ .int .i64 (j : Int) = i ∧ WrTo B bw v W (b4 ++ (l.take j).flatMap g) wr) (fun i _ => l.length - (intOf i).toNat)
  case atStart => exact ⟨0, Nat.zero_le _, rfl, by simpa using T1.out⟩
  case round =>
    obtain ⟨j, hj, rfl, hT⟩ := hrel
    by_cases hlt : j < l.length
    · have hft := flatg_take g l j hlt
      have hfl := flatg_le g l j hlt
      have hmem := List.getElem_mem hlt
      obtain ⟨gg, off, v1, v2, hA, hgF, d0, d1, d2, d3, d4, d5, s0, s1, s2⟩ := InstSig.get HS.out hlt
      obtain ⟨a, ha⟩ : ∃ a, l[j] = a := ⟨_, rfl⟩
      rw [ha] at hft hfl hmem d0 d1 d2 d3 s0 s1 s2
      obtain ⟨A1, q1, rfl, -, -, -⟩ := s1.form
      obtain ⟨A2, q2, rfl, -, -, -⟩ := s2.form
      subst hA
      have hRW : Rp W F (InstSig.d a) [.string a.cls, .int .i64 a.head.kind, .string a.head.name, .int .i64 a.head.var, .slice A1 a.head.args.length q1, .slice A2 a.preds.length q2] := InstSig.rp.2 ⟨_, _, rfl, s0, s1, s2⟩
      have hfar := hT.far HLo.out HF.out gg hgF
      have c0 := hT.keeps.cell d0 hfar
      clear d0
      have c1 := hT.keeps.cell d1 hfar
      clear d1
      have c2 := hT.keeps.cell d2 hfar
      clear d2
      have c3 := hT.keeps.cell d3 hfar
      clear d3
      have c4 := hT.keeps.cell d4 hfar
      clear d4
      have c5 := hT.keeps.cell d5 hfar
      clear d5
      clear hfar hgF
      have k0 : (0 : Int) ≤ (j : Int) := by omega
      have k1 : (j : Int) < (l.length : Int) := by omega
      obtain ⟨ba, hba⟩ : ∃ ba, wr.heap.size = ba := ⟨_, rfl⟩
      obtain ⟨W1, hW1⟩ : ∃ W1, wr.alloc (.cells #[.string a.cls, .int .i64 a.head.kind, .string a.head.name, .int .i64 a.head.var, .slice A1 a.head.args.length q1, .slice A2 a.preds.length q2] 78) = W1 := ⟨_, rfl⟩
      have hk1 : Keeps (fun _ => False) wr W1 := by rw [← hW1]; exact (Keeps.refl _ _).alloc _
      have hb1 : Blk W1 ba 78 [.string a.cls, .int .i64 a.head.kind, .string a.head.name, .int .i64 a.head.var, .slice A1 a.head.args.length q1, .slice A2 a.preds.length q2] := by rw [← hW1, ← hba]; exact Blk.new wr _ [_, _, _, _, _, _]
      have y0 := hb1.cell (i := 0) rfl
      have y1 := hb1.cell (i := 1) rfl
      have y2 := hb1.cell (i := 2) rfl
      have y3 := hb1.cell (i := 3) rfl
      have y4 := hb1.cell (i := 4) rfl
      have y5 := hb1.cell (i := 5) rfl
      have HX := Lib.hid ((HC.out a hmem) F _ _ _ hRW HF.out (hT.more hk1) (by have := HL4.out; simp only [List.length_append]; omega))
      have HFt := Lib.hid hft
      have HW1 := Lib.hid hW1
      have HBa := Lib.hid hba
      clear hft hfl hmem ha hRW hk1 hb1 hW1 hba hT s0 s1 s2
      go_upto_region 4 with (fail)
      rw [HW1.out, HBa.out]
      clear c0 c1 c2 c3 c4 c5
      go_wp2_with fail
      refine HX.out.mono ?_
      rintro e w6 ⟨rfl, t6⟩
      have T6 := Lib.hid t6
      clear t6 HX
      go_wp2_with fail
      go_roundw
      case rel => exact ⟨j + 1, by omega, by go_num, by rw [HFt.out, ← List.append_assoc]; exact T6.out⟩
      case measure => simp [intOf]; omega
    · obtain rfl : j = l.length := by omega
      have k1 : ¬ ((l.length : Nat) : Int) < (l.length : Int) := by omega
      rw [List.take_of_length_le (Nat.le_refl _)] at hT
      have HX := Lib.hid hT
      clear hT
      go_wp2_with fail
      go_end0
      exact ⟨rfl, HX.out⟩
set_option maxRecDepth 100000 in
set_option maxHeartbeats 8000000 in
theorem eachOpSig_any (W : World) (B bw : Nat) (v : Value) (hlo : ∀ i, Own2 bw v i → B ≤ i) (m : FuncId) (pre post : Array Value) (eg : Enters Tryd.prog m) (g : OpSig → Bs) (l : List OpSig) (hc : ∀ x ∈ l, WFn m pre post argA OpSig.d g W B bw v x)
    (F : Nat → Prop) (lv : Value) (w : World) (bs : Bs) (hS : Sl W F OpSig.d l lv) (hF : ∀ i, F i → i < B) (T : WrTo B bw v W bs w) (hB : B ≤ bw) (hn : bs.length + (eachW g l).length ≤ 4194304) :
    Calls Tryd.prog 47 #[.pointer (some ⟨bw, 0, none⟩), lv, .func (.func m) pre post] w (fun e w' => e = .returned (.tuple #[]) ∧ WrTo B bw v W (bs ++ eachW g l) w') := by
  obtain ⟨A, c, rfl, hlc, hcm, -⟩ := hS.form
  have hal : l.length ≤ 9223372036854775807 := by unfold maxLen at hcm; omega
  have hsum : bs.length + 4 + (l.flatMap g).length ≤ 4194304 := by unfold eachW at hn; simp only [List.length_append, enc4_len] at hn; omega
  have HE : Hid (bs ++ eachW g l = bs ++ enc4 (l.length : Int) ++ l.flatMap g) := by show _ = _; unfold eachW; rw [List.append_assoc]
  have HLo := Lib.hid hlo
  have HC := Lib.hid hc
  have HS := Lib.hid hS
  have HF := Lib.hid hF
  have T0 := Lib.hid T
  have HB := Lib.hid hB
  have HL := Lib.hid hsum
  clear hlo hc hS hF T hB hn hsum hcm hlc
  unfold Enters at eg
  rw [HE.out]
  obtain ⟨b4, hb4⟩ : ∃ b4, bs ++ enc4 (l.length : Int) = b4 := ⟨_, rfl⟩
  have hb4l : b4.length + (l.flatMap g).length ≤ 4194304 := by have := HL.out; rw [← hb4]; simp only [List.length_append, enc4_len]; omega
  rw [hb4]
  have HL4 := Lib.hid hb4l
  have HB4 := Lib.hid hb4
  clear hb4 hb4l HE
  go_enter Tryd.func47, Tryd.ntmps47
  go_wp2_with fail
  with_reducible refine (wnum_to T0.out HB.out (l.length : Int) (by have := HL.out; omega)).mono ?_
  rintro e w1 ⟨rfl, t1⟩
  rw [HB4.out] at t1
  have T1 := Lib.hid t1
  clear t1 T0 HL HB4
  go_wp2_with fail
  go_loopw [14] (fun i wr => ∃ j : Nat, j ≤ l.length ∧ .int .i64 (j : Int) = i ∧ WrTo B bw v W (b4 ++ (l.take j).flatMap g) wr) (fun i _ => l.length - (intOf i).toNat)
  case atStart => exact ⟨0, Nat.zero_le _, rfl, by simpa using T1.out⟩
  case round =>
    obtain ⟨j, hj, rfl, hT⟩ := hrel
    by_cases hlt : j < l.length
    · have hft := flatg_take g l j hlt
      have hfl := flatg_le g l j hlt
      have hmem := List.getElem_mem hlt
      obtain ⟨gg, off, v2, v3, hA, hgF, d0, d1, d2, d3, d4, d5, d6, d7, d8, d9, s0, s1, s2, s3⟩ := OpSig.get HS.out hlt
      obtain ⟨a, ha⟩ : ∃ a, l[j] = a := ⟨_, rfl⟩
      rw [ha] at hft hfl hmem d0 d1 d2 d3 d4 d6 d7 d8 s0 s1 s2 s3
      obtain ⟨A2, q2, rfl, -, -, -⟩ := s2.form
      obtain ⟨A3, q3, rfl, -, -, -⟩ := s3.form
      subst hA
      have hRW : Rp W F (OpSig.d a) [.string a.name, .string a.effect, .int .i64 a.arg.kind, .string a.arg.name, .int .i64 a.arg.var, .slice A2 a.arg.args.length q2, .int .i64 a.res.kind, .string a.res.name, .int .i64 a.res.var, .slice A3 a.res.args.length q3] := OpSig.rp.2 ⟨_, _, rfl, s0, s1, s2, s3⟩
      have hfar := hT.far HLo.out HF.out gg hgF
      have c0 := hT.keeps.cell d0 hfar
      clear d0
      have c1 := hT.keeps.cell d1 hfar
      clear d1
      have c2 := hT.keeps.cell d2 hfar
      clear d2
      have c3 := hT.keeps.cell d3 hfar
      clear d3
      have c4 := hT.keeps.cell d4 hfar
      clear d4
      have c5 := hT.keeps.cell d5 hfar
      clear d5
      have c6 := hT.keeps.cell d6 hfar
      clear d6
      have c7 := hT.keeps.cell d7 hfar
      clear d7
      have c8 := hT.keeps.cell d8 hfar
      clear d8
      have c9 := hT.keeps.cell d9 hfar
      clear d9
      clear hfar hgF
      have k0 : (0 : Int) ≤ (j : Int) := by omega
      have k1 : (j : Int) < (l.length : Int) := by omega
      obtain ⟨ba, hba⟩ : ∃ ba, wr.heap.size = ba := ⟨_, rfl⟩
      obtain ⟨W1, hW1⟩ : ∃ W1, wr.alloc (.cells #[.string a.name, .string a.effect, .int .i64 a.arg.kind, .string a.arg.name, .int .i64 a.arg.var, .slice A2 a.arg.args.length q2, .int .i64 a.res.kind, .string a.res.name, .int .i64 a.res.var, .slice A3 a.res.args.length q3] 82) = W1 := ⟨_, rfl⟩
      have hk1 : Keeps (fun _ => False) wr W1 := by rw [← hW1]; exact (Keeps.refl _ _).alloc _
      have hb1 : Blk W1 ba 82 [.string a.name, .string a.effect, .int .i64 a.arg.kind, .string a.arg.name, .int .i64 a.arg.var, .slice A2 a.arg.args.length q2, .int .i64 a.res.kind, .string a.res.name, .int .i64 a.res.var, .slice A3 a.res.args.length q3] := by rw [← hW1, ← hba]; exact Blk.new wr _ [_, _, _, _, _, _, _, _, _, _]
      have y0 := hb1.cell (i := 0) rfl
      have y1 := hb1.cell (i := 1) rfl
      have y2 := hb1.cell (i := 2) rfl
      have y3 := hb1.cell (i := 3) rfl
      have y4 := hb1.cell (i := 4) rfl
      have y5 := hb1.cell (i := 5) rfl
      have y6 := hb1.cell (i := 6) rfl
      have y7 := hb1.cell (i := 7) rfl
      have y8 := hb1.cell (i := 8) rfl
      have y9 := hb1.cell (i := 9) rfl
      have HX := Lib.hid ((HC.out a hmem) F _ _ _ hRW HF.out (hT.more hk1) (by have := HL4.out; simp only [List.length_append]; omega))
      have HFt := Lib.hid hft
      have HW1 := Lib.hid hW1
      have HBa := Lib.hid hba
      clear hft hfl hmem ha hRW hk1 hb1 hW1 hba hT s0 s1 s2 s3
      go_upto_region 4 with (fail)
      rw [HW1.out, HBa.out]
      clear c0 c1 c2 c3 c4 c5 c6 c7 c8 c9
      go_wp2_with fail
      refine HX.out.mono ?_
      rintro e w6 ⟨rfl, t6⟩
      have T6 := Lib.hid t6
      clear t6 HX
      go_wp2_with fail
      go_roundw
      case rel => exact ⟨j + 1, by omega, by go_num, by rw [HFt.out, ← List.append_assoc]; exact T6.out⟩
      case measure => simp [intOf]; omega
    · obtain rfl : j = l.length := by omega
      have k1 : ¬ ((l.length : Nat) : Int) < (l.length : Int) := by omega
      rw [List.take_of_length_le (Nat.le_refl _)] at hT
      have HX := Lib.hid hT
      clear hT
      go_wp2_with fail
      go_end0
      exact ⟨rfl, HX.out⟩
end If
end Go.Proofs.YtcbkihplchdhhaaDoor
