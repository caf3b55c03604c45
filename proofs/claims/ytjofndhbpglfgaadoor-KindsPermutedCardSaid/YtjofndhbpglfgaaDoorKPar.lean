/- kinds: the solver's params, where no kinds are known. -/
import Derived.Test.YtjofndhbpglfgaaDoorKJoin
namespace Go.Proofs.YtjofndhbpglfgaaDoor
open Go.RowKit Go.Shelf

def slotsOf (f n : Nat) : List Nat := (List.range n).map (f + ·)
theorem slotsOf_len (f n : Nat) : (slotsOf f n).length = n := by simp [slotsOf]
theorem slotsOf_succ (f n : Nat) : slotsOf f (n + 1) = slotsOf f n ++ [f + n] := by simp [slotsOf, List.range_succ]
def findD : List DataSig → List Nat → ByteArray → Option (List Nat)
  | d :: r, f :: fs, x => if d.name = x then some (slotsOf f d.params.toNat) else findD r fs x
  | _, _, _ => none
theorem findD_nil (fs : List Nat) (x : ByteArray) : findD [] fs x = none := by cases fs <;> rfl
def ParamsPost (o : Option (List Nat)) (W : World) (e : Ending) (w' : World) : Prop := Below W.heap.size W w' ∧
  ((∃ l v, o = some l ∧ e = .returned (.tuple #[v, .bool true]) ∧ w'.ownsRow W.heap.size 3 1 v l.length (ints l)) ∨ (o = none ∧ e = .returned (.tuple #[.slice none 0 0, .bool false])))

section
variable {W W' : World} {B p : Nat} {datas : List DataSig} {first up : List Nat} {kind : List Int} {kv dv fv uv cv : Value}
set_option maxRecDepth 100000 in
set_option maxHeartbeats 8000000 in
theorem params_any (hS : Sv W B p [] datas first up kind kv dv fv uv cv) (hB : B ≤ W.heap.size) (hf : first.length = datas.length) (hp : ∀ d ∈ datas, 0 ≤ d.params ∧ d.params ≤ 16) (hm : ∀ i ∈ first, i ≤ 1000000) (x : ByteArray) :
    Calls Tryd.prog 43 #[.pointer (some ⟨p, 0, none⟩), .string x] W (ParamsPost (findD datas first x) W) := by
  obtain ⟨i0, hi0, hz0, hz1, hz2⟩ := info_parts infoIntK
  have c0 := hS.blk.cell (i := 0) rfl
  have c1 := hS.blk.cell (i := 1) rfl
  have c2 := hS.blk.cell (i := 2) rfl
  obtain ⟨DA, dc, rfl, hdl, hdm, _⟩ := hS.dt.form
  have hlm : datas.length ≤ 9223372036854775807 := by unfold maxLen at hdm; omega
  obtain ⟨FA, fc, rfl, _⟩ := own_shape hS.fo
  obtain ⟨KA, kc, rfl, _⟩ := hS.kn.form
  have hpl := hS.blk.lt
  obtain ⟨Z, hZ⟩ : ∃ Z, W.heap.size = Z := ⟨_, rfl⟩
  have HZ := Lib.hid hZ
  have HS := Lib.hid hS
  have HF := Lib.hid hf
  have HP := Lib.hid hp
  have HM := Lib.hid hm
  have HBZ := Lib.hid hB
  have hFi := fun X (hb : Below W.heap.size W X) => find_any [] x _ _ X (hS.kn.later hb)
  simp only [List.length_nil] at hFi
  have HFi := Lib.hid hFi
  clear hS hf hp hm hZ hB hFi
  go_enter Tryd.func43, Tryd.ntmps43
  go_wp2_with fail
  go_loopw [6, 7, 8, 19] (fun ov _ _ i wr => ∃ j : Nat, j ≤ datas.length ∧ i = .int .i64 j ∧ ov = .slice none 0 0 ∧ Below W.heap.size W wr ∧ Hid (findD datas first x = findD (datas.drop j) (first.drop j) x)) (fun _ _ _ i _ => datas.length - (intOf i).toNat)
  case atStart => exact ⟨0, Nat.zero_le _, rfl, rfl, Below.refl _ _, rfl⟩
  case round =>
    obtain ⟨j, hj, rfl, rfl, hb, hno⟩ := hrel
    by_cases hlt : j < datas.length
    · have hltf : j < first.length := by have := HF.out; omega
      obtain ⟨gd, off, cv2, hadr, hgd, e0, e1, e2, _, hwf, hcons⟩ := DataSig.get (HS.out.dt.later hb) hlt
      obtain rfl := hadr
      have hpd := HP.out _ (List.getElem_mem hlt)
      have hst : findD (datas.drop j) (first.drop j) x = if (datas[j]).name = x then some (slotsOf first[j] (datas[j]).params.toNat) else findD (datas.drop (j + 1)) (first.drop (j + 1)) x := by
        rw [List.drop_eq_getElem_cons hlt, List.drop_eq_getElem_cons hltf, findD]
      obtain ⟨d, hd⟩ : ∃ d, datas[j] = d := ⟨_, rfl⟩
      rw [hd] at e0 e1 hpd hst hcons
      obtain ⟨A4, c4, rfl, _⟩ := hcons.form
      have hgdl := block_lt_of_cell e0
      have j0 : (0 : Int) ≤ (j : Int) := by omega
      have j1 : (j : Int) < (datas.length : Int) := by omega
      have HB := Lib.hid hb
      have HNo := Lib.hid (hno.out.trans hst)
      clear hb hno hst hd hcons
      by_cases hq : d.name = x
      · have hqb : (d.name.toList == x.toList) = true := str_yes hq
        have HNo2 := Lib.hid (HNo.out.trans (if_pos hq))
        clear hq
        obtain ⟨n, hn⟩ : ∃ n : Nat, d.params = (n : Int) := ⟨d.params.toNat, by omega⟩
        have hn16 : n ≤ 16 := by omega
        rw [hn] at e1 HNo2
        rw [Int.toNat_natCast] at HNo2
        obtain ⟨fj, hfj⟩ : ∃ fj, first[j] = fj := ⟨_, rfl⟩
        have hfm := HM.out _ (List.getElem_mem hltf)
        rw [hfj] at hfm HNo2
        have hfj' : first[j]? = some fj := by rw [List.getElem?_eq_getElem hltf, hfj]
        obtain ⟨gf, cf, hfa, hfc, hgf, _, _⟩ := own_cell HS.out.fo (ints_get hfj') (by simp)
        simp only [Value.slice.injEq] at hfa
        obtain ⟨rfl, hfl, rfl⟩ := hfa
        have HPar := Lib.hid hn
        have hZw : Z ≤ wr.heap.size := by have := HB.out.size; have := HZ.out; omega
        have f2 := (HB.out.cell (block_lt_of_cell c2)).trans c2
        have ff := (HB.out.cell (block_lt_of_cell hfc)).trans hfc
        obtain ⟨tb, htb⟩ : ∃ tb, wr.heap.size = tb := ⟨_, rfl⟩
        obtain ⟨w1, hw1⟩ : ∃ w1, wr.alloc (.cells #[.string d.name, .int .i64 (n : Int), .slice A4 d.cons.length c4] 32) = w1 := ⟨_, rfl⟩
        have hk1 : Keeps (fun _ => False) wr w1 := by rw [← hw1]; exact (Keeps.refl _ _).alloc _
        have g2 := hk1.cell f2 (fun h => h)
        have gf' := hk1.cell ff (fun h => h)
        have HW1 := Lib.hid hw1
        have HTb := Lib.hid htb
        have HK1 := Lib.hid hk1
        have hn0 : (0 : Int) ≤ (n : Int) := by omega
        clear hn hfj hfj' hw1 htb hk1 f2 ff hfc
        go_wp2_with fail
        rw [HW1.out, HTb.out]
        obtain ⟨wo, rfl⟩ : ∃ wo, wo = w1 := ⟨_, rfl⟩
        go_loopw [6, 9, 30] (fun ov _ i wi => ∃ q : Nat, q ≤ n ∧ i = .int .i64 q ∧ Keeps (fun i => Z ≤ i) wo wi ∧ wi.ownsRow Z 3 1 ov q (ints (slotsOf fj q))) (fun _ _ i _ => n - (intOf i).toNat)
        case atStart => exact ⟨0, Nat.zero_le _, rfl, Keeps.refl _ _, by have h := World.ownsRow_nil wo Z 3 1; simpa [ints, slotsOf] using h⟩
        case round =>
          obtain ⟨q, hq, rfl, hki, hown⟩ := hrel
          have HKi := Lib.hid hki
          have hzi := hki.size
          have hzk := HK1.out.size
          have hpZ : ¬ Z ≤ p := by have := HZ.out; omega
          have hfZ : ¬ Z ≤ gf := by have := HZ.out; omega
          have h2 := hki.cell g2 hpZ
          have h3 := hki.cell gf' hfZ
          obtain ⟨ad, cp, rfl, _⟩ := own_shape hown
          clear hki
          by_cases hlq : q < n
          · have q0 : (0 : Int) ≤ (q : Int) := by omega
            have q1 : (q : Int) < (n : Int) := by omega
            have q2 : (0 : Int) ≤ (fj : Int) := by omega
            have q3 : (fj : Int) ≤ 1000000 := by omega
            have jf : (j : Int) < (first.length : Int) := by omega
            go_wp2_with (at_builtin; refine wpList_append_lies _ rfl _ _ 27 rfl Z 3 i0 _ 1 8 Tryd.underlying27 hi0 hz0 hz1 hz2 rfl (by omega) _ q _ rfl (World.ownsRow.alloc hown _) ⟨wr.heap.size, 0, none⟩ 1 1 [.int .i64 ((fj : Int) + (q : Int))] rfl rfl (World.news_of_block (cs := #[.int .i64 ((fj : Int) + (q : Int))]) (t := 3) (fr := (0, 0)) (heap_alloc_new _ _)) (by simp [Value.oneCell']) (by omega) (by unfold maxLen; omega) (by omega) (by simp; omega) (wr.heap.size + 1) (by simp) ?_; intro gg cap w2 hown2 hgrow hat hlt2; have hk2 : Keeps (fun i => Z ≤ i) wo w2 := (HKi.out.alloc _).grown hgrow (fun i hi _ => (hown.lt i hi).1))
            have hown3 : w2.ownsRow Z 3 1 (.slice (some ⟨gg, 0, none⟩) (q + 1) cap) (q + 1) (ints (slotsOf fj (q + 1))) := by rw [slotsOf_succ]; simpa [ints] using hown2
            have HK2 := Lib.hid hk2
            have HO3 := Lib.hid hown3
            clear hk2 hown3 hown2 hgrow hat
            go_wp2_with fail
            go_roundw
            case rel => exact ⟨q + 1, by omega, by go_num, HK2.out, HO3.out⟩
            case measure => simp [intOf]; omega
          · obtain rfl : q = n := by omega
            have q1 : ¬ (q : Int) < (q : Int) := by omega
            have HOw := Lib.hid hown
            have HBe : Hid (Below W.heap.size W wr) := by
              have hzz := HZ.out
              show Below _ _ _
              rw [hzz]
              have h1 := HB.out
              rw [hzz] at h1
              exact (h1.trans ((HK1.out.below (fun _ h => h.elim) (Nat.le_refl _)).mono hZw)).trans (HKi.out.below (fun i h => h) (by omega))
            clear hown
            go_wp2_with fail
            go_ret2
            refine ⟨HBe.out, .inl ⟨_, _, HNo2.out, rfl, ?_⟩⟩
            rw [HZ.out, slotsOf_len]; exact HOw.out
      · have hqb : (d.name.toList == x.toList) = false := str_no hq
        have HNo2 := Lib.hid (HNo.out.trans (if_neg hq))
        clear hq
        go_wp2_with fail
        go_roundw
        case rel => exact ⟨j + 1, by omega, by go_num, rfl, HB.out.alloc (by have := HB.out.size; omega) _, HNo2.out⟩
        case measure => simp [intOf]; omega
    · obtain rfl : j = datas.length := by omega
      have j1 : ¬ (datas.length : Int) < (datas.length : Int) := by omega
      have HB := Lib.hid hb
      have HNo := Lib.hid hno.out
      rw [List.drop_length, findD_nil] at HNo
      have f0 := (hb.cell (block_lt_of_cell c0)).trans c0
      clear hb hno
      go_wp2_with fail
      with_reducible refine (HFi.out _ HB.out).mono ?_
      rintro e w1 ⟨hb1, (⟨k, v, hk, _⟩ | ⟨_, rfl⟩)⟩
      · cases hk
      · have HB1 := Lib.hid (HB.out.trans (hb1.mono HB.out.size))
        clear hb1
        go_wp2_with fail
        go_loopw [6, 13, 59] (fun ov _ i wr => ov = .slice none 0 0 ∧ i = .int .i64 0 ∧ wr = w1) (fun _ _ _ _ => 0)
        case atStart => exact ⟨rfl, rfl, rfl⟩
        case round =>
          obtain ⟨rfl, rfl, rfl⟩ := hrel
          go_wp2_with fail
          go_ret2
          exact ⟨HB1.out, .inr ⟨HNo.out, rfl⟩⟩
end
end Go.Proofs.YtjofndhbpglfgaaDoor
