/- ParserRecovers, walked: the builder's text line by line; Parse as the kernel has found it. No conditions. -/
import Derived.Test.YtnkbpjmijeeddaaGreatDoorPrParse
import Derived.Test.YtnkbpjmijeeddaaGreatDoorPrRuns
import Derived.Test.YtnkbpjmijeeddaaGreatDoorBuild
import Derived.Test.YtnkbpjmijeeddaaGreatDoorWithin
import Derived.Test.YtnkbpjmijeeddaaGreatDoorSlices
import Derived.WalkKit
import Derived.BigCall
namespace Go.Proofs.YtnkbpjmijeeddaaGreatDoor.pr
open Go Go.RowKit Go.Shelf Go.Proofs.YtnkbpjmijeeddaaGreatDoor.Ev
theorem bsA (l : List Nat) : (bs l).data.toList = toBs l := by simp [bs]
theorem toBs_app (a b : List Nat) : toBs (a ++ b) = toBs a ++ toBs b := by simp [toBs]
theorem toBs_len (l : List Nat) : (toBs l).length = l.length := by simp [toBs]
theorem good_ : (⟨#[103, 111, 111, 100, 32, 61, 32, 102, 32, 49]⟩ : ByteArray) = bs goodL := by rfl
theorem head_ : (⟨#[109, 111, 100, 117, 108, 101, 32, 65, 32, 119, 104, 101, 114, 101, 10]⟩ : ByteArray) = bs headL := by rfl
theorem first_ : (⟨#[109, 111, 100, 117, 108, 101, 32, 65, 32, 119, 104, 101, 114, 101, 10, 32, 120, 32, 61, 32, 61, 10, 32, 121, 32, 61, 32, 61]⟩ : ByteArray) = bs firstL := by rfl
theorem bs_app (a b : List Nat) : bs a ++ bs b = bs (a ++ b) := by
  apply ByteArray.ext
  rw [ByteArray.data_append]
  apply Array.ext'
  simp [bs, toBs_app]
theorem line_ (l : List Nat) : (⟨#[32, 32]⟩ : ByteArray) ++ bs l ++ ⟨#[10]⟩ = bs (32 :: 32 :: (l ++ [10])) := by
  rw [show (⟨#[32, 32]⟩ : ByteArray) = bs [32, 32] from rfl, show (⟨#[10]⟩ : ByteArray) = bs [10] from rfl, bs_app, bs_app]
  rfl
theorem cells_bs (l : List Nat) : Lib.strCells (bs l) = Lib.byteCells (toBs l) := rfl
theorem size_bs (l : List Nat) : (bs l).size = l.length := by simp [bs, toBs, ByteArray.size]
theorem wrong_len : ∀ k, (wrongL.getD k []).length ≤ 22 := fun k => by
  by_cases h : k < 6
  · have : k = 0 ∨ k = 1 ∨ k = 2 ∨ k = 3 ∨ k = 4 ∨ k = 5 := by omega
    rcases this with rfl | rfl | rfl | rfl | rfl | rfl <;> decide
  · rw [List.getD_eq_getElem?_getD, List.getElem?_eq_none (by show wrongL.length ≤ k; have : wrongL.length = 6 := rfl; omega)]
    simp
theorem line_len (m f s i : Nat) : (lineL m f s i).length ≤ 22 := by
  unfold lineL
  split
  · exact wrong_len _
  · split
    · exact wrong_len _
    · decide
theorem lines_len (m f s : Nat) : ∀ k, (linesL m f s k).length ≤ 15 + 25 * k
  | 0 => by rw [linesL]; decide
  | k + 1 => by
    have h1 := lines_len m f s k
    have h2 := line_len m f s k
    rw [linesL]
    simp only [List.length_append, List.length_cons, List.length_nil]
    omega
def wrongV : List Value := [.string (bs (wrongL.getD 0 [])), .string (bs (wrongL.getD 1 [])), .string (bs (wrongL.getD 2 [])), .string (bs (wrongL.getD 3 [])), .string (bs (wrongL.getD 4 [])), .string (bs (wrongL.getD 5 []))]
theorem wrongV_get (q : Nat) (h : q < 6) : wrongV[q]? = some (.string (bs (wrongL.getD q []))) := by
  have : q = 0 ∨ q = 1 ∨ q = 2 ∨ q = 3 ∨ q = 4 ∨ q = 5 := by omega
  rcases this with rfl | rfl | rfl | rfl | rfl | rfl <;> rfl
theorem wrongV_is : ([.string ⟨#[61, 32, 49]⟩, .string ⟨#[120, 32, 61, 32, 61, 32, 49]⟩, .string ⟨#[120, 32, 61, 32, 99, 97, 115, 101, 32, 49, 32, 111, 102, 32, 123, 32, 50, 32, 45, 62, 32, 125]⟩, .string ⟨#[120, 32, 61, 32, 108, 101, 116, 32, 121, 32, 61, 32, 105, 110, 32, 50]⟩, .string ⟨#[100, 97, 116, 97, 32, 61, 32, 65]⟩, .string ⟨#[120, 32, 44, 32, 49]⟩] : List Value) = wrongV := by rfl
theorem within05 (n : Nat) : withinI (n : Int) 0 5 = ((n % 6 : Nat) : Int) := by
  unfold withinI
  have : (n : Int).tmod 6 = ((n % 6 : Nat) : Int) := by
    rw [Int.tmod_eq_emod_of_nonneg (by omega)]; omega
  simp only [Int.sub_zero, Int.zero_add, show (5 : Int) + 1 = 6 by omega]
  rw [this]; omega
set_option maxRecDepth 100000 in
set_option maxHeartbeats 4000000 in
theorem walk {a0 a1 a2 : Int}
    (W : World) (m : Int) (hm : W.cell? ⟨0, 0, none⟩ = some (.int .i64 m)) : Calls Tryz.prog 3 #[.int .i64 a0, .int .i64 a1, .int .i64 a2] W fun en W' => en = .returned (.bool true) ∧ Below W.heap.size W W' := by
  obtain ⟨mn, hmn⟩ : ∃ mn : Nat, withinI a0 2 9 = (mn : Int) := ⟨(withinI a0 2 9).toNat, by have := withinI_lo a0 2 9 (by omega); omega⟩
  have m1 : (2 : Int) ≤ (mn : Int) := by have := withinI_lo a0 2 9 (by omega); omega
  have m2 : (mn : Int) ≤ 9 := by have := withinI_hi a0 2 9 (by omega); omega
  obtain ⟨fn, hfn⟩ : ∃ fn : Nat, withinI a1 0 ((mn : Int) - 2) = (fn : Int) := ⟨(withinI a1 0 ((mn : Int) - 2)).toNat, by have := withinI_lo a1 0 ((mn : Int) - 2) (by omega); omega⟩
  have f2 : (fn : Int) ≤ (mn : Int) - 2 := by have := withinI_hi a1 0 ((mn : Int) - 2) (by omega); omega
  obtain ⟨sn, hsn⟩ : ∃ sn : Nat, withinI a2 ((fn : Int) + 1) ((mn : Int) - 1) = (sn : Int) := ⟨(withinI a2 ((fn : Int) + 1) ((mn : Int) - 1)).toNat, by have := withinI_lo a2 ((fn : Int) + 1) ((mn : Int) - 1) (by omega); omega⟩
  have s1 : (fn : Int) + 1 ≤ (sn : Int) := by have := withinI_lo a2 ((fn : Int) + 1) ((mn : Int) - 1) (by omega); omega
  have s2 : (sn : Int) ≤ (mn : Int) - 1 := by have := withinI_hi a2 ((fn : Int) + 1) ((mn : Int) - 1) (by omega); omega
  have f0 : (0 : Int) ≤ (fn : Int) := by omega
  have HRun := Lib.hid (all mn fn sn (by omega) (by omega) (by omega) (by omega))
  have Hmn := Lib.hid hmn
  have Hfn := Lib.hid hfn
  have Hsn := Lib.hid hsn
  have hW0 : Hid (0 < W.heap.size) := World.block_lt_of_cell? _ _ hm
  have HM := Lib.hid hm
  clear hmn hfn hsn hm
  go_enter Tryz.func3, Tryz.ntmps3
  go_wp2_with (go_at_call 4; rw [first_]; refine (parse_at firstL 2 3 start _ m HM.out).mono ?_)
  rintro e w1 ⟨⟨t, r, base, cap, rfl, -, -⟩, hb1⟩
  have HB1 := Lib.hid hb1
  clear hb1
  go_wp2_with (go_at_call 5; refine (within_any _ _ _ _ (by omega) (by omega) (by omega) (by omega)).mono ?_)
  rintro e w' ⟨rfl, rfl⟩
  rw [Hmn.out]
  go_wp2_with (go_at_call 5; refine (within_any _ _ _ _ (by omega) (by omega) (by omega) (by omega)).mono ?_)
  rintro e w' ⟨rfl, rfl⟩
  rw [Hfn.out]
  go_wp2_with (go_at_call 5; refine (within_any _ _ _ _ (by omega) (by omega) (by omega) (by omega)).mono ?_)
  rintro e w' ⟨rfl, rfl⟩
  rw [Hsn.out]
  obtain ⟨g, hg⟩ : ∃ g, w1.heap.size = g := ⟨_, rfl⟩
  obtain ⟨w2, hw2⟩ : ∃ w2, w1.alloc (.cells #[.string ⟨#[61, 32, 49]⟩, .string ⟨#[120, 32, 61, 32, 61, 32, 49]⟩, .string ⟨#[120, 32, 61, 32, 99, 97, 115, 101, 32, 49, 32, 111, 102, 32, 123, 32, 50, 32, 45, 62, 32, 125]⟩, .string ⟨#[120, 32, 61, 32, 108, 101, 116, 32, 121, 32, 61, 32, 105, 110, 32, 50]⟩, .string ⟨#[100, 97, 116, 97, 32, 61, 32, 65]⟩, .string ⟨#[120, 32, 44, 32, 49]⟩] 9) = w2 := ⟨_, rfl⟩
  have hz2 : w2.heap.size = g + 1 := by rw [← hw2]; simp [hg]
  have hBw : Blk w2 g 9 wrongV := by
    have h : Blk (w1.alloc (.cells #[.string ⟨#[61, 32, 49]⟩, .string ⟨#[120, 32, 61, 32, 61, 32, 49]⟩, .string ⟨#[120, 32, 61, 32, 99, 97, 115, 101, 32, 49, 32, 111, 102, 32, 123, 32, 50, 32, 45, 62, 32, 125]⟩, .string ⟨#[120, 32, 61, 32, 108, 101, 116, 32, 121, 32, 61, 32, 105, 110, 32, 50]⟩, .string ⟨#[100, 97, 116, 97, 32, 61, 32, 65]⟩, .string ⟨#[120, 32, 44, 32, 49]⟩] 9)) w1.heap.size 9 [.string ⟨#[61, 32, 49]⟩, .string ⟨#[120, 32, 61, 32, 61, 32, 49]⟩, .string ⟨#[120, 32, 61, 32, 99, 97, 115, 101, 32, 49, 32, 111, 102, 32, 123, 32, 50, 32, 45, 62, 32, 125]⟩, .string ⟨#[120, 32, 61, 32, 108, 101, 116, 32, 121, 32, 61, 32, 105, 110, 32, 50]⟩, .string ⟨#[100, 97, 116, 97, 32, 61, 32, 65]⟩, .string ⟨#[120, 32, 44, 32, 49]⟩] := Blk.new w1 9 [.string ⟨#[61, 32, 49]⟩, .string ⟨#[120, 32, 61, 32, 61, 32, 49]⟩, .string ⟨#[120, 32, 61, 32, 99, 97, 115, 101, 32, 49, 32, 111, 102, 32, 123, 32, 50, 32, 45, 62, 32, 125]⟩, .string ⟨#[120, 32, 61, 32, 108, 101, 116, 32, 121, 32, 61, 32, 105, 110, 32, 50]⟩, .string ⟨#[100, 97, 116, 97, 32, 61, 32, 65]⟩, .string ⟨#[120, 32, 44, 32, 49]⟩]
    rw [hw2, hg, wrongV_is] at h
    exact h
  have hI := Lib.IsBuilderF.of (Lib.fresh_isBuilder 32 5 w2)
  rw [hz2] at hI
  have hW2 : Below W.heap.size W w2 := by rw [← hw2]; exact HB1.out.alloc HB1.out.size _
  have hW3 : Below W.heap.size W (w2.alloc (.cells #[.pointer none, .slice none 0 0] 32)) := hW2.alloc hW2.size _
  have hBw3 : Blk (w2.alloc (.cells #[.pointer none, .slice none 0 0] 32)) g 9 wrongV := hBw.alloc _
  have hsz3 : g + 1 ≤ (w2.alloc (.cells #[.pointer none, .slice none 0 0] 32)).heap.size := by simp [hz2]
  have hgW : Hid (W.heap.size ≤ g) := by have := HB1.out.size; show _ ≤ _; omega
  have HG := Lib.hid hg
  have HW2 := Lib.hid hw2
  have HI := Lib.hid hI
  have HW3 := Lib.hid hW3
  have HBw3 := Lib.hid hBw3
  have HSZ := Lib.hid hsz3
  clear hg hw2 hz2 hBw hI hW2 hW3 hBw3 hsz3
  go_wp2_with (go_at_call 6; rw [HG.out, HW2.out, head_]; refine (write_any (g + 1) (g + 1) [] (bs headL) _ HI.out (by rw [size_bs]; decide) HSZ.out).mono ?_)
  rintro e w3 ⟨rfl, h3, b3, -⟩
  have HW4 : Hid (Below W.heap.size W w3) := HW3.out.trans (b3.mono (by have := hgW.out; omega))
  have HB4 : Hid (Blk w3 g 9 wrongV) := HBw3.out.below b3 (by omega)
  have HS4 : Hid (g + 1 ≤ w3.heap.size) := by have := b3.size; have := HSZ.out; show _ ≤ _; omega
  have HI4 : Hid (Lib.IsBuilderF 32 5 (g + 1) (g + 1) (Lib.byteCells (toBs (linesL mn fn sn 0))) w3) := Or.inr h3
  clear h3 b3
  go_wp2
  go_loopw [40] (fun s40 wr => ∃ k : Nat, k ≤ mn ∧ .int .i64 (k : Int) = s40 ∧ Hid (Lib.IsBuilderF 32 5 (g + 1) (g + 1) (Lib.byteCells (toBs (linesL mn fn sn k))) wr) ∧ Hid (Below (g + 1) w3 wr)) (fun s40 _ => mn - (intOf s40).toNat)
  case atStart => exact ⟨0, Nat.zero_le _, rfl, HI4, Below.refl _ _⟩
  case round =>
    obtain ⟨k, hk, rfl, HIr, HBr⟩ := hrel
    have HBl : Hid (Blk wr g 9 wrongV) := HB4.out.below HBr.out (by omega)
    have HSr : Hid (g + 1 ≤ wr.heap.size) := by have := HBr.out.size; have := HS4.out; show _ ≤ _; omega
    have HL : Hid ((Lib.byteCells (toBs (linesL mn fn sn k))).length ≤ 300) := by
      have := lines_len mn fn sn k
      show _ ≤ _
      rw [Lib.byteCells_length, toBs_len]; omega
    by_cases hlt : (k : Int) < (mn : Int)
    · by_cases hks : (k : Int) = (sn : Int)
      · have hkf : ¬ (k : Int) = (fn : Int) := by omega
        have HX : Hid (lineL mn fn sn k = wrongL.getD (sn % 6) []) := by
          show _ = _
          rw [lineL, if_pos (by omega)]
        have hq : ((sn % 6 : Nat) : Int) < 6 := by omega
        have hq0 : (0 : Int) ≤ ((sn % 6 : Nat) : Int) := by omega
        obtain ⟨x, hc, hxz, HX2⟩ : ∃ x : ByteArray, wr.cell? ⟨g, sn % 6, none⟩ = some (.string x) ∧ x.size ≤ 22 ∧ Hid (x = bs (lineL mn fn sn k)) := ⟨_, HBl.out.cell (wrongV_get (sn % 6) (by omega)), (by rw [size_bs]; exact wrong_len _), (by show _ = _; rw [HX.out])⟩
        go_wp2_with (go_at_call 5; refine (within_any _ _ _ _ (by omega) (by omega) (by omega) (by omega)).mono ?_)
        rintro e w' ⟨rfl, rfl⟩
        rw [within05]
        go_wp2_with (go_at_call 6; rw [HX2.out, line_]; refine (write_any (g + 1) (g + 1) _ _ _ HIr.out (by have := HL.out; have := line_len mn fn sn k; rw [size_bs]; simp only [List.length_append, List.length_cons, List.length_nil]; omega) HSr.out).mono ?_)
        rintro e w5 ⟨rfl, h5, b5, -⟩
        go_wp2
        go_roundw
        case rel =>
          refine ⟨k + 1, by omega, by first | (simp; done) | (simp; omega), ?_, HBr.out.trans b5⟩
          rw [linesL, toBs_app, Lib.byteCells_append]
          exact Or.inr h5
        case measure => simp [intOf]; omega
      · by_cases hkf : (k : Int) = (fn : Int)
        · have HX : Hid (lineL mn fn sn k = wrongL.getD (mn % 6) []) := by
            show _ = _
            rw [lineL, if_neg (by omega), if_pos (by omega)]
          have hq : ((mn % 6 : Nat) : Int) < 6 := by omega
          have hq0 : (0 : Int) ≤ ((mn % 6 : Nat) : Int) := by omega
          obtain ⟨x, hc, hxz, HX2⟩ : ∃ x : ByteArray, wr.cell? ⟨g, mn % 6, none⟩ = some (.string x) ∧ x.size ≤ 22 ∧ Hid (x = bs (lineL mn fn sn k)) := ⟨_, HBl.out.cell (wrongV_get (mn % 6) (by omega)), (by rw [size_bs]; exact wrong_len _), (by show _ = _; rw [HX.out])⟩
          go_wp2_with (go_at_call 5; refine (within_any _ _ _ _ (by omega) (by omega) (by omega) (by omega)).mono ?_)
          rintro e w' ⟨rfl, rfl⟩
          rw [within05]
          go_wp2_with (go_at_call 6; rw [HX2.out, line_]; refine (write_any (g + 1) (g + 1) _ _ _ HIr.out (by have := HL.out; have := line_len mn fn sn k; rw [size_bs]; simp only [List.length_append, List.length_cons, List.length_nil]; omega) HSr.out).mono ?_)
          rintro e w5 ⟨rfl, h5, b5, -⟩
          go_wp2
          go_roundw
          case rel =>
            refine ⟨k + 1, by omega, by first | (simp; done) | (simp; omega), ?_, HBr.out.trans b5⟩
            rw [linesL, toBs_app, Lib.byteCells_append]
            exact Or.inr h5
          case measure => simp [intOf]; omega
        · have HX : Hid (lineL mn fn sn k = goodL) := by
            show _ = _
            rw [lineL, if_neg (by omega), if_neg (by omega)]
          go_wp2_with (go_at_call 6; rw [good_, line_, ← HX.out]; refine (write_any (g + 1) (g + 1) _ _ _ HIr.out (by have := HL.out; have := line_len mn fn sn k; rw [size_bs]; simp only [List.length_append, List.length_cons, List.length_nil]; omega) HSr.out).mono ?_)
          rintro e w5 ⟨rfl, h5, b5, -⟩
          go_wp2
          go_roundw
          case rel =>
            refine ⟨k + 1, by omega, by first | (simp; done) | (simp; omega), ?_, HBr.out.trans b5⟩
            rw [linesL, toBs_app, Lib.byteCells_append]
            exact Or.inr h5
          case measure => simp [intOf]; omega
    · have hkm : k = mn := by omega
      subst hkm
      go_wp2_with (go_at_call 7; refine (Tryz.Builder_String_any_k (g + 1) (g + 1) _ _ HIr.out HSr.out).mono ?_)
      rintro e w5 ⟨rfl, i5, b5, k5⟩
      intro i5 b5 k5
      have HW5 : Hid (Below W.heap.size W w5) := HW4.out.trans ((HBr.out.trans b5).mono (by have := hgW.out; omega))
      have HM5 : Hid (w5.cell? ⟨0, 0, none⟩ = some (.int .i64 m)) := (HW5.out.cell (p := ⟨0, 0, none⟩) hW0.out).trans HM.out
      clear b5 i5 k5
      go_wp2_with (go_at_call 4; refine (parse_at (linesL k fn sn k) _ _ HRun.out _ m HM5.out).mono ?_)
      rintro e w6 ⟨⟨t2, r2, base2, cap2, rfl, c1, c2⟩, b6⟩
      have HW6 : Hid (Below W.heap.size W w6) := HW5.out.trans (b6.mono HW5.out.size)
      clear b6
      go_wp2
      go_ret
      exact ⟨rfl, HW6.out⟩
end Go.Proofs.YtnkbpjmijeeddaaGreatDoor.pr
