/- LexerPlaces: for all texts the law returns true: each token stands in the text at its place, and what is between tokens is blanks, line feeds and comments. Condition: the library's tables are as their initialisers lay them (the card ties them). -/
import Derived.Test.YtnpgdeioaehahaaDoorTokSl
import Derived.Test.YtnpgdeioaehahaaDoorLexPl
import Derived.Test.YtnpgdeioaehahaaDoorSrcWalk
import Derived.Test.YtnpgdeioaehahaaDoorHanded
import Derived.Deep.QuietTactic
import Derived.BigQuiet
import Derived.Lib.SmallJoins
import Derived.Lib.LaidTab
import Derived.LaidSub
namespace Go.Proofs.YtnpgdeioaehahaaDoor
open Go.RowKit Go.Shelf
theorem dw_head {p : UInt8 → Bool} : ∀ (l : Bs) (a : UInt8) (r : Bs), l.dropWhile p = a :: r → p a = false
  | [], _, _, h => by cases h
  | c :: l, a, r, h => by
    rw [List.dropWhile_cons] at h
    split at h
    · exact dw_head l a r h
    · rename_i hc
      simp only [List.cons.injEq] at h
      rw [← h.1]; simpa using hc
theorem dw_nil {p : UInt8 → Bool} : ∀ l : Bs, l.dropWhile p = [] → ∀ b ∈ l, p b = true
  | [], _, b, hb => by cases hb
  | c :: l, h, b, hb => by
    rw [List.dropWhile_cons] at h
    split at h
    · rename_i hc
      rcases List.mem_cons.1 hb with rfl | hb
      · exact hc
      · exact dw_nil l h b hb
    · cases h
theorem dash_all {u : Bs} (h : dashB u = true) : ∀ b ∈ u, b = 45 := by
  unfold dashB Lib.trimB Lib.trimLeftB at h
  have h1 : (Lib.trimRightB u 45).dropWhile (· == 45) = [] := by simpa [List.isEmpty_iff] using h
  replace h1 := dw_nil _ h1
  unfold Lib.trimRightB at h1
  have h2 : u.reverse.dropWhile (· == 45) = [] := by
    cases hd : u.reverse.dropWhile (· == 45) with
    | nil => rfl
    | cons a r =>
      have h3 := dw_head _ _ _ hd
      have h4 := h1 a (by rw [hd]; simp)
      rw [h3] at h4; cases h4
  replace h2 := dw_nil _ h2
  intro b hb
  simpa using h2 b (by simpa using hb)
theorem dash_two {u : Bs} (h : dashB u = true) (hl : 1 < u.length) : ∃ z, u = 45 :: 45 :: z := by
  have ha := dash_all h
  match u, hl with
  | a :: b :: z, _ => exact ⟨z, by rw [ha a (by simp), ha b (by simp)]⟩
/-- The tokens that Scan returns, as a slice. -/
theorem scan_sl (s : ByteArray) (hz : s.size ≤ 8192) {W : World} {base : Nat} {v : Value} (hown : W.ownsRow base 28 5 v ((lexS s).1.map Tk.tok).length (((lexS s).1.map Tk.tok).flatMap Tok.cells)) :
    Sl W (fun b => base ≤ b) Tok.d ((lexS s).1.map Tk.tok) v :=
  Sl.of_own (F := fun _ => False) hown rfl (toks_rp _ fun x hx => by
    obtain ⟨y, hy, rfl⟩ := List.mem_map.1 hx
    have hle : s.data.toList.length = s.size := (Lib.size_eq s).symm
    exact tok_ok (lex_ok _ _ 1 1 (by omega) (by omega) y hy) (by omega) (by omega) (by omega) (by omega)) (fun _ h => h.elim) (fun b hb => (hown.lt b hb).1)
end Go.Proofs.YtnpgdeioaehahaaDoor

namespace Go.Proofs.YtnpgdeioaehahaaDoor.lexerPlaces
open Go.ChangeShapes Go.WideShapes Go.ChangeAt Go.RowKit Go.Shelf
open Go.ChangeMaps (open_string)

theorem own : ownKnob Tryd.prog.godebug = none := by kernel_rfl
theorem gTab : Tryd.prog.globalNamed "strings.asciiSpace" = some 0 := by kernel_rfl

set_option maxRecDepth 100000 in
set_option maxHeartbeats 8000000 in
theorem walk (s : ByteArray) (w : World) (m : Int) (hL : Lim w w.heap.size m) (hT : Lib.TabIs Tryd.prog w "strings.asciiSpace" .u8 Lib.asciiSpaceTab) :
    Calls Tryd.prog 3 #[.string s] w fun e w' => e = .returned (.bool true) ∧ Below w.heap.size w w' := by
  have H0 := Lib.hid (scan_any ⟨#[32, 120]⟩ w m hL)
  have HS := Lib.hid (fun (W : World) (hb : Below w.heap.size w W) => scan_any s W m (hL.here hb (Nat.le_refl _)))
  have HTr := Lib.hid (fun (W : World) (hb : Below w.heap.size w W) (x : ByteArray) (h1 : x.size ≤ 9223372036854775807) (h2 : ∀ (j : Nat) b, x.data.toList[j]? = some b → b.toNat < 128) =>
    (Tryd.strings_TrimSpace x W h1 h2 (Joins.tab_stays gTab hT hb (Nat.le_refl _))).mono (R' := fun e w' => e = .returned (.string ⟨(Lib.trimSpace x.data.toList).toArray⟩) ∧ Below W.heap.size W w') fun e w' ⟨he, hw⟩ => ⟨he, by rw [hw]; exact Joins.below_bytesWorld _ _ _ _ (Nat.le_refl _)⟩)
  clear hT hL
  go_enter Tryd.func3, Tryd.ntmps3
  go_wp2_with fail
  with_reducible refine H0.out.mono ?_
  rintro e W1 ⟨hb1, ⟨v1, v2, c0, _, _, hx⟩ | ⟨_, _, v0, rfl, hown0⟩⟩
  · exfalso
    rcases hx with h | h
    · exact h (by decide +kernel)
    · exact absurd h (by decide +kernel)
  have hs0 := scan_sl ⟨#[32, 120]⟩ (by decide) hown0
  have hn2 : ((lexS ⟨#[32, 120]⟩).1.map Tk.tok).length = 2 := by decide +kernel
  have hcol : (((lexS ⟨#[32, 120]⟩).1.map Tk.tok)[0]?.map Tok.col) = some 2 := by decide +kernel
  obtain ⟨L0, hL0⟩ : ∃ l, (lexS ⟨#[32, 120]⟩).1.map Tk.tok = l := ⟨_, rfl⟩
  rw [hL0] at hs0 hn2 hcol
  obtain ⟨A0, cc0, rfl, _⟩ := hs0.form
  obtain ⟨g0, o0, rfl, k4⟩ : ∃ g0 o0, A0 = some ⟨g0, o0, none⟩ ∧ W1.cell? ⟨g0, o0 + 4, none⟩ = some (.int .i64 2) := by
    obtain ⟨g0, o0, rfl, _, _, _, _, _, k4, _⟩ := Tok.get hs0 (show 0 < L0.length by omega)
    have hcol2 : L0[0].col = 2 := by
      rw [List.getElem?_eq_getElem (by omega)] at hcol
      simpa using hcol
    rw [hcol2, Nat.zero_mul, Nat.add_zero] at k4
    exact ⟨g0, o0, rfl, k4⟩
  rw [hn2]
  have HS1 := Lib.hid (HS.out W1 hb1)
  clear hown0 hs0 hn2 hcol hL0
  go_wp2_with fail
  with_reducible refine HS1.out.mono ?_
  rintro e W2 ⟨hb2, ⟨v1, v2, c1, hc1, rfl, _⟩ | ⟨hos, hls, va, rfl, howna⟩⟩
  · have hne : (c1 != 0) = true := bne_iff_ne.2 hc1
    go_wp2_with fail
    go_ret
    exact ⟨rfl, hb1.trans (hb2.mono hb1.size)⟩
  have hbw2 := hb1.trans (hb2.mono hb1.size)
  have hsz := chk_size hos
  have hsl := scan_sl s hsz howna
  have hSl : s.data.toList.length = s.size := (Lib.size_eq s).symm
  have hpl0 := lex_places (kw := kwB) (dash := dashB) (fun u h1 h2 => dash_two h1 h2) (s.size + 1) s.data.toList [] [] [] 0 1 1 (by omega) Pos.start rfl GapOk.nil hls
  have hend := lex_end (kw := kwB) (dash := dashB) (s.size + 1) s.data.toList 1 1 (by omega)
  obtain ⟨LK, hLK⟩ : ∃ l, (lexS s).1 = l := ⟨_, rfl⟩
  change Placed ([] ++ s.data.toList) 0 (lexS s).1 at hpl0
  change ∃ r x, (lexS s).1 = r ++ [x] ∧ x.kind = 9 at hend
  rw [hLK, List.nil_append] at hpl0
  rw [hLK] at hsl hend
  obtain ⟨V, vc, hva, hvl, hvc, _⟩ := hsl.form
  rw [List.length_map] at hva hvl
  subst hva
  have hLl : LK.length ≤ 9223372036854775807 := by unfold maxLen at hvc; omega
  have HP0 := Lib.hid hpl0
  have HEnd := Lib.hid hend
  have HOs := Lib.hid hos
  have HAsc : Hid (∀ b ∈ s.data.toList, b.toNat < 128) := fun b hb => by
    have h1 := hos
    unfold chk at h1
    rw [if_neg (by omega)] at h1
    split at h1
    · rename_i h2
      have h3 := List.all_eq_true.1 h2 b hb
      unfold okByte at h3
      rw [Bool.or_eq_true, Bool.and_eq_true, decide_eq_true_eq, decide_eq_true_eq] at h3
      rcases h3 with h3 | h3
      · rw [beq_iff_eq.1 h3]; decide
      · omega
    · cases h1
  clear howna hls hLK hpl0 hend hos hSl
  go_wp2_with fail
  go_loopw [9, 45] (fun ev i wr => ∃ k e : Nat, k ≤ LK.length ∧ i = .int .i64 k ∧ ev = .int .i64 e ∧ e ≤ s.size ∧ Below W2.heap.size W2 wr ∧ Hid (Placed s.data.toList e (LK.drop k))) (fun _ i _ => LK.length - (intOf i).toNat)
  case atStart => exact ⟨0, 0, Nat.zero_le _, rfl, rfl, Nat.zero_le _, Below.refl _ _, HP0.out⟩
  case round =>
    obtain ⟨k, e0, hk, rfl, rfl, he0, hb, hP⟩ := hrel
    by_cases hlt : k < LK.length
    · have hpl := hP.out
      rw [List.drop_eq_getElem_cons hlt] at hpl
      obtain ⟨k', c, y, hln, hcl, hy, hcy, hep, hpe, htx, hgap, hrest⟩ := hpl
      obtain ⟨p, hp⟩ : ∃ p, start s.data.toList k' + c = p := ⟨_, rfl⟩
      rw [hp] at hep hpe htx hgap hrest
      have hkt : k < (LK.map Tk.tok).length := by simpa using hlt
      obtain ⟨g, off, hadr, hF, q0, q1, q2, q3, q4, _, s1, _, _, _⟩ := Tok.get (hsl.later hb) hkt
      obtain rfl := hadr
      rw [List.getElem_map] at q0 q1 q2 q3 q4 s1
      obtain ⟨x, hx⟩ : ∃ x, LK[k] = x := ⟨_, rfl⟩
      rw [hx] at q0 q1 q2 q3 q4 s1 hln hcl htx hpe hrest
      change wr.cell? _ = some (.int .i64 x.kind) at q0
      change wr.cell? _ = some (.string ⟨x.text.toArray⟩) at q1
      change wr.cell? _ = some (.int .i64 x.n) at q2
      change wr.cell? _ = some (.int .i64 x.line) at q3
      change wr.cell? _ = some (.int .i64 x.col) at q4
      rw [hln] at q3
      rw [hcl] at q4
      have hyB : ∃ yB, (LB s)[k']? = some yB ∧ yB.data.toList = y := by
        rw [← LB_lines, List.getElem?_map, Option.map_eq_some_iff] at hy
        exact hy
      obtain ⟨yB, hyB, hyd⟩ := hyB
      have hcb : c ≤ yB.size := by rw [Lib.size_eq, hyd]; exact hcy
      have HOff : Hid (∀ W : World, Calls Tryd.prog 7 #[.string s, .int .i64 ((k' : Int) + 1), .int .i64 ((c : Int) + 1)] W fun e w' => e = .returned (.tuple #[.int .i64 (p : Int), .int .i64 0]) ∧ Below W.heap.size W w') := fun W => by
        have := offset_in s k' c yB W HOs.out hyB hcb
        rwa [show ((start s.data.toList k' : Int) + (c : Int)) = (p : Int) by omega] at this
      obtain ⟨tx, htxd⟩ : ∃ tx : ByteArray, (⟨x.text.toArray⟩ : ByteArray) = tx := ⟨_, rfl⟩
      rw [htxd] at q1
      have htl : tx.data.toList = x.text := by rw [← htxd]
      have htz : tx.size = x.text.length := by rw [Lib.size_eq, htl]
      rw [← htz] at hpe hrest
      have hSl : s.data.toList.length = s.size := (Lib.size_eq s).symm
      rw [hSl] at hpe
      have HPx : Hid (∀ W : World, Calls Tryd.prog 8 #[.string (s.extract p s.size), .string tx] W fun e w' => e = .returned (.bool true) ∧ w' = W) := fun W => by
        have := Tryd.strings_HasPrefix (s.extract p s.size) tx W
        rwa [Lib.extract_to_end, htl, show Lib.hasPrefix (s.data.toList.drop p) x.text = true from List.isPrefixOf_iff_prefix.2 (List.prefix_iff_eq_take.2 htx.symm)] at this
      have HSp : Hid (∀ W : World, _) := fun W => strSplit (s.extract e0 p) W (by rw [Lib.size_eq, Lib.extract_data]; simp; omega)
      have hGd : (s.extract e0 p).data.toList = (s.data.toList.drop e0).take (p - e0) := Lib.extract_data _ _ _
      have HPc : Hid (∀ (q : Nat) z, (LB (s.extract e0 p))[q]? = some z → PieceOk z.data.toList ∧ z.size ≤ 9223372036854775807 ∧ ∀ (j : Nat) b, z.data.toList[j]? = some b → b.toNat < 128) := fun q z hz => by
        have h1 := LB_get hz
        rw [hGd] at h1
        have h2 := List.mem_of_getElem? h1
        refine ⟨hgap _ h2, ?_, fun j b hb' => HAsc.out b ?_⟩
        · have := LB_size hz
          have h4 : (s.extract e0 p).size ≤ s.size := by rw [Lib.size_eq, hGd, ← hSl]; simp; omega
          omega
        · have h3 := lines_mem _ _ h2 b (List.mem_of_getElem? hb')
          exact List.mem_of_mem_drop (List.mem_of_mem_take h3)
      obtain ⟨LG, hLG⟩ : ∃ l, LB (s.extract e0 p) = l := ⟨_, rfl⟩
      rw [hLG] at HSp HPc
      have hLGl : LG.length ≤ 9000 := by
        rw [← hLG, LB_length, hGd]
        have := List.count_le_length (a := (10 : UInt8)) (l := (s.data.toList.drop e0).take (p - e0))
        simp at this ⊢; omega
      have HR := Lib.hid hrest
      obtain ⟨zb, hzb⟩ : ∃ zb, wr.heap.size = zb := ⟨_, rfl⟩
      have hblk : Blk (wr.alloc (.cells #[.int .i64 x.kind, .string tx, .int .i64 x.n, .int .i64 ((k' : Int) + 1), .int .i64 ((c : Int) + 1)] 28)) zb 28 [.int .i64 x.kind, .string tx, .int .i64 x.n, .int .i64 ((k' : Int) + 1), .int .i64 ((c : Int) + 1)] := by
        have := Blk.new wr 28 [.int .i64 x.kind, .string tx, .int .i64 x.n, .int .i64 ((k' : Int) + 1), .int .i64 ((c : Int) + 1)]
        simpa [hzb] using this
      have HBl := Lib.hid hblk
      have HB := Lib.hid hb
      have HZb := Lib.hid hzb
      have k0 : (0 : Int) ≤ (k : Int) := by omega
      have k1 : (k : Int) < (LK.length : Int) := by omega
      have p0 : (0 : Int) ≤ (p : Int) := by omega
      have p1 : (p : Int) ≤ (s.size : Int) := by omega
      have p2 : (e0 : Int) ≤ (p : Int) := by omega
      have p3 : ¬ (p : Int) < (e0 : Int) := by omega
      have p4 : (0 : Int) ≤ (e0 : Int) := by omega
      have p5 : (s.size : Int) ≤ 8192 := by omega
      have p6 : (tx.size : Int) ≤ 8192 := by omega
      have hgw := block_lt_of_cell q0
      clear hln hcl hy hcy htx hgap hrest hp hx hyB hyd hcb htxd htl hGd hLG hblk hb hP s1 hSl hzb
      go_wp2_with fail
      with_reducible refine (HOff.out _).mono ?_
      rintro e w3 ⟨rfl, hb3⟩
      have hB3 := HBl.out.later hb3
      have d1 := hB3.cell (i := 1) rfl
      rw [← HZb.out] at d1
      have HB3 := Lib.hid hB3
      have hbw3 : Below W2.heap.size W2 w3 := HB.out.trans ((Below.alloc (Below.refl _ _) (Nat.le_refl _) _).trans (hb3.mono (by simp)) |>.mono HB.out.size)
      have HB3w := Lib.hid hbw3
      clear hB3 hbw3
      go_wp2_with fail
      go_quiet ((go_at_call 8; exact Calls.quiet_of_same (HPx.out _)))
      go_wp2_with fail
      with_reducible refine (HSp.out _).mono ?_
      rintro e w4 ⟨gs, rfl, hgs, hcells, hb4⟩
      have hb4' : Below w3.heap.size w3 w4 := (Below.drewN (Below.refl _ _) nq).trans hb4
      have hB4 := HB3.out.later hb4'
      have HB4 := Lib.hid hB4
      have HCe := Lib.hid hcells
      have HW4 := Lib.hid (HB3w.out.trans (hb4'.mono HB3w.out.size))
      have hgl : ∀ (j : Nat) x, LG[j]? = some x → gs < w4.heap.size := fun j x h => block_lt_of_cell (hcells j x h)
      have HGl := Lib.hid hgl
      clear hcells hb4 hb4' hB4 hgl d1
      go_wp2_with fail
      go_loopw [15, 80] (fun _ i wi => ∃ q : Nat, q ≤ LG.length ∧ i = .int .i64 q ∧ Below w4.heap.size w4 wi) (fun _ i _ => LG.length - (intOf i).toNat)
      case atStart => exact ⟨0, Nat.zero_le _, rfl, Below.refl _ _⟩
      case round =>
        obtain ⟨q, hq, rfl, hbi⟩ := hrel
        by_cases hql : q < LG.length
        · have hqz : LG[q]? = some LG[q] := List.getElem?_eq_getElem hql
          obtain ⟨z, hz⟩ : ∃ z, LG[q] = z := ⟨_, rfl⟩
          rw [hz] at hqz
          have e0c : wr.cell? ⟨gs, q, none⟩ = some (.string z) := (hbi.cell (p := ⟨gs, q, none⟩) (HGl.out q z hqz)).trans (HCe.out q z hqz)
          obtain ⟨hpc, hz1, hz2⟩ := HPc.out q z hqz
          have HTz := Lib.hid (HTr.out wr (hbw2.trans ((HW4.out.trans (hbi.mono HW4.out.size)).mono hbw2.size)) z hz1 hz2)
          have htr := hpc.trim
          obtain ⟨tz, htz⟩ : ∃ tz : ByteArray, (⟨(Lib.trimSpace z.data.toList).toArray⟩ : ByteArray) = tz := ⟨_, rfl⟩
          have htd : tz.data.toList = Lib.trimSpace z.data.toList := by rw [← htz]
          rw [htz] at HTz
          rw [← htd] at htr
          have HTr2 := Lib.hid htr
          have i0 : (0 : Int) ≤ (q : Int) := by omega
          have i1 : (q : Int) < (LG.length : Int) := by omega
          clear hqz hz hpc hz2 htr htz htd
          cases hE : tz.toList.isEmpty
          · have HPd : Hid (∀ W : World, Calls Tryd.prog 8 #[.string tz, .string ⟨#[45, 45]⟩] W fun e w' => e = .returned (.bool true) ∧ w' = W) := fun W => by
              have := Tryd.strings_HasPrefix tz ⟨#[45, 45]⟩ W
              have h2 : Lib.hasPrefix tz.data.toList [45, 45] = true := by
                rcases HTr2.out with h | ⟨r, h⟩
                · rw [ByteArray.toList_eq, h] at hE; cases hE
                · rw [h]; simp [Lib.hasPrefix, List.isPrefixOf]
              rwa [show Lib.hasPrefix tz.data.toList (⟨#[45, 45]⟩ : ByteArray).data.toList = true from h2] at this
            go_wp2_with fail
            with_reducible refine HTz.out.mono ?_
            rintro e w5 ⟨rfl, hb5⟩
            go_wp2_with fail
            with_reducible refine (HPd.out _).mono ?_
            rintro e w6 ⟨rfl, hw6⟩
            subst hw6
            go_wp2_with fail
            go_roundw
            case rel => exact ⟨q + 1, by omega, by go_num, hbi.trans (hb5.mono hbi.size)⟩
            case measure => simp [intOf]; omega
          · go_wp2_with fail
            with_reducible refine HTz.out.mono ?_
            rintro e w5 ⟨rfl, hb5⟩
            go_wp2_with fail
            go_roundw
            case rel => exact ⟨q + 1, by omega, by go_num, hbi.trans (hb5.mono hbi.size)⟩
            case measure => simp [intOf]; omega
        · have i1 : ¬ (q : Int) < (LG.length : Int) := by omega
          have hBi := HB4.out.later hbi
          have d1 := hBi.cell (i := 1) rfl
          rw [← HZb.out] at d1
          have HBi := Lib.hid (HW4.out.trans (hbi.mono HW4.out.size))
          clear hBi
          go_wp2_with fail
          go_roundw
          case rel => exact ⟨k + 1, p + tx.size, by omega, by go_num, by go_num, by omega, HBi.out, HR.out⟩
          case measure => simp [intOf]; omega
    · have k1 : ¬ (k : Int) < (LK.length : Int) := by omega
      obtain rfl : k = LK.length := by omega
      obtain ⟨r, x, hr, hx9⟩ := HEnd.out
      have hn : LK.length = r.length + 1 := by rw [hr]; simp
      have hend := hP.out
      rw [List.drop_length] at hend
      change e0 = s.data.toList.length at hend
      rw [← Lib.size_eq] at hend
      have hkt : r.length < (LK.map Tk.tok).length := by simp; omega
      obtain ⟨g, off, hadr, q0⟩ : ∃ g off, V = some ⟨g, off, none⟩ ∧ wr.cell? ⟨g, off + r.length * 5, none⟩ = some (.int .i64 9) := by
        obtain ⟨g, off, hadr, hF, q0, _⟩ := Tok.get (hsl.later hb) hkt
        refine ⟨g, off, hadr, q0.trans ?_⟩
        have : (LK.map Tk.tok)[r.length]? = some x.tok := by rw [hr]; simp
        rw [List.getElem?_eq_getElem hkt] at this
        rw [Option.some.inj this]
        show some (Value.int .i64 x.kind) = _
        rw [hx9]
      obtain rfl := hadr
      have e1 : (e0 : Int) = (s.size : Int) := by omega
      have l1 : (0 : Int) ≤ (r.length : Int) := by omega
      have l2 : (LK.length : Int) - 1 = (r.length : Int) := by omega
      have l3 : (r.length : Int) < (LK.length : Int) := by omega
      have HB := Lib.hid hb
      clear hr hx9 hend hkt hP hn
      go_wp2_with fail
      go_ret
      exact ⟨ret_bool (by simp), hbw2.trans (HB.out.mono hbw2.size)⟩


theorem tab_of_laid {W : World} (h : laidMetH Tryd.prog Rows.lexerPlacesRow.laid W) : Lib.TabIs Tryd.prog W "strings.asciiSpace" .u8 Lib.asciiSpaceTab := by
  have h1 := laidMetH.filter (fun x => x.1 == "strings.asciiSpace") h
  have h2 : laidMetH Tryd.prog [("strings.asciiSpace", Lib.tabData .u8 Lib.asciiSpaceTab)] W := by
    have e : (Rows.lexerPlacesRow.laid.filter fun x => x.1 == "strings.asciiSpace") = [("strings.asciiSpace", Lib.tabData .u8 Lib.asciiSpaceTab)] := by kernel_rfl
    rw [e] at h1; exact h1
  rw [MakeChecks.laidMetH_plain _ _ _ (by kernel_rfl)] at h2
  exact Lib.tabIs_of_head gTab (by kernel_rfl) Tryd.underlying58 Tryd.underlying5 (by kernel_rfl) (by kernel_rfl) h2

theorem laid : laidOutB Tryd.prog = true := by kernel_rfl

set_option maxRecDepth 100000 in
theorem lifted (os : Os) (started : os.Started) (H : Type) (enc : TypeId × Value → H) :
    ReturnsInHanded {} Tryd.checked os 3 .any (fun w args => (Rows.lexerPlacesSpec.pre enc Tryd.prog Tryd.f3 [] false w args ∧ laidMetH Tryd.prog Rows.lexerPlacesRow.laid w) ∧ sizedMet enc Tryd.prog Tryd.f3 (OpenSpec.ofChange Rows.lexerPlacesSpec) false w args)
      (Rows.lexerPlacesSpec.post enc Tryd.prog Tryd.f3 false true false false) := by
  refine handed_shaped_laid (C := Tryd.checked) (L := Rows.lexerPlacesRow.laid) own started (by kernel_rfl) Tryd.func3
    (ChangeSpec.witness_shaped (enc := enc) (C := Tryd.checked) (os := os) (X := fun w _ => laidMetH Tryd.prog Rows.lexerPlacesRow.laid w) false (World.laidAll Tryd.prog os Rows.lexerPlacesRow.laid) #[.string ⟨#[]⟩] 8 (World.laidAll_os _ _ _)
      (World.shaped_of_ZipB (by kernel_rfl) (by kernel_rfl)) (by kernel_rfl) (by kernel_rfl) (by kernel_rfl)
      (by rw [MakeChecks.laidMetH_plain _ _ _ (by kernel_rfl)]; exact laidMet_laidAll _ (by kernel_rfl) (by kernel_rfl))) ?_
  intro W base args ds gs before hval0 hW _ hsh hlaid
  obtain ⟨m, hm⟩ := Tryd.laysM144.s1_3 W hsh
  have hLim : Lim W W.heap.size m := ⟨hm, World.block_lt_of_cell? _ _ hm⟩
  have hTab := tab_of_laid hlaid
  have hval : ∀ (j : Nat) t v, Tryd.f3.params[j]? = some t → args[j]? = some v → Value.okWide Tryd.prog W .any base t v := hval0
  have hW' := hW
  obtain ⟨p, q, hA0, hV, hbef, hfz, hnd⟩ := hW
  have hA : DataW.TrodAll enc Tryd.prog W 0 (fun _ => true) true Tryd.f3.params.toList args.toList ds p := hA0
  rw [Tryd.params3] at hA hval
  obtain ⟨v0, vs0, d0, ds0, p0, q0, hargs, hds, rfl, h0, r0⟩ := trodAll_cons hA
  obtain ⟨rfl, rfl, rfl⟩ := trodAll_nil r0
  obtain rfl : args = #[v0] := by cases args; simp_all
  obtain ⟨rfl, _⟩ := trodVars_none hV
  subst hds
  obtain ⟨a0, rfl, rfl, rfl, s0⟩ := open_string Tryd.underlying9 (hval 0 9 v0 rfl rfl) h0
  refine (walk a0 W m hLim hTab).mono fun e W' ⟨he, hb⟩ => ?_
  subst he
  exact ⟨_, rfl, law_post laid (by kernel_rfl) rfl Tryd.underlying4 rfl rfl rfl rfl hW' hb⟩

theorem over : Rows.lexerPlacesRow.holds Tryd.pinned (OpenSpec.ofChange Rows.lexerPlacesSpec) :=
  OpenClaim.holds_of_wide 3 Tryd.f3 rfl rfl rfl rfl rfl rfl rfl ⟨rfl, rfl, rfl, rfl, rfl⟩ rfl rfl rfl rfl rfl (by kernel_rfl) Tryd.func3 (by kernel_rfl)
    (of_decide_eq_true (by kernel_rfl)) (by unfold Func.isWrapper; first | (rw [if_pos (by decide +kernel)]; kernel_rfl) | (rw [if_neg (by decide +kernel)]; exact ⟨rfl, rfl⟩))
    (fun os started H enc _ => lifted os started H enc)

theorem proved : Rows.LexerPlacesCardSaid :=
  Claim7.holds_tied_plain_at .later [] [.data, .listed, .data, .pinned] true Rows.lexerPlacesCard.stood.harness false over (fun _ h => by cases h) (by kernel_rfl) (fun _ h => by cases h) lexerPlaces_row_tie rfl ⟨rfl, rfl⟩ (by kernel_rfl) rfl
    (fun f fn hf hfn => by
      obtain rfl : f = 3 := Option.some.inj ((show Tryd.prog.funcNamed Tryd.f3.name = some 3 by kernel_rfl).symm.trans hf) |>.symm
      obtain rfl : fn = Tryd.f3 := (Option.some.inj (Tryd.func3.symm.trans hfn)).symm
      exact ⟨by kernel_rfl, fun j t ht => by
        rw [Tryd.params3] at ht
        have hm : t ∈ [9] := by simpa using Array.mem_of_getElem? ht
        have hall : ([9].all fun u => !Tryd.prog.wantsStandIn u) = true := by kernel_rfl
        exact (show Tryd.prog.wantsStandIn t = false by simpa using List.all_eq_true.1 hall t hm)⟩)
    (by kernel_rfl)
#print axioms proved
end Go.Proofs.YtnpgdeioaehahaaDoor.lexerPlaces
