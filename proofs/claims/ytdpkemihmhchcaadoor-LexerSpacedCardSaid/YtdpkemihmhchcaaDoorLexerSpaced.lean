/- LexerSpaced: for every text the law returns true: tokens separated by spaces are scanned as the same tokens. No conditions. -/
import Derived.Test.YtdpkemihmhchcaaDoorTokEqF
import Derived.Test.YtdpkemihmhchcaaDoorLexSp
import Derived.Test.YtdpkemihmhchcaaDoorBuilderLex
import Derived.Test.YtdpkemihmhchcaaDoorHanded
namespace Go.Proofs.YtdpkemihmhchcaaDoor
open Go.RowKit Go.Shelf

theorem isb_below {T e : TypeId} {B b : Nat} {bs : List Value} {w w' : World} (h : Lib.IsBuilder T e B b bs w) (hb : Below w.heap.size w w') : Lib.IsBuilder T e B b bs w' := by
  have step : ∀ p, Lib.BuilderAt T e B b p bs w → Lib.BuilderAt T e B b p bs w' := fun p ⟨h1, v, h2, h3, h4⟩ =>
    ⟨h1, v, (hb.block b (Array.getElem?_eq_some_iff.1 h2).1).trans h2, own_keeps (X := fun _ => False) h3 (Keeps.of_below hb) (fun _ _ h => h), h4⟩
  rcases h with h | h
  · exact .inl (step _ h)
  · exact .inr (step _ h)

/-- The tokens' texts, a blank behind each. -/
def spacedT (l : List Tok) : Bs := l.flatMap fun x => x.text.data.toList ++ [32]
theorem spacedT_tok (l : List Tk) : spacedT (l.map Tk.tok) = spaced l := by
  induction l with
  | nil => rfl
  | cons x t ih =>
    show (ByteArray.mk x.text.toArray).data.toList ++ [32] ++ spacedT (t.map Tk.tok) = x.text ++ [32] ++ spaced t
    rw [ih]
theorem spacedT_snoc (l : List Tok) (x : Tok) : spacedT (l ++ [x]) = spacedT l ++ (x.text.data.toList ++ [32]) := by simp [spacedT]

theorem spacedT_len : ∀ (l : List Tok), (∀ x ∈ l, x.text.size ≤ 8192) → (spacedT l).length ≤ l.length * 8193
  | [], _ => by simp [spacedT]
  | x :: t, h => by
    have h1 := spacedT_len t (fun y hy => h y (by simp [hy]))
    have h2 := h x (by simp)
    rw [Lib.size_eq] at h2
    have e : spacedT (x :: t) = x.text.data.toList ++ [32] ++ spacedT t := rfl
    rw [e, List.length_append, List.length_append, List.length_cons]
    simp only [List.length_cons, List.length_nil]
    omega

theorem spaced_chk {s : ByteArray} (hs : chk s = 0) {J : ByteArray} (hJ : J.data.toList = spaced (lexS s).1) (hz : J.size ≤ 8192) : chk J = 0 := by
  have h1 : s.data.toList.all okByte = true := by
    unfold chk at hs; split at hs
    · simp at hs
    · split at hs
      · assumption
      · simp at hs
  unfold chk
  rw [if_neg (by omega), if_pos]
  rw [hJ, List.all_eq_true]
  intro y hy
  obtain ⟨x, hx, hy⟩ := List.mem_flatMap.1 hy
  rcases List.mem_append.1 hy with hy | hy
  · exact List.all_eq_true.1 h1 y (lex_sub _ _ _ _ x hx y hy)
  · rw [List.mem_singleton.1 hy]; decide

theorem spaced_lex {s : ByteArray} (hb : (lexS s).2 = false) {J : ByteArray} (hJ : J.data.toList = spaced (lexS s).1) :
    (lexS J).1.map Tk.core = (lexS s).1.map Tk.core ∧ (lexS J).2 = false := by
  have hl := Lib.size_eq J
  have := lex_spaced (kw := kwB) (dash := dashB) (s.size + 1) s.data.toList 1 1 (by rw [← Lib.size_eq]; omega) hb J.size 1 1 (by
    show (spaced (lexS s).1).length ≤ _
    rw [← hJ]; omega)
  unfold lexS at hJ ⊢
  rw [hJ]
  exact this
theorem core_tok {l m : List Tk} (h : m.map Tk.core = l.map Tk.core) : (m.map Tk.tok).length = (l.map Tk.tok).length ∧ ∀ (k : Nat) x y, (l.map Tk.tok)[k]? = some x → (m.map Tk.tok)[k]? = some y → x.kind = y.kind ∧ x.text = y.text ∧ x.n = y.n := by
  refine ⟨?_, fun k x y hx hy => ?_⟩
  · have := congrArg List.length h
    simpa using this
  · rw [List.getElem?_map, Option.map_eq_some_iff] at hx hy
    obtain ⟨a, ha, rfl⟩ := hx
    obtain ⟨b, hb, rfl⟩ := hy
    have e : (m.map Tk.core)[k]? = (l.map Tk.core)[k]? := by rw [h]
    rw [List.getElem?_map, List.getElem?_map, ha, hb] at e
    simp only [Option.map_some, Option.some.injEq, Tk.core, Prod.mk.injEq] at e
    obtain ⟨e1, e2, e3⟩ := e
    refine ⟨e1.symm, ?_, e3.symm⟩
    show (ByteArray.mk a.text.toArray) = ByteArray.mk b.text.toArray
    rw [e2]
end Go.Proofs.YtdpkemihmhchcaaDoor

namespace Go.Proofs.YtdpkemihmhchcaaDoor.lexerSpaced
open Go.ChangeShapes Go.WideShapes Go.ChangeAt Go.RowKit Go.Shelf
open Go.ChangeMaps (open_string)

theorem own : ownKnob Tryd.prog.godebug = none := by kernel_rfl

set_option maxRecDepth 100000 in
set_option maxHeartbeats 4000000 in
theorem walk (s : ByteArray) (w : World) (m : Int) (hL : Lim w w.heap.size m) :
    Calls Tryd.prog 3 #[.string s] w fun e w' => e = .returned (.bool true) ∧ Below w.heap.size w w' := by
  have H0 := Lib.hid (scan_any ⟨#[97, 43, 98]⟩ w m hL)
  have HS := Lib.hid (fun (x : ByteArray) (W : World) (hb : Below w.heap.size w W) => scan_any x W m (hL.here hb (Nat.le_refl _)))
  go_enter Tryd.func3, Tryd.ntmps3
  go_wp2_with fail
  with_reducible refine H0.out.mono ?_
  rintro e W1 ⟨hb1, ⟨v1, v2, c0, _, _, hx⟩ | ⟨_, _, v0, rfl, hown0⟩⟩
  · exfalso
    rcases hx with h | h
    · exact h (by decide +kernel)
    · exact absurd h (by decide +kernel)
  have hn3 : ((lexS ⟨#[97, 43, 98]⟩).1.map Tk.tok).length = 4 := by decide +kernel
  rw [hn3] at hown0
  obtain ⟨A0, cc0, rfl, _, _⟩ := own_form hown0
  clear hown0 hn3
  have HS1 := Lib.hid (HS.out s W1 hb1)
  go_wp2_with fail
  with_reducible refine HS1.out.mono ?_
  rintro e W2 ⟨hb2, hcs⟩
  have hbw2 := hb1.trans (hb2.mono hb1.size)
  rcases hcs with ⟨v1, v2, c1, hc1, rfl, _⟩ | ⟨hos, hls, va, rfl, howna⟩
  · have hne : (c1 != 0) = true := bne_iff_ne.2 hc1
    go_wp2_with fail
    go_ret
    exact ⟨rfl, hbw2⟩
  · have hsz := chk_size hos
    have hokA := lexS_ok s hsz
    obtain ⟨nn, hnn1, hnn2⟩ := lexS_length s
    have hJ0 := spacedT_tok (lexS s).1
    have hcoreS : ((lexS s).1.map Tk.tok).length = (lexS s).1.length := List.length_map _
    have htx : ∀ x ∈ (lexS s).1.map Tk.tok, x.text.size ≤ 8192 := fun x hx => by
      obtain ⟨y, hy, rfl⟩ := List.mem_map.1 hx
      have h1 := (lex_ok _ _ 1 1 (by omega) (by omega) y hy).text
      rw [← Lib.size_eq] at h1
      show (ByteArray.mk y.text.toArray).size ≤ 8192
      rw [Lib.size_eq]
      show y.text.length ≤ 8192
      omega
    obtain ⟨LA, hLA⟩ : ∃ LA, (lexS s).1.map Tk.tok = LA := ⟨_, rfl⟩
    rw [hLA] at howna hokA hJ0 htx hcoreS
    have hnl : LA.length ≤ 8193 := by omega
    have HLA := Lib.hid hLA
    have HJ0 := Lib.hid hJ0
    have HOS := Lib.hid hos
    have HLS := Lib.hid hls
    have hsA := own_sl howna hokA
    obtain ⟨Aa, ca, rfl, _, _⟩ := own_form howna
    clear hLA hJ0 hos hls hcoreS hnn1 hnn2
    have hstart := Lib.fresh_isBuilder 30 5 W2
    have hb0 : ∀ o, Below W2.heap.size W2 (W2.alloc o) := fun o => Below.alloc (Below.refl _ _) (Nat.le_refl _) o
    have HST := Lib.hid hstart
    clear hstart
    go_wp2_with fail
    go_loopw [36] (fun i wr => ∃ k : Nat, k ≤ LA.length ∧ i = .int .i64 k ∧ Lib.IsBuilder 30 5 W2.heap.size W2.heap.size (Lib.byteCells (spacedT (LA.take k))) wr ∧ Below W2.heap.size W2 wr) (fun i _ => LA.length - (intOf i).toNat)
    case atStart => exact ⟨0, Nat.zero_le _, rfl, HST.out, hb0 _⟩
    case round =>
      obtain ⟨k, hk, rfl, hib, hb⟩ := hrel
      by_cases hlt : k < LA.length
      · obtain ⟨ga, offa, rfl, fa, a0, a1, a2, a3, a4, _, _, _, _, _⟩ := Tok.get (hsA.later hb) hlt
        have k0 : (0 : Int) ≤ (k : Int) := by omega
        have k1 : (k : Int) < (LA.length : Int) := by omega
        have hga : ga < wr.heap.size := block_lt_of_cell a0
        have hbx : ∀ o, Below wr.heap.size wr (wr.alloc o) := fun o => Below.alloc (Below.refl _ _) (Nat.le_refl _) o
        have a0' : ∀ o, (wr.alloc o).cell? _ = _ := fun o => ((hbx o).cell (p := ⟨ga, _, none⟩) hga).trans a0
        have a1' : ∀ o, (wr.alloc o).cell? _ = _ := fun o => ((hbx o).cell (p := ⟨ga, _, none⟩) hga).trans a1
        have a2' : ∀ o, (wr.alloc o).cell? _ = _ := fun o => ((hbx o).cell (p := ⟨ga, _, none⟩) hga).trans a2
        have a3' : ∀ o, (wr.alloc o).cell? _ = _ := fun o => ((hbx o).cell (p := ⟨ga, _, none⟩) hga).trans a3
        have a4' : ∀ o, (wr.alloc o).cell? _ = _ := fun o => ((hbx o).cell (p := ⟨ga, _, none⟩) hga).trans a4
        have hln := spacedT_len (LA.take k) (fun x hx => htx x (List.take_subset _ _ hx))
        have htl : (LA.take k).length ≤ 8193 := by rw [List.length_take]; omega
        have htk := htx LA[k] (List.getElem_mem hlt)
        have hstep : Lib.byteCells (spacedT (LA.take k)) ++ Lib.strCells (LA[k].text ++ ⟨#[32]⟩) = Lib.byteCells (spacedT (LA.take (k + 1))) := by
          rw [List.take_succ_eq_append_getElem hlt, spacedT_snoc, Lib.byteCells_append, Lib.strCells_eq]
          simp [ByteArray.data_append]
        have hsp1 : (LA[k].text ++ ⟨#[32]⟩ : ByteArray).size ≤ 8193 := by
          rw [ByteArray.size_append]; show LA[k].text.size + 1 ≤ 8193; omega
        have hbs := hb.size
        have HW := Lib.hid (fun (o : Obj) => (writeString W2.heap.size W2.heap.size (Lib.byteCells (spacedT (LA.take k))) (LA[k].text ++ ⟨#[32]⟩) (wr.alloc o) (isb_below hib (hbx o)) (by rw [Lib.byteCells_length]; omega) (Nat.le_trans hbs (hbx o).size)).mono
          (R' := fun e w' => (∃ v, e = .returned v) ∧ Lib.IsBuilder 30 5 W2.heap.size W2.heap.size (Lib.byteCells (spacedT (LA.take (k + 1)))) w' ∧ Below W2.heap.size W2 w') fun e w' ⟨he, h1, h2⟩ => ⟨⟨_, he⟩, hstep ▸ h1, (hb.trans (hbx o |>.mono hb.size)).trans h2⟩)
        have htz : (LA[k].text.size : Int) ≤ 8192 := by omega
        have htz0 : (LA[k].text.size : Int) + 1 ≤ 8193 := by omega
        clear hbx hln htl hsp1 hstep htk
        go_wp2_with fail
        refine (HW.out _).mono ?_
        rintro e W3 ⟨⟨v3, rfl⟩, hib3, hb3⟩
        go_wp2_with fail
        go_roundw
        case rel => exact ⟨k + 1, by omega, by go_num, hib3, hb3⟩
        case measure => simp [intOf]; omega
      · obtain rfl : k = LA.length := by omega
        rw [List.take_length] at hib
        obtain ⟨z, hz⟩ : ∃ z, (spacedT LA).length = z := ⟨_, rfl⟩
        have hln := spacedT_len LA htx
        have k1 : ¬ (LA.length : Int) < (LA.length : Int) := by omega
        have HN := Lib.hid (Tryd.Builder_Len W2.heap.size W2.heap.size _ wr hib)
        rw [Lib.byteCells_length, hz] at HN
        have HSt := Lib.hid (Tryd.Builder_String_any W2.heap.size W2.heap.size _ wr hib hb.size)
        by_cases hbig : 8192 < z
        · have z1 : (8192 : Int) < (z : Int) := by omega
          clear hz hln
          go_wp2_with fail
          with_reducible refine HN.out.mono ?_
          rintro e W3 ⟨rfl, rfl⟩
          go_wp2_with fail
          go_ret
          exact ⟨rfl, hbw2.trans (hb.mono hbw2.size)⟩
        · have z1 : ¬ (8192 : Int) < (z : Int) := by omega
          obtain ⟨J, hJ⟩ : ∃ J : ByteArray, (⟨(spacedT LA).toArray⟩ : ByteArray) = J := ⟨_, rfl⟩
          have hJd : J.data.toList = spacedT LA := by rw [← hJ]
          have hJz : J.size = z := by rw [Lib.size_eq, hJd, hz]
          rw [hJ] at HSt
          have hbw3 := hbw2.trans (hb.mono hbw2.size)
          have hJc := spaced_chk HOS.out (J := J) (hJd.trans HJ0.out) (by omega)
          obtain ⟨hJl, hJb⟩ := spaced_lex HLS.out (J := J) (hJd.trans HJ0.out)
          have hokJ := lexS_ok J (by omega)
          clear hz hln hJd hJ
          go_wp2_with fail
          with_reducible refine HN.out.mono ?_
          rintro e W3 ⟨rfl, rfl⟩
          go_wp2_with fail
          with_reducible refine HSt.out.mono ?_
          rintro e W4 ⟨rfl, hb4⟩
          have hbr4 : Below W2.heap.size W2 W4 := hb.trans hb4
          have hbw4 := hbw2.trans (hbr4.mono hbw2.size)
          have HSJ := Lib.hid (HS.out J W4 hbw4)
          go_wp2_with fail
          with_reducible refine HSJ.out.mono ?_
          rintro e W5 ⟨hb5, ⟨v1, v2, c1, hc1, rfl, hx⟩ | ⟨_, _, vb, rfl, hownb⟩⟩
          · exfalso
            rcases hx with h | h
            · exact h hJc
            · rw [hJb] at h; cases h
          have hct := core_tok hJl
          rw [HLA.out] at hct
          obtain ⟨LJ, hLJ⟩ : ∃ LJ, (lexS J).1.map Tk.tok = LJ := ⟨_, rfl⟩
          rw [hLJ] at hct hownb hokJ
          have hsJ := own_sl hownb hokJ
          have hbr5 : Below W2.heap.size W2 W5 := hbr4.trans (hb5.mono hbr4.size)
          have hsA5 := hsA.later hbr5
          have hbw5 := hbw4.trans (hb5.mono hbw4.size)
          have HE := Lib.hid (fun (X : World) (hk : Below W5.heap.size W5 X) => tokEqualFunc LA LJ _ _ _ _ X (hsA5.later hk) (hsJ.later hk) hct.1.symm hct.2)
          obtain ⟨AJ, cJ, rfl, _, _⟩ := own_form hownb
          clear hct hLJ hokJ hJl hJb hJc
          go_wp2_with fail
          with_reducible refine (HE.out _ (by repeat (first | assumption | exact Below.refl _ _ | refine Below.drewN ?_ _ | refine Below.drew ?_))).mono ?_
          rintro e W6 ⟨rfl, hb6⟩
          go_wp2_with fail
          go_ret
          exact ⟨rfl, hbw5.trans (hb6.mono hbw5.size)⟩

theorem laid : laidOutB Tryd.prog = true := by kernel_rfl

set_option maxRecDepth 100000 in
theorem lifted (os : Os) (started : os.Started) (H : Type) (enc : TypeId × Value → H) :
    ReturnsInHanded {} Tryd.checked os 3 .any (fun w args => (Rows.lexerSpacedSpec.pre enc Tryd.prog Tryd.f3 [] false w args ∧ laidMetH Tryd.prog Rows.lexerSpacedRow.laid w) ∧ sizedMet enc Tryd.prog Tryd.f3 (OpenSpec.ofChange Rows.lexerSpacedSpec) false w args)
      (Rows.lexerSpacedSpec.post enc Tryd.prog Tryd.f3 false true false false) := by
  refine handed_shaped (C := Tryd.checked) (X := fun w _ => laidMetH Tryd.prog Rows.lexerSpacedRow.laid w) own started (by kernel_rfl) Tryd.func3
    (ChangeSpec.witness_shaped (enc := enc) (C := Tryd.checked) (os := os) (X := fun w _ => laidMetH Tryd.prog Rows.lexerSpacedRow.laid w) false (World.laidAll Tryd.prog os Rows.lexerSpacedRow.laid) #[.string ⟨#[]⟩] 8 (World.laidAll_os _ _ _)
      (World.shaped_of_ZipB (by kernel_rfl) (by kernel_rfl)) (by kernel_rfl) (by kernel_rfl) (by kernel_rfl)
      (by rw [MakeChecks.laidMetH_plain _ _ _ (by kernel_rfl)]; exact laidMet_laidAll _ (by kernel_rfl) (by kernel_rfl))) ?_
  intro W base args ds gs before hval0 hW _ hsh
  obtain ⟨m, hm⟩ := Tryd.laysM144.s1_3 W hsh
  have hLim : Lim W W.heap.size m := ⟨hm, World.block_lt_of_cell? _ _ hm⟩
  have hval : ∀ (j : Nat) t v, Tryd.f3.params[j]? = some t → args[j]? = some v → Value.okWide Tryd.prog W .any base t v := hval0
  have hW' := hW
  obtain ⟨p, q, hA0, hV, hbef, hfz, hnd⟩ := hW
  have hA : DataW.TrodAll enc Tryd.prog W 0 (fun _ => true) true Tryd.f3.params.toList args.toList ds p := hA0
  rw [Tryd.params3] at hA hval
  obtain ⟨v0, vs0, d0, ds0, p0, q0, hargs, hds, rfl, h0, r0⟩ := trodAll_cons hA
  obtain ⟨rfl, rfl, rfl⟩ := trodAll_nil r0
  obtain rfl : args = #[v0] := by cases args; simp_all
  obtain ⟨rfl, _⟩ := trodVars_none hV
  subst hds
  obtain ⟨a0, rfl, rfl, rfl, s0⟩ := open_string Tryd.underlying9 (hval 0 9 v0 rfl rfl) h0
  refine (walk a0 W m hLim).mono fun e W' ⟨he, hb⟩ => ?_
  subst he
  exact ⟨_, rfl, law_post laid (by kernel_rfl) rfl Tryd.underlying4 rfl rfl rfl rfl hW' hb⟩

theorem over : Rows.lexerSpacedRow.holds Tryd.pinned (OpenSpec.ofChange Rows.lexerSpacedSpec) :=
  OpenClaim.holds_of_wide 3 Tryd.f3 rfl rfl rfl rfl rfl rfl rfl ⟨rfl, rfl, rfl, rfl, rfl⟩ rfl rfl rfl rfl rfl (by kernel_rfl) Tryd.func3 (by kernel_rfl)
    (of_decide_eq_true (by kernel_rfl)) (by unfold Func.isWrapper; first | (rw [if_pos (by decide +kernel)]; kernel_rfl) | (rw [if_neg (by decide +kernel)]; exact ⟨rfl, rfl⟩))
    (fun os started H enc _ => lifted os started H enc)

theorem proved : Rows.LexerSpacedCardSaid :=
  Claim7.holds_tied_plain_at .later [] [.data, .pinned] true Rows.lexerSpacedCard.stood.harness false over (fun _ h => by cases h) (by kernel_rfl) (fun _ h => by cases h) lexerSpaced_row_tie rfl ⟨rfl, rfl⟩ (by kernel_rfl) rfl
    (fun f fn hf hfn => by
      obtain rfl : f = 3 := Option.some.inj ((show Tryd.prog.funcNamed Tryd.f3.name = some 3 by kernel_rfl).symm.trans hf) |>.symm
      obtain rfl : fn = Tryd.f3 := (Option.some.inj (Tryd.func3.symm.trans hfn)).symm
      exact ⟨by kernel_rfl, fun j t ht => by
        rw [Tryd.params3] at ht
        have hm : t ∈ [9] := by simpa using Array.mem_of_getElem? ht
        have hall : ([9].all fun u => !Tryd.prog.wantsStandIn u) = true := by kernel_rfl
        exact (show Tryd.prog.wantsStandIn t = false by simpa using List.all_eq_true.1 hall t hm)⟩)
    (by kernel_rfl)
#print axioms proved
end Go.Proofs.YtdpkemihmhchcaaDoor.lexerSpaced

