/- KindsOnce: whatever the data types, the law answers true. The card ties the variable unify.sizes to the program's text. -/
import Derived.Test.YtjofndhbpglfgaaDoorKInf
import Derived.Test.YtjofndhbpglfgaaDoorWithin
import Derived.Test.YtjofndhbpglfgaaDoorHanded
import Derived.Lib.LaidTab
import Derived.LaidSub
namespace Go.Proofs.YtjofndhbpglfgaaDoor.kindsOnce
open Go.RowKit Go.Shelf Go.ChangeShapes Go.WideShapes Go.Proofs.YtjofndhbpglfgaaDoor

/-! ### The plain law -/
theorem runT_ran {datas : List DataSig} {first : List Nat} : ∀ (l : List Task) (s s' : St), Ran s.2 → runT datas first l s = some s' → Ran s'.2
  | [], s, s', h, e => by
    rw [runT] at e
    rw [← Option.some.inj e]; exact h
  | x :: r, s, s', h, e => by
    rw [runT] at e
    split at e
    · cases e
    · split at e
      · cases e
      · rename_i e1 s1 h1
        split at e
        · cases e
        · exact runT_ran r s1 s' (Ran.want _ _ _ _ _ _ h h1) e
theorem InfOK.ran {datas : List DataSig} {s : St} (h : InfOK datas s) : Ran s.2 := runT_ran _ (_, _) _ (ran0 _) h.2.2
theorem any_false_names {l : List DataSig} {k : List KindSig} {x : ByteArray} (h : k.map (·.name) = l.map (·.name)) (ha : l.any (fun y => y.name.toList == x.toList) = false) : k.any (named x) = false := by
  rw [List.any_eq_false]
  intro y hy he
  have h1 : y.name ∈ l.map (·.name) := by rw [← h]; exact List.mem_map_of_mem hy
  obtain ⟨z, hz, hzn⟩ := List.mem_map.1 h1
  have := List.any_eq_false.1 ha z hz
  apply this
  have hyx : y.name = x := by simpa [named] using he
  simp [hzn, hyx]
theorem kindsOf_names {datas : List DataSig} {fs : List Nat} {s : St} (h : fs.length = datas.length) : (kindsOf datas fs s).map (·.name) = datas.map (·.name) := by
  unfold kindsOf
  rw [List.map_map]
  have : (fun (k : KindSig) => k.name) ∘ kindSig s = (fun (d : DataSig) => d.name) ∘ Prod.fst := rfl
  rw [this, ← List.map_map, List.map_fst_zip (by omega)]
theorem chkK_kinds {datas : List DataSig} {s : St} (h : InfOK datas s) : chkK (kindsOf datas (firstsOf datas 3) s) = 0 := by
  have hl : (kindsOf datas (firstsOf datas 3) s).length = datas.length := kindsOf_length (by simp)
  have hn := kindsOf_names (s := s) (datas := datas) (fs := firstsOf datas 3) (by simp)
  obtain ⟨L, hL⟩ : ∃ L, kindsOf datas (firstsOf datas 3) s = L := ⟨_, rfl⟩
  have hr : ∀ k ∈ L, ∀ x ∈ k.params, 0 ≤ x ∧ x ≤ 2 := fun k hk x hx => by
    rw [← hL] at hk
    obtain ⟨z, hz, rfl⟩ := List.mem_map.1 hk
    exact kindRow_ran (InfOK.ran h) _ _ x hx
  rw [hL] at hl hn ⊢
  unfold chkK
  rw [if_neg (by have := h.1; omega)]
  suffices hs : ∀ m j, L.length - j = m → j ≤ L.length → chkKs (L.take j) (L.drop j) = 0 from by simpa using hs _ 0 rfl (Nat.zero_le _)
  intro m
  induction m with
  | zero =>
    intro j hj hjl
    rw [List.drop_eq_nil_of_le (by omega)]; rfl
  | succ m ih =>
    intro j hj hjl
    have hjl' : j < L.length := by omega
    have hjd : j < datas.length := by omega
    rw [chkKs_step L j hjl', if_neg, if_neg, ih (j + 1) (by omega) (by omega)]
    · rw [Bool.not_eq_true, List.any_eq_false]
      intro x hx
      have := hr _ (List.getElem_mem hjl') x hx
      simp [outK]; omega
    · rw [Bool.not_eq_true]
      have hnj : L[j].name = datas[j].name := by
        have h1 : (L.map (·.name))[j]? = (datas.map (·.name))[j]? := by rw [hn]
        simpa [hjl', hjd] using h1
      rw [hnj]
      exact any_false_names (l := datas.take j) (by rw [List.map_take, List.map_take, hn]) (h.2.1 j _ hjd (List.getElem?_eq_getElem hjd)).1
theorem kinds_find {d : DataSig} {r : List DataSig} (s : St) : ∃ k, (kindsOf (d :: r) (firstsOf (d :: r) 3) s).find? (named d.name) = some k := by
  refine ⟨kindSig s (d, 3), ?_⟩
  unfold kindsOf
  rw [firstsOf, List.zip_cons_cons, List.map_cons, List.find?_cons_of_pos (by simp [named, kindSig])]

/-! ### The walk -/
def nameT : ByteArray := ⟨#[84]⟩
theorem sl_lit {α : Type} {f : α → D} {W : World} {F : Nat → Prop} {x : α} {g : Nat} {t : TypeId} {cs : List Value} (hb : Blk W g t cs) (hg : F g) (hr : Rp W F (f x) cs) : Sl W F f [x] (.slice (some ⟨g, 0, none⟩) 1 1) := by
  unfold Sl
  simp only [Rp]
  exact ⟨_, 1, rfl, by simp, by unfold maxLen; omega, (fun h => nomatch h), fun _ => ⟨g, 0, _, rfl, hg, RpAll.one hr, fun j u hj => by rw [Nat.zero_add]; exact hb.cell hj⟩⟩
theorem first_call (W2 : World) (k g : Nat) (hk : Blk W2 k 29 [.string nameT, .slice none 0 0]) (hg : Blk W2 g 32 [.string nameT, .int .i64 0, .slice none 0 0]) :
    Calls Tryd.prog 12 #[.slice (some ⟨k, 0, none⟩) 1 1, .slice (some ⟨g, 0, none⟩) 1 1] W2 fun e w' => e = .returned (.tuple #[.slice none 0 0, .int .i64 7]) ∧ Below W2.heap.size W2 w' :=
  infer_twice [⟨nameT, []⟩] ⟨nameT, 0, []⟩ [] ⟨nameT, []⟩ _ _ W2
    (sl_lit hk hk.lt (KindSig.rp.2 ⟨_, rfl, by unfold maxLen; decide, Sl.nil_⟩))
    (sl_lit hg hg.lt (DataSig.rp.2 ⟨_, rfl, by unfold maxLen; decide, by decide, Sl.nil_⟩))
    (by decide) (by decide) (by rw [List.find?_cons_of_pos (by simp [named])])

set_option maxRecDepth 100000 in
set_option maxHeartbeats 8000000 in
theorem walk (datas : List DataSig) (dv : Value) (W : World) (hd : Sl W (· < W.heap.size) DataSig.d datas dv) (hz : Szs W) :
    Calls Tryd.prog 3 #[dv] W fun e W' => e = .returned (.bool true) ∧ Below W.heap.size W W' := by
  obtain ⟨DA, dc, rfl, hdl, hdm, _⟩ := hd.form
  have hlm : datas.length ≤ 9223372036854775807 := by unfold maxLen at hdm; omega
  obtain ⟨Z, hZ⟩ : ∃ Z, W.heap.size = Z := ⟨_, rfl⟩
  obtain ⟨W1, hW1⟩ : ∃ W1, W.alloc (.cells #[.string nameT, .slice none 0 0] 29) = W1 := ⟨_, rfl⟩
  obtain ⟨W2, hW2⟩ : ∃ W2, W1.alloc (.cells #[.string nameT, .int .i64 0, .slice none 0 0] 32) = W2 := ⟨_, rfl⟩
  have hz1 : W1.heap.size = Z + 1 := by rw [← hW1, ← hZ]; simp
  have hk1 : Blk W1 Z 29 [.string nameT, .slice none 0 0] := by rw [← hW1, ← hZ]; exact Blk.new W _ [_, _]
  have hk2 : Blk W2 Z 29 [.string nameT, .slice none 0 0] := by rw [← hW2]; exact hk1.alloc _
  have hg2 : Blk W2 (Z + 1) 32 [.string nameT, .int .i64 0, .slice none 0 0] := by rw [← hW2, ← hz1]; exact Blk.new W1 _ [_, _, _]
  have hb2 : Below Z W W2 := by rw [← hW2, ← hW1]; exact ((Below.refl Z W).alloc (by omega) _).alloc (by simp; omega) _
  have HC1 := Lib.hid (first_call W2 Z (Z + 1) hk2 hg2)
  have HD := Lib.hid hd
  have HSz := Lib.hid hz
  have HZ := Lib.hid hZ
  have HZ1 := Lib.hid hz1
  have HW1 := Lib.hid hW1
  have HW2 := Lib.hid hW2
  have HB2 := Lib.hid hb2
  have hZ0 : 0 < Z := by have := block_lt_of_cell hz.c0; dsimp at this; omega
  clear hd hz hZ hW1 hW2 hz1 hk1 hk2 hg2 hb2
  unfold nameT at HW1 HW2
  go_enter Tryd.func3, Tryd.ntmps3
  go_wp2_with fail
  rw [HW1.out, HW2.out, HZ.out]
  with_reducible refine HC1.out.mono ?_
  rintro e w3 ⟨rfl, hb3⟩
  have hb03 : Below Z W w3 := HB2.out.trans (hb3.mono (by have := HB2.out.size; have := HZ.out; omega))
  have HB3 := Lib.hid hb03
  have hd3 : Sl w3 (· < w3.heap.size) DataSig.d datas (.slice DA datas.length dc) := (HD.out.later (by rw [HZ.out]; exact hb03)).mono (fun b hb => Nat.lt_of_lt_of_le hb hb03.size)
  have HI := Lib.hid (infer_any datas _ w3 hd3 (HSz.out.below hb03 hZ0))
  have hzw3 : Z ≤ w3.heap.size := by have := hb03.size; have := HZ.out; omega
  have HD3 := Lib.hid hd3
  clear hb3 hb03 hd3
  go_wp2_with fail
  with_reducible refine HI.out.mono ?_
  rintro e w4 ⟨hb4, (⟨s, v, hok, rfl, hsl⟩ | ⟨_, r, hr, rfl⟩)⟩
  · have hL0 : (kindsOf datas (firstsOf datas 3) s).length = datas.length := kindsOf_length (by simp)
    have hchk := chkK_kinds hok
    have hfd : ∀ d r, datas = d :: r → ∃ k, (kindsOf datas (firstsOf datas 3) s).find? (named d.name) = some k := fun d r h => by subst h; exact kinds_find s
    obtain ⟨L, hL⟩ : ∃ L, kindsOf datas (firstsOf datas 3) s = L := ⟨_, rfl⟩
    rw [hL] at hsl hL0 hchk hfd
    obtain ⟨LA, lc, rfl, _⟩ := hsl.form
    rw [hL0] at hsl ⊢
    have HB4 := Lib.hid (HB3.out.trans (hb4.mono hzw3))
    have HD4 := Lib.hid ((HD3.out.later hb4).mono (fun b hb => Nat.lt_of_lt_of_le hb hb4.size))
    have HSl := Lib.hid hsl
    have HCk := Lib.hid hchk
    have hz4 := hb4.size
    have h4096 := hok.1
    clear hb4 hsl hchk hok hL
    match datas, hfd with
    | [], _ =>
      go_wp2_with fail
      go_ret
      exact ⟨rfl, by rw [HZ.out]; exact HB4.out⟩
    | d :: r, hfd =>
      obtain ⟨k, hk⟩ := hfd d r rfl
      have HTw := Lib.hid (infer_twice L d r k _ _ w4 HSl.out HD4.out HCk.out h4096 hk)
      have hn1 : ¬ ((d :: r).length : Int) = 0 := by simp; omega
      have hn2 : (((d :: r).length : Int) == 0) = false := by rw [beq_eq_false_iff_ne]; exact hn1
      obtain ⟨n, hn⟩ : ∃ n, (d :: r).length = n := ⟨_, rfl⟩
      rw [hn] at HTw hn1 hn2 HSl ⊢
      clear hfd hk hn
      go_wp2_with fail
      with_reducible refine HTw.out.mono ?_
      rintro e w5 ⟨rfl, hb5⟩
      have HB5 := Lib.hid (HB4.out.trans (hb5.mono (by omega)))
      have hkc := kcheck_any L _ _ w5 (HSl.out.later hb5)
      rw [HCk.out] at hkc
      have HKc := Lib.hid hkc
      have hz5 := hb5.size
      clear hb5 hkc
      go_wp2_with fail
      with_reducible refine HKc.out.mono ?_
      rintro e w6 ⟨rfl, hb6⟩
      have HB6 := Lib.hid (HB5.out.trans (hb6.mono (by omega)))
      clear hb6
      go_wp2_with fail
      go_ret
      exact ⟨rfl, by rw [HZ.out]; exact HB6.out⟩
  · have hrb : (r != 0) = true := by rw [bne_iff_ne]; exact hr
    have HB4 := Lib.hid (HB3.out.trans (hb4.mono hzw3))
    clear hb4 hr
    go_wp2_with fail
    go_ret
    exact ⟨rfl, by rw [HZ.out]; exact HB4.out⟩

theorem own : ownKnob Tryd.prog.godebug = none := by kernel_rfl
theorem gSizes : Tryd.prog.globalNamed "provenance/unify.sizes" = some 0 := by kernel_rfl
theorem szs_of_laid {W : World} (h : laidMetH Tryd.prog Rows.kindsOnceRow.laid W) : Szs W := by
  have h2 : laidMetH Tryd.prog [("provenance/unify.sizes", Lib.tabData .i64 [0, -1, 3, 1, 0, 2])] W := h
  rw [MakeChecks.laidMetH_plain _ _ _ (by kernel_rfl)] at h2
  have ht := Lib.tabIs_of_head gSizes (by kernel_rfl) Tryd.underlying112 Tryd.underlying3 (by kernel_rfl) (by kernel_rfl) h2
  unfold Lib.TabIs at ht
  exact ⟨by rw [World.var?_cell gSizes ht]; rfl, by rw [World.var?_cell gSizes ht]; rfl, by rw [World.var?_cell gSizes ht]; rfl, by rw [World.var?_cell gSizes ht]; rfl, by rw [World.var?_cell gSizes ht]; rfl, by rw [World.var?_cell gSizes ht]; rfl⟩

theorem laid : laidOutB Tryd.prog = true := by kernel_rfl

set_option maxRecDepth 100000 in
theorem lifted (os : Os) (started : os.Started) (H : Type) (enc : TypeId × Value → H) :
    ReturnsInHanded {} Tryd.checked os 3 .any (fun w args => (Rows.kindsOnceSpec.pre enc Tryd.prog Tryd.f3 [] false w args ∧ laidMetH Tryd.prog Rows.kindsOnceRow.laid w) ∧ sizedMet enc Tryd.prog Tryd.f3 (OpenSpec.ofChange Rows.kindsOnceSpec) false w args)
      (Rows.kindsOnceSpec.post enc Tryd.prog Tryd.f3 false true false false) := by
  refine handed_shaped_laid (C := Tryd.checked) (L := Rows.kindsOnceRow.laid) own started (by kernel_rfl) Tryd.func3
    (ChangeSpec.witness_shaped (enc := enc) (C := Tryd.checked) (os := os) (X := fun w _ => laidMetH Tryd.prog Rows.kindsOnceRow.laid w) false (World.laidAll Tryd.prog os Rows.kindsOnceRow.laid) #[.slice none 0 0] 8 (World.laidAll_os _ _ _)
      (World.shaped_of_ZipB (by kernel_rfl) (by kernel_rfl)) (by kernel_rfl) (by kernel_rfl) (by kernel_rfl)
      (by rw [MakeChecks.laidMetH_plain _ _ _ (by kernel_rfl)]; exact laidMet_laidAll _ (by kernel_rfl) (by kernel_rfl))) ?_
  intro W base args ds gs before hval0 hW hsz0 _ hlaid
  have hz := szs_of_laid hlaid
  have hval : ∀ (j : Nat) t v, Tryd.f3.params[j]? = some t → args[j]? = some v → Value.okWide Tryd.prog W .any base t v := hval0
  have hW' := hW
  obtain ⟨p, q, hA0, hV, hbef, hfz, hnd⟩ := hW
  have hA : DataW.TrodAll enc Tryd.prog W 0 (fun _ => true) true Tryd.f3.params.toList args.toList ds p := hA0
  rw [Tryd.params3] at hA hval
  obtain ⟨v0, vs0, d0, ds0, p0, q0, hargs, hds, rfl, h0, r0⟩ := trodAll_cons hA
  obtain ⟨rfl, rfl, rfl⟩ := trodAll_nil r0
  obtain rfl : args = #[v0] := by cases args; simp_all
  obtain ⟨rfl, _⟩ := trodVars_none hV
  subst hds
  obtain ⟨a0, s0⟩ := sl_of_arg (f := DataSig.d) (k := 3) Tryd.underlying22 (by kernel_rfl) (by decide) (fun _ _ _ h => DataSig.of_trod h) (hval 0 22 v0 rfl rfl) h0
  refine (walk a0 v0 W s0 hz).mono fun e W' ⟨he, hb⟩ => ?_
  subst he
  exact ⟨_, rfl, law_post laid (by kernel_rfl) rfl Tryd.underlying4 rfl rfl rfl rfl hW' hb⟩

theorem over : Rows.kindsOnceRow.holds Tryd.pinned (OpenSpec.ofChange Rows.kindsOnceSpec) :=
  OpenClaim.holds_of_wide 3 Tryd.f3 rfl rfl rfl rfl rfl rfl rfl ⟨rfl, rfl, rfl, rfl, rfl⟩ rfl rfl rfl rfl rfl (by kernel_rfl) Tryd.func3 (by kernel_rfl)
    (of_decide_eq_true (by kernel_rfl)) (by unfold Func.isWrapper; first | (rw [if_pos (by decide +kernel)]; kernel_rfl) | (rw [if_neg (by decide +kernel)]; exact ⟨rfl, rfl⟩))
    (fun os started H enc _ => lifted os started H enc)

theorem proved : Rows.KindsOnceCardSaid :=
  Claim7.holds_tied_plain_at .later [] [.data] true Rows.kindsOnceCard.stood.harness false over (fun _ h => by cases h) (by kernel_rfl) (fun _ h => by cases h) kindsOnce_row_tie rfl ⟨rfl, rfl⟩ (by kernel_rfl) rfl
    (fun f fn hf hfn => by
      obtain rfl : f = 3 := Option.some.inj ((show Tryd.prog.funcNamed Tryd.f3.name = some 3 by kernel_rfl).symm.trans hf) |>.symm
      obtain rfl : fn = Tryd.f3 := (Option.some.inj (Tryd.func3.symm.trans hfn)).symm
      exact ⟨by kernel_rfl, fun j t ht => by
        rw [Tryd.params3] at ht
        have hm : t ∈ [22] := by simpa using Array.mem_of_getElem? ht
        have hall : ([22].all fun u => !Tryd.prog.wantsStandIn u) = true := by kernel_rfl
        exact (show Tryd.prog.wantsStandIn t = false by simpa using List.all_eq_true.1 hall t hm)⟩)
    (by kernel_rfl)
#print axioms proved
end Go.Proofs.YtjofndhbpglfgaaDoor.kindsOnce

