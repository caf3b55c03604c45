/- modules.walk: what it answers. -/
import Derived.Test.YtldflgianmmaeaaReach
import Derived.Deep.RegionHeld3
import Derived.Deep.QuietTactic
import Derived.BigQuiet
import Derived.Laws.Cover1
namespace Go.Proofs.Ytldflgianmmaeaa
open Go.RowKit Go.Shelf Go.Sort

set_option maxHeartbeats 1000000 in
theorem strsClone (l : List Bt) (v : Value) (F : Nat → Prop) (w : World) (hv : Sl w F dStr l v) (hlen : l.length * 16 ≤ 140737488355328) :
    Calls Try.prog 20 #[v] w fun e w' => ∃ u, e = .returned u ∧ w'.ownsRow w.heap.size 9 1 u l.length (l.map Value.string) ∧ Below w.heap.size w w' := by
  obtain ⟨i0, hi0, hz0, hz1, hz2⟩ := info_parts infoStr
  obtain ⟨A, c, rfl, hlc, hcm, hcn⟩ := hv.form
  have hl : l.length ≤ 9223372036854775807 := by unfold maxLen at hcm; omega
  rcases A with _ | ad
  · have hc0 := hcn rfl
    have hl0 : l.length = 0 := by omega
    have hl1 := List.eq_nil_of_length_eq_zero hl0
    subst hl1
    subst hc0
    have hn := fun (W : World) => Lib.run_eql_slice_nil (P := Try.prog) W 22 9 none 0 0 0 0 Try.underlying22
    go_enter Try.func20, Try.ntmps20
    go_wp2
    go_ret
    exact ⟨_, rfl, World.ownsRow_nil _ _ _ _, Below.refl _ _⟩
  · have hn := fun (W : World) => Lib.run_eql_slice_nil (P := Try.prog) W 22 9 (some ad) l.length c 0 0 Try.underlying22
    have hown := World.ownsRow_lit (base := w.heap.size) (e := 9) (size := 1) w #[] 0 (Nat.le_refl _) (by unfold maxLen; omega) (by simp)
    have hb0 : Below w.heap.size w (w.alloc (.cells #[] 9)) := (Below.refl _ _).alloc (Nat.le_refl _) _
    have hv0 := hv.later hb0
    go_enter Try.func20, Try.ntmps20
    go_wp2_with (at_builtin; refine wpList_append_sl _ rfl _ _ 22 rfl w.heap.size 9 i0 _ 1 16 Try.underlying22 hi0 hz0 hz1 hz2 rfl (by omega) _ 0 [] rfl hown dStr dStr.wide F l _ _ _ rfl hv0 (by unfold maxLen; omega) (by omega) (by simp) ?_; intro v' w1 news hnews hown1 hgrow hat)
    go_ret
    simp only [Nat.zero_add, List.nil_append] at hown1
    refine ⟨v', rfl, by rw [← strs_news _ _ hnews]; exact hown1, hb0.grown hgrow (by simp) fun k hk => ?_⟩
    have h2 : some w.heap.size = some k := hk
    injection h2 with h2
    omega

/-- What walk's answer is. -/
def Walked (r : Option (List Bt)) (W : World) (e : Ending) (w' : World) : Prop :=
  Below W.heap.size W w' ∧ ((r = none ∧ e = .returned (.slice none 0 0)) ∨ ∃ c ad cap, r = some c ∧ e = .returned (.slice (some ad) c.length cap) ∧ Sl w' (· < w'.heap.size) dStr c (.slice (some ad) c.length cap))

theorem lastB_get {way : List Bt} {n : Nat} (h : way.length = n + 1) : lastB way = way[n]'(by omega) := by
  have h1 : way.getLast? = way[n]? := by rw [List.getLast?_eq_getElem?]; congr 1; omega
  unfold lastB
  rw [List.getLastD_eq_getLast?, h1, List.getElem?_eq_getElem (by omega)]
  rfl
theorem headB_get {way : List Bt} {n : Nat} (h : way.length = n + 1) : headB way = way[0]'(by omega) := by
  cases way with
  | nil => simp at h
  | cons a l => rfl

theorem leS_run (a b : Bt) : (Op.bytesLess a.toList b.toList || a.toList == b.toList) = leS a b := by
  rw [bytesLess_eq, ByteArray.toList_eq, ByteArray.toList_eq]
  unfold leS
  rw [Bool.eq_iff_iff, Bool.or_eq_true, decide_eq_true_eq, decide_eq_true_eq, beq_iff_eq]
  constructor
  · rintro (h | h)
    · exact List.le_of_lt h
    · rw [h]; exact List.le_refl _
  · intro h
    by_cases e : a.data.toList = b.data.toList
    · exact .inr e
    · exact .inl (lt_of_le_ne h e)

/-- walk's contract at so many further steps. -/
def WalkAt (N : List Bt) (I : List (List Bt)) (nv iv : Value) (d : Nat) : Prop := ∀ (way : List Bt) (wv : Value) (sz : Nat) (w : World),
    Sl w (· < w.heap.size) dStr N nv → Sl w (· < w.heap.size) dStrs I iv → Sl w (· < w.heap.size) dStr way wv → way ≠ [] → (∀ m ∈ way, m ∈ N) → way.length + d = sz → sz ≤ 16 →
    Calls Try.prog 13 #[nv, iv, wv, .int .i64 sz] w (Walked (walkP N I d way) w)

set_option maxRecDepth 100000 in
set_option maxHeartbeats 4000000 in
theorem walk_step (N : List Bt) (I : List (List Bt)) (nv iv : Value) (hok : Okm N I) (hT : total I ≤ 1048576) (d : Nat) (ih : ∀ d', d = d' + 1 → WalkAt N I nv iv d') : WalkAt N I nv iv d := by
  intro way wv sz w hN hI hw hne hin hsz h16
  obtain ⟨i0, hi0, hz0, hz1, hz2⟩ := info_parts infoStr
  obtain ⟨n, hn⟩ : ∃ n, way.length = n + 1 := ⟨way.length - 1, by have := List.length_pos_iff.2 hne; omega⟩
  obtain ⟨A, c, rfl, hlc, hcm, _⟩ := hN.form
  obtain ⟨B, c', rfl, hmc, hcm', _⟩ := hI.form
  obtain ⟨C, c2, rfl, _, hcm2, _⟩ := hw.form
  have hlast : lastB way ∈ N := by rw [lastB_get hn]; exact hin _ (List.getElem_mem _)
  obtain ⟨g, off, rfl, hgl, d0, d9⟩ := dStr.get hw (show n < way.length by omega)
  obtain ⟨_, _, hgg, _, d1, d8⟩ := dStr.get hw (show 0 < way.length by omega)
  simp only [Option.some.injEq, Addr.mk.injEq, and_true] at hgg
  obtain ⟨rfl, rfl⟩ := hgg
  clear d9 d8
  rw [← lastB_get hn] at d0
  rw [← headB_get hn, Nat.add_zero] at d1
  obtain ⟨i, hi, e1, e2⟩ := hok.imp_at hlast
  have HIx := Lib.hid (strIndex N (lastB way) _ _ w hN)
  rw [e1] at HIx
  obtain ⟨g2, off2, lv, rfl, _, c3, hlv⟩ := dStrs.get hI hi
  obtain ⟨D0, c4, rfl, _⟩ := hlv.form
  have hle := hok.one_le hlast
  rw [e2] at hle
  have HVa := Lib.hid (values_any D0 I[i].length c4 w)
  have hba : Below w.heap.size w (w.alloc (.cells #[.slice D0 I[i].length c4] 22)) := Below.alloc (Below.refl _ _) (Nat.le_refl _) _
  have HSo := Lib.hid (sorted_any I[i] (.slice D0 I[i].length c4) w.heap.size (w.alloc (.cells #[.slice D0 I[i].length c4] 22)) (by
    have := (Blk.new w 22 [.slice D0 I[i].length c4]).cell (i := 0) rfl
    exact this) ((hlv.below (fun _ h => h) hba).mono (fun b hb => by simp; omega)) (by omega))
  have HE2 := Lib.hid e2
  obtain ⟨l, hl0⟩ : ∃ l, I[i] = l := ⟨_, rfl⟩
  rw [hl0] at hlv c3 HVa HSo HE2 hle hba
  have hmx : ∀ y ∈ l, y ∈ N := fun y hy => hok.sub l (by rw [← hl0]; exact List.getElem_mem _) y hy
  have hNs := hN.sizes
  rw [hn] at hsz hw
  have z2 : (0 : Int) ≤ (n : Int) := by omega
  have z3 : (n : Int) + 1 - 1 = (n : Int) := by omega
  have z4 : (n : Int) ≤ 16 := by omega
  have g4 : IntKind.i64.wrap (n : Int) = (n : Int) := by simp [IntKind.wrap, IntKind.signed, IntKind.bits]; omega
  have g5 : IntKind.i64.wrap ((n : Int) + 1 - 1) = (n : Int) := by rw [show (n : Int) + 1 - 1 = (n : Int) by omega]; exact g4
  have g6 : (n : Int) < (n : Int) + 1 := by omega
  have g7 : ((n : Int) + 1 - 1).toNat = n := by omega
  have i1 : (0 : Int) ≤ (i : Int) := by omega
  have i2 : (i : Int) < (I.length : Int) := by omega
  have HN1 := Lib.hid hn
  have HSZ := Lib.hid hsz
  clear e1 e2 hl0 hne hsz
  rw [hn]
  clear hn
  go_enter Try.func13, Try.ntmps13
  go_wp2_with fail
  with_reducible refine HIx.out.mono ?_
  rintro e w1 ⟨rfl, rfl⟩
  go_wp2_with fail
  with_reducible refine HVa.out.mono ?_
  rintro e w1 ⟨rfl, rfl⟩
  go_wp2_with fail
  with_reducible refine HSo.out.mono ?_
  rintro e w1 ⟨u, rfl, hown, hb1⟩
  have hbw1 : Below w.heap.size w w1 := hba.trans (hb1.mono hba.size)
  rw [← sortB_length l] at hown
  have hsrt : ∀ y ∈ sortB l, y ∈ N := fun y hy => hmx y (mem_sortB.1 hy)
  have hsl1 := sl_lt (own_strs hown (fun y hy => hNs y (hsrt y hy)))
  obtain ⟨L, hL⟩ : ∃ L, sortB l = L := ⟨_, rfl⟩
  have hLl : L.length ≤ 1048576 := by rw [← hL, sortB_length]; omega
  rw [hL] at hsl1 hsrt
  have HL := Lib.hid (show sortB (impOf N I (lastB way)) = L by rw [HE2.out]; exact hL)
  clear hL hown hle HE2
  obtain ⟨A3, c5, rfl, _⟩ := hsl1.form
  have hN1 := (hN.below (fun _ h => h) hbw1).mono (fun b hb => Nat.lt_of_lt_of_le hb hbw1.size)
  have hI1 := (hI.below (fun _ h => h) hbw1).mono (fun b hb => Nat.lt_of_lt_of_le hb hbw1.size)
  have d1' : w1.cell? ⟨g, off, none⟩ = some (.string (headB way)) := (hbw1.cell (p := ⟨g, off, none⟩) hgl).trans d1
  have d0' : w1.cell? ⟨g, off + n, none⟩ = some (.string (lastB way)) := (hbw1.cell (p := ⟨g, off + n, none⟩) hgl).trans d0
  have hw1 := (hw.below (fun _ h => h) hbw1).mono (fun b hb => Nat.lt_of_lt_of_le hb hbw1.size)
  cases d with
  | zero =>
    have z1 : ((n : Int) + 1 == (sz : Int)) = true := by have := HSZ.out; rw [beq_iff_eq]; omega
    have hr : walkP N I 0 way = if isIn L (headB way) then some way else none := by rw [walkP, HL.out]
    have HCo := Lib.hid (strContains L (headB way) _ _ w1 hsl1)
    cases hq : isIn L (headB way)
    · have HR := Lib.hid (hr.trans (by rw [hq, if_neg (by decide)]))
      unfold isIn at hq
      rw [hq] at HCo
      clear hq hr
      go_wp2_with fail
      with_reducible refine HCo.out.mono ?_
      rintro e w2 ⟨rfl, rfl⟩
      go_wp2_with fail
      go_ret
      exact ⟨hbw1, .inl ⟨HR.out, rfl⟩⟩
    · have HR := Lib.hid (hr.trans (by rw [hq, if_pos rfl]))
      unfold isIn at hq
      rw [hq] at HCo
      clear hq hr
      go_wp2_with fail
      with_reducible refine HCo.out.mono ?_
      rintro e w2 ⟨rfl, rfl⟩
      go_wp2_with fail
      go_ret
      refine ⟨hbw1, .inr ⟨way, ⟨g, off, none⟩, c2, HR.out, ?_, by rw [HN1.out]; exact hw1⟩⟩
      rw [HN1.out]; rfl
  | succ d =>
    have z1 : ((n : Int) + 1 == (sz : Int)) = false := by have := HSZ.out; rw [beq_eq_false_iff_ne]; omega
    have IH := Lib.hid (ih d rfl)
    clear ih
    obtain ⟨k, hk⟩ : ∃ k, d + 1 + 1 = k := ⟨_, rfl⟩
    have z5 : (sz : Int) - ((n : Int) + 1) + 1 = (k : Int) := by have := HSZ.out; omega
    have z6 : (sz : Int) - ((n : Int) + 1) = (k : Int) - 1 := by omega
    have z7 : (1 : Int) ≤ (k : Int) := by omega
    have z8 : (k : Int) ≤ 17 := by have := HSZ.out; omega
    have z9 : (k : Int) - 1 + 1 = (k : Int) := by omega
    have k1 : IntKind.i64.wrap ((k : Int) - 1) = (k : Int) - 1 := by simp [IntKind.wrap, IntKind.signed, IntKind.bits]; omega
    have k2 : IntKind.i64.wrap (k : Int) = (k : Int) := by simp [IntKind.wrap, IntKind.signed, IntKind.bits]; omega
    have hr : walkP N I (d + 1) way = if reachB N I (headB way) (d + 2) [lastB way] then tryN (walkP N I d) way L else none := by rw [walkP, HL.out]
    rw [show d + 2 = k from hk] at hr
    have HRe := Lib.hid (fun (X : World) (hkp : Keeps (fun _ => False) w1 X) => (reaches_any N I _ _ (lastB way) (headB way) k X ((hN1.keeps hkp (fun _ _ h => h)).mono (fun b hb => Nat.lt_of_lt_of_le hb hkp.size)) ((hI1.keeps hkp (fun _ _ h => h)).mono (fun b hb => Nat.lt_of_lt_of_le hb hkp.size)) hok hlast hT (by omega)).mono
      (R' := fun e w' => e = .returned (.bool (reachB N I (headB way) k [lastB way])) ∧ Keeps (fun _ => False) w1 w') fun e w' ⟨he, hb⟩ => ⟨he, hkp.trans (Keeps.of_below (X := fun _ => False) hb) (fun _ _ h => h)⟩)
    have hS := Lib.hid (fun (W : World) (hk : Keeps (fun _ => False) w1 W) => (⟨hk.cell d1' (fun h => h), hk.cell d0' (fun h => h)⟩ : W.cell? ⟨g, off, none⟩ = some (.string (headB way)) ∧ W.cell? ⟨g, off + n, none⟩ = some (.string (lastB way))))
    cases hq : reachB N I (headB way) k [lastB way]
    · have HR := Lib.hid (hr.trans (by rw [hq, if_neg (by decide)]))
      rw [hq] at HRe
      clear hq hr hk
      go_wp2_with fail
      go_region_held3 (fun W => W.cell? ⟨g, off, none⟩ = some (.string (headB way)) ∧ W.cell? ⟨g, off + n, none⟩ = some (.string (lastB way)))
        (first | exact ⟨d1', d0'⟩ | exact hS.out _ (by repeat (first | assumption | exact Keeps.refl _ _ | refine Keeps.drewN ?_ _ | refine Keeps.drew ?_)))
        ((go_at_call 19; with_reducible refine (HRe.out _ (by repeat (first | assumption | exact Keeps.refl _ _ | refine Keeps.drewN ?_ _ | refine Keeps.drew ?_))).mono ?_; rintro e w2 ⟨rfl, hk2⟩))
      go_wp2_with fail
      go_ret
      exact ⟨hbw1.trans (hk2.below (fun _ h => h.elim) hbw1.size), .inl ⟨HR.out, rfl⟩⟩
    · have HR := Lib.hid (hr.trans (by rw [hq, if_pos rfl]))
      rw [hq] at HRe
      clear hq hr hk
      have hLn : L.length ≤ 9223372036854775807 := by omega
      go_wp2_with fail
      go_region_held3 (fun W => W.cell? ⟨g, off, none⟩ = some (.string (headB way)) ∧ W.cell? ⟨g, off + n, none⟩ = some (.string (lastB way)))
        (first | exact ⟨d1', d0'⟩ | exact hS.out _ (by repeat (first | assumption | exact Keeps.refl _ _ | refine Keeps.drewN ?_ _ | refine Keeps.drew ?_)))
        ((go_at_call 19; with_reducible refine (HRe.out _ (by repeat (first | assumption | exact Keeps.refl _ _ | refine Keeps.drewN ?_ _ | refine Keeps.drew ?_))).mono ?_; rintro e w2 ⟨rfl, hk2⟩))
      go_wp2_with fail
      go_loopw [56] (fun i wr => ∃ q : Nat, q ≤ L.length ∧ i = .int .i64 q ∧ Keeps (fun _ => False) w1 wr ∧ Hid (walkP N I (d + 1) way = tryN (walkP N I d) way (L.drop q))) (fun i _ => L.length - (intOf i).toNat)
      case atStart => exact ⟨0, Nat.zero_le _, rfl, hk2, HR.out⟩
      case round =>
        obtain ⟨q, hql, rfl, hk, hno⟩ := hrel
        by_cases hlt : q < L.length
        · obtain ⟨g5, off5, rfl, _, e0, e9⟩ := dStr.get (hsl1.keeps hk (fun _ _ h => h)) hlt
          have dr1 := hk.cell d1' (fun h => h)
          have hst : tryN (walkP N I d) way (L.drop q) = if leS L[q] (headB way) || isIn way L[q] then tryN (walkP N I d) way (L.drop (q + 1)) else (walkP N I d (way ++ [L[q]])).or (tryN (walkP N I d) way (L.drop (q + 1))) := by
            rw [List.drop_eq_getElem_cons hlt, tryN]
          have hmN := hsrt _ (List.getElem_mem hlt)
          have HCo := Lib.hid (strContains way L[q] _ _ wr (hw1.keeps hk (fun _ _ h => h)))
          obtain ⟨m, hm⟩ : ∃ m, L[q] = m := ⟨_, rfl⟩
          rw [hm] at e0 hst hmN HCo e9
          have q0 : (0 : Int) ≤ (q : Int) := by omega
          have q1 : (q : Int) < (L.length : Int) := by omega
          have q3 : (0 : Int) < (n : Int) + 1 := by omega
          clear hm
          have hrun := leS_run m (headB way)
          cases hq1 : leS m (headB way)
          · rw [hq1] at hrun hst
            rw [Bool.false_or] at hst
            cases hq2 : isIn way m
            · rw [hq2, if_neg (by decide)] at hst
              have hq2' := hq2
              unfold isIn at hq2
              rw [hq2] at HCo
              have HST := Lib.hid (hno.out.trans hst)
              have hwr := hw1.keeps hk (fun _ _ h => h)
              have HCl := Lib.hid (strsClone way _ _ wr hwr (by rw [HN1.out]; omega))
              rw [HN1.out] at HCl
              clear hq1 hq2 hst hno hq2'
              go_wp2_with fail
              with_reducible refine HCo.out.mono ?_
              rintro e w3 ⟨rfl, rfl⟩
              go_wp2_with fail
              with_reducible refine HCl.out.mono ?_
              rintro e w3 ⟨u, rfl, hown, hb3⟩
              have hn1 := fun (W : World) => run_neq_slice_nil_any (P := Try.prog) W 22 9 none 0 0 0 0 Try.underlying22
              have hn2 := fun (W : World) (ad : Addr) (a b : Nat) => run_neq_slice_nil_any (P := Try.prog) W 22 9 (some ad) a b 0 0 Try.underlying22
              go_wp2_with (at_builtin; refine wpList_append_lies _ rfl _ _ 22 rfl wr.heap.size 9 i0 _ 1 16 Try.underlying22 hi0 hz0 hz1 hz2 rfl (by omega) u (n + 1) _ rfl (World.ownsRow.alloc hown _) ⟨w3.heap.size, 0, none⟩ 1 1 [.string m] rfl rfl (World.news_of_block (cs := #[.string m]) (t := 9) (fr := (0, 0)) (heap_alloc_new _ _)) (by simp [Value.oneCell']) (by omega) (by unfold maxLen; omega) (by omega) (by have := hb3.size; simp; omega) (w3.heap.size + 1) (by simp) ?_; intro gg cap w4 hown4 hgrow hat hlt4)
              have hb4 : Below wr.heap.size wr w4 := (Below.alloc hb3 hb3.size _).grown hgrow (by have := hb3.size; simp; omega) (fun b hb => (hown.lt b hb).1)
              have hk4 : Keeps (fun _ => False) w1 w4 := hk.trans (Keeps.of_below (X := fun _ => False) hb4) (fun _ _ h => h)
              have hlen : (way ++ [m]).length = n + 1 + 1 := by rw [List.length_append, HN1.out]; rfl
              have hs4 : Sl w4 (fun b => wr.heap.size ≤ b) dStr (way ++ [m]) (.slice (some ⟨gg, 0, none⟩) (n + 1 + 1) cap) := own_strs (by rw [hlen, List.map_append]; exact hown4) (fun y hy => by
                rcases List.mem_append.1 hy with hy | hy
                · exact hNs y (hin y hy)
                · rw [List.mem_singleton.1 hy]; exact e9)
              have HI := Lib.hid (IH.out (way ++ [m]) _ sz w4 ((hN1.keeps hk4 (fun _ _ h => h)).mono (fun b hb => Nat.lt_of_lt_of_le hb hk4.size)) ((hI1.keeps hk4 (fun _ _ h => h)).mono (fun b hb => Nat.lt_of_lt_of_le hb hk4.size)) (sl_lt hs4) (by simp) (fun y hy => by
                rcases List.mem_append.1 hy with hy | hy
                · exact hin y hy
                · rw [List.mem_singleton.1 hy]; exact hmN) (by rw [hlen]; have := HSZ.out; omega) h16)
              clear hs4 hlen
              go_wp2_with fail
              with_reducible refine HI.out.mono ?_
              rintro e w5 ⟨hb5, ⟨hr5, rfl⟩ | ⟨c6, ad, cap6, hr5, rfl, hs5⟩⟩
              · have HST2 := Lib.hid (HST.out.trans (by rw [hr5, Option.none_or]))
                have hk5 : Keeps (fun _ => False) w1 w5 := hk4.trans (Keeps.of_below (X := fun _ => False) hb5) (fun _ _ h => h)
                clear hr5
                go_wp2_with fail
                go_roundw
                case rel => exact ⟨q + 1, by omega, by go_num, hk5, HST2.out⟩
                case measure => simp [intOf]; omega
              · have HST2 := Lib.hid (HST.out.trans (by rw [hr5, Option.some_or]))
                have hk5 : Keeps (fun _ => False) w1 w5 := hk4.trans (Keeps.of_below (X := fun _ => False) hb5) (fun _ _ h => h)
                clear hr5
                go_wp2_with fail
                go_ret
                exact ⟨hbw1.trans (hk5.below (fun _ h => h.elim) hbw1.size), .inr ⟨c6, ad, cap6, HST2.out, rfl, hs5⟩⟩
            · rw [hq2, if_pos rfl] at hst
              unfold isIn at hq2
              rw [hq2] at HCo
              have HST := Lib.hid (hno.out.trans hst)
              clear hq1 hq2 hst hno
              go_wp2_with fail
              with_reducible refine HCo.out.mono ?_
              rintro e w3 ⟨rfl, rfl⟩
              go_wp2_with fail
              go_roundw
              case rel => exact ⟨q + 1, by omega, by go_num, hk, HST.out⟩
              case measure => simp [intOf]; omega
          · rw [hq1] at hrun hst
            rw [Bool.true_or, if_pos rfl] at hst
            have HST := Lib.hid (hno.out.trans hst)
            clear hq1 hst hno
            go_wp2_with fail
            go_roundw
            case rel => exact ⟨q + 1, by omega, by go_num, hk, HST.out⟩
            case measure => simp [intOf]; omega
        · obtain rfl : q = L.length := by omega
          have q1 : ¬ (L.length : Int) < (L.length : Int) := by omega
          have HE := Lib.hid (hno.out.trans (by rw [List.drop_length]; first | done | rfl))
          go_wp2_with fail
          go_ret
          exact ⟨hbw1.trans (hk.below (fun _ h => h.elim) hbw1.size), .inl ⟨HE.out, rfl⟩⟩

theorem walk_any (N : List Bt) (I : List (List Bt)) (nv iv : Value) (hok : Okm N I) (hT : total I ≤ 1048576) : ∀ d, WalkAt N I nv iv d
  | 0 => walk_step N I nv iv hok hT 0 (fun d' h => absurd h (by omega))
  | d + 1 => walk_step N I nv iv hok hT (d + 1) (fun d' h => by
    obtain rfl : d = d' := by omega
    exact walk_any N I nv iv hok hT d)
end Go.Proofs.Ytldflgianmmaeaa
