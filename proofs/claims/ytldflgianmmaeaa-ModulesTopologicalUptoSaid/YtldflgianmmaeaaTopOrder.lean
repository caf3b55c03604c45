/- modules.Order: the walk. -/
import Derived.Test.YtldflgianmmaeaaTop
import Derived.Test.YtldflgianmmaeaaReach
import Derived.Test.YtldflgianmmaeaaStepKept
namespace Go.Proofs.Ytldflgianmmaeaa
open Go.RowKit Go.Shelf

theorem infoStrO : (Try.prog.info? 9).map (fun i => (i.zero, i.size, i.bytes)) = some (some (.string ⟨#[]⟩), 1, 16) := by kernel_rfl
theorem infoIntO : (Try.prog.info? 3).map (fun i => (i.zero, i.size, i.bytes)) = some (some (.int .i64 0), 1, 8) := by kernel_rfl

theorem own_apart {w : World} {base base' : Nat} {e e' : TypeId} {size size' : Nat} {v v' : Value} {n n' : Nat} {xs xs' : List Value} (h : w.ownsRow base e size v n xs) (h' : w.ownsRow base' e' size' v' n' xs') (hne : e ≠ e') :
    ∀ i, v.ownBlock = some i → ¬ v'.ownBlock = some i := by
  intro i hi hj
  rcases h.2 with ⟨rfl, _⟩ | ⟨g, cap, cur, rfl, _, hh, _⟩
  · simp [Value.ownBlock] at hi
  · rcases h'.2 with ⟨rfl, _⟩ | ⟨g', cap', cur', rfl, _, hh', _⟩
    · simp [Value.ownBlock] at hj
    · have e1 : g = i := by simpa [Value.ownBlock] using hi
      have e2 : g' = i := by simpa [Value.ownBlock] using hj
      subst e1; subst e2
      rw [hh] at hh'
      injection hh' with hh'
      injection hh' with _ he
      exact hne he

set_option maxHeartbeats 400000 in
theorem cloO (W : World) (b : Nat) (v : Value) (out : List ByteArray) (F : Nat → Prop) (hb : Blk W b 22 [v]) (hs : Sl W F dStr out v) (x : ByteArray) :
    Calls Try.prog 15 (#[.string x] ++ #[.pointer (some ⟨b, 0, none⟩)]) W fun e w' => e = .returned (.bool (!(isIn out x))) ∧ W = w' := by
  have c0 := hb.cell (i := 0) rfl
  have HC := Lib.hid (strContains out x v F W hs)
  change Calls Try.prog 15 #[.string x, .pointer (some ⟨b, 0, none⟩)] W _
  obtain ⟨A, c, rfl, _⟩ := hs.form
  clear hs hb
  go_enter Try.func15, Try.ntmps15
  go_wp2_with fail
  with_reducible refine HC.out.mono ?_
  rintro e w1 ⟨rfl, rfl⟩
  go_wp2_with fail
  go_ret
  exact ⟨rfl, rfl⟩

/-- A module that may come next. -/
def Ready (N : List Bt) (I : List (List Bt)) (done : List Bt) (i : Nat) : Prop := i < N.length ∧ nm N i ∉ done ∧ ∀ m ∈ I.getD i [], m ∈ done
/-- The best of the first k. -/
def Best (N : List Bt) (I : List (List Bt)) (done : List Bt) (k : Nat) (bs : Int) : Prop := (bs = -1 ∧ ∀ i, i < k → ¬ Ready N I done i) ∨ ∃ j : Nat, bs = (j : Int) ∧ Ready N I done j
theorem Best.skip {N : List Bt} {I : List (List Bt)} {done : List Bt} {k : Nat} {bs : Int} (h : Best N I done k bs) (hn : ¬ Ready N I done k) : Best N I done (k + 1) bs := by
  rcases h with ⟨h1, h2⟩ | h
  · refine .inl ⟨h1, fun i hi => ?_⟩
    rcases Nat.lt_or_ge i k with h | h
    · exact h2 i h
    · obtain rfl : i = k := by omega
      exact hn
  · exact .inr h

structure OSt (N : List Bt) (w W : World) (b : Nat) (dv ov : Value) (out : List Nat) : Prop where
  blk : Blk W b 22 [dv]
  dn : W.ownsRow (b + 1) 9 1 dv out.length ((nms N out).map Value.string)
  ints : W.ownsRow (b + 1) 3 1 ov out.length (out.map fun i : Nat => Value.int .i64 (i : Int))
  low : w.heap.size ≤ b
  later : Below w.heap.size w W
theorem OSt.out {N : List Bt} {w W : World} {b : Nat} {dv ov : Value} {out : List Nat} (h : OSt N w W b dv ov out) (hs : ∀ y ∈ nms N out, y.size ≤ maxLen) : Out w W b dv (nms N out) :=
  ⟨h.blk, by simpa [nms] using h.dn, hs, h.low, h.later⟩

/-- A module more. -/
theorem OSt.push {N : List Bt} {w W W1 : World} {b : Nat} {dv ov dv' ov' : Value} {out : List Nat} {i : Nat} {y : Bt} (h : OSt N w W b dv ov out) (hy : nm N i = y) (hk : Keeps (fun i => b + 1 ≤ i) W W1)
    (h1 : W1.ownsRow (b + 1) 3 1 ov' (out.length + 1) ((out.map fun i : Nat => Value.int .i64 (i : Int)) ++ [.int .i64 (i : Int)])) (h2 : W1.ownsRow (b + 1) 9 1 dv' (out.length + 1) ((nms N out).map Value.string ++ [.string y])) {u : Value} (hu : u = dv') :
    OSt N w (W1.setCell ⟨b, 0, none⟩ u) b dv' ov' (out ++ [i]) := by
  subst hu
  have k2 : Keeps (fun j => j = b) W1 (W1.setCell ⟨b, 0, none⟩ u) := (Keeps.refl (fun j => j = b) W1).setCell (p := ⟨b, 0, none⟩) (fun _ => rfl) u
  have hb1 : Blk W1 b 22 [dv] := h.blk.keeps hk (by omega)
  refine ⟨hb1.set_ 0 u, ?_, ?_, h.low, ?_⟩
  · have := own_keeps h2 k2 (fun i hi e => by have := (h2.lt i hi).1; omega)
    rw [List.length_append]
    simpa [nms, hy] using this
  · have := own_keeps h1 k2 (fun i hi e => by have := (h1.lt i hi).1; omega)
    rw [List.length_append]
    simpa using this
  · have hwz := h.later.size
    have b1 : Below w.heap.size W W1 := hk.below (fun i hi => by have := h.low; omega) hwz
    exact (h.later.trans b1).trans (k2.below (fun i hi => by have := h.low; omega) (Nat.le_trans hwz b1.size))

/-- What Order's answer is. -/
def Ordered (N : List Bt) (I : List (List Bt)) (W : World) (e : Ending) (w' : World) : Prop :=
  Below W.heap.size W w' ∧ ((∃ x, x ≠ 0 ∧ chkM N I = x ∧ e = .returned (.tuple #[.slice none 0 0, .int .i64 x])) ∨
    (chkM N I = 0 ∧ cycP N I ≠ none ∧ e = .returned (.tuple #[.slice none 0 0, .int .i64 8])) ∨
    ∃ out v, chkM N I = 0 ∧ Topo N I out ∧ out.length = N.length ∧ e = .returned (.tuple #[v, .int .i64 0]) ∧ Sl w' (fun b => W.heap.size ≤ b) dInt (out.map fun i : Nat => (i : Int)) v)

set_option maxRecDepth 100000 in
set_option maxHeartbeats 16000000 in
theorem order_any (N : List Bt) (I : List (List Bt)) (nv iv : Value) (w : World) (hN : Sl w (· < w.heap.size) dStr N nv) (hI : Sl w (· < w.heap.size) dStrs I iv) :
    Calls Try.prog 9 #[nv, iv] w (Ordered N I w) := by
  obtain ⟨i0, hi0, hz0, hz1, hz2⟩ := info_parts infoStrO
  obtain ⟨ti0, hj0, hy0, hy1, hy2⟩ := info_parts infoIntO
  have HCk := Lib.hid (check_any N I nv iv _ w hN hI)
  obtain ⟨A, c, rfl, hlc, hcm, _⟩ := hN.form
  obtain ⟨B, c', rfl, hmc, hcm', _⟩ := hI.form
  by_cases hz : chkM N I = 0
  · have hok := okm hz
    have h16 := hok.small
    have hIN := hok.len
    rw [hz] at HCk
    have HZ := Lib.hid hz
    have HIN := Lib.hid hIN
    have hNs := hN.sizes
    clear hz hIN
    go_enter Try.func9, Try.ntmps9
    go_wp2_with fail
    with_reducible refine HCk.out.mono ?_
    rintro e w1 ⟨rfl, rfl⟩
    go_wp2_with fail
    obtain ⟨b, hbdef⟩ : ∃ b, w.heap.size = b := ⟨_, rfl⟩
    obtain ⟨wa, hwa⟩ : ∃ wa, w.alloc (.cells #[.slice none 0 0] 22) = wa := ⟨_, rfl⟩
    have hO : OSt N w wa b (.slice none 0 0) (.slice none 0 0) [] := by
      subst hwa hbdef
      exact ⟨Blk.new _ _ [_], World.ownsRow_nil _ _ _ _, World.ownsRow_nil _ _ _ _, Nat.le_refl _, Below.alloc (Below.refl _ _) (Nat.le_refl _) _⟩
    rw [hwa, hbdef]
    go_loopg [7] (N.length) (fun q ov wr => ∃ dv out, OSt N w wr b dv ov out ∧ Topo N I out ∧ N.length ≤ q + out.length)
    case atStart => exact ⟨_, [], hO, Topo.nil N I, by simp⟩
    case round =>
      obtain ⟨dv, out, hS, hT, hq⟩ := hrel
      have hle := hT.le
      have hsm : ∀ y ∈ nms N out, y.size ≤ maxLen := fun y hy => hNs y (hT.sub y hy)
      have hOut := hS.out hsm
      have hsl := hOut.sl
      obtain ⟨D0, dc, rfl, _⟩ := hsl.form
      have hints := hS.ints
      have hIsl : Sl wr (fun b => w.heap.size ≤ b) dInt (out.map fun i : Nat => (i : Int)) _ := Sl.of_own (F := fun _ => False) hints (by simp) (by
        rw [List.map_map]
        have : ∀ l : List Nat, (∀ i ∈ l, i < N.length) → RpAll wr (fun _ => False) (l.map (dInt ∘ fun i : Nat => (i : Int))) (l.map fun i : Nat => Value.int .i64 (i : Int)) := by
          intro l
          induction l with
          | nil => intro _; simp [RpAll]
          | cons y l ih =>
            intro hl
            rw [List.map_cons, List.map_cons, rpAll_cons]
            refine ⟨[_], _, rfl, rp_int.2 ⟨rfl, ?_⟩, ih fun z hz => hl z (by simp [hz])⟩
            have := hl y (by simp)
            simp [Lit.wf, IntKind.min, IntKind.max, IntKind.signed, IntKind.bits]; omega
        exact this out hT.lt) (fun _ h => h.elim) (fun k hk => by have := (hints.lt k hk).1; have := hS.low; omega)
      obtain ⟨E0, ec, hEq, _⟩ := hIsl.form
      rw [List.length_map] at hEq
      subst hEq
      by_cases hlt : out.length < N.length
      · obtain ⟨q', rfl⟩ : ∃ q', gk = q' + 1 := ⟨gk - 1, by omega⟩
        have o0 : (out.length : Int) < (N.length : Int) := by omega
        have c8 := hS.blk.cell (i := 0) rfl
        have HNr := Lib.hid (hN.below (fun _ h => h) hS.later)
        have HIr := Lib.hid (hI.below (fun _ h => h) hS.later)
        have HDn := Lib.hid hsl
        have HBk := Lib.hid hS.blk
        have HQ := Lib.hid hq
        clear hq hIsl hints
        go_wp2_with fail
        go_loop [9, 26] (fun bs i => ∃ k : Nat, ∃ bz : Int, k ≤ N.length ∧ i = .int .i64 k ∧ bs = .int .i64 bz ∧ Best N I (nms N out) k bz) (fun _ i => N.length - (intOf i).toNat)
        case atStart => exact ⟨0, -1, Nat.zero_le _, rfl, rfl, .inl ⟨rfl, fun i hi => by omega⟩⟩
        case round =>
          obtain ⟨k, bz, hk, rfl, rfl, hbest⟩ := hrel
          by_cases hkl : k < N.length
          · obtain ⟨g, off, hadr, _, c0, s0⟩ := dStr.get HNr.out hkl
            obtain rfl := hadr
            have hltI : k < I.length := by have := HIN.out; omega
            obtain ⟨g2, off2, lv, hadr2, _, c2, hlv⟩ := dStrs.get HIr.out hltI
            obtain rfl := hadr2
            have hnmk : nm N k = N[k] := nm_get hkl
            have hgd : I.getD k [] = I[k] := by rw [List.getD_eq_getElem?_getD, List.getElem?_eq_getElem hltI]; rfl
            obtain ⟨x, hx⟩ : ∃ x, N[k] = x := ⟨_, rfl⟩
            obtain ⟨l, hl0⟩ : ∃ l, I[k] = l := ⟨_, rfl⟩
            rw [hx] at c0 s0 hnmk
            rw [hl0] at hlv hgd
            obtain ⟨D1, c4, rfl, _⟩ := hlv.form
            have HCo := Lib.hid (strContains (nms N out) x _ _ wr HDn.out)
            have k0 : (0 : Int) ≤ (k : Int) := by omega
            have k1 : (k : Int) < (N.length : Int) := by omega
            have k2 : (k : Int) < (I.length : Int) := by omega
            have HR : Hid (Ready N I (nms N out) k ↔ x ∉ nms N out ∧ ∀ m ∈ l, m ∈ nms N out) := by
              refine ⟨fun h => ?_, fun h => ?_⟩
              · have h1 := h.2.1; have h2 := h.2.2
                rw [hnmk] at h1; rw [hgd] at h2
                exact ⟨h1, h2⟩
              · exact ⟨hkl, by rw [hnmk]; exact h.1, by rw [hgd]; exact h.2⟩
            have HB := Lib.hid hbest
            clear hx hl0 hnmk hgd hbest
            cases hq1 : isIn (nms N out) x
            · have hxn := isIn_no.1 hq1
              have eg : Enters Try.prog 15 := enters_of Try.func15 (by kernel_rfl) rfl
              have HCf := Lib.hid (strContainsFunc l _ _ wr hlv 15 #[.pointer (some ⟨b, 0, none⟩)] (fun m => !(isIn (nms N out) m)) eg (fun y => cloO wr b _ _ _ HBk.out HDn.out y))
              unfold isIn at hq1
              rw [hq1] at HCo
              cases hq2 : l.any (fun m => !(isIn (nms N out) m))
              · rw [hq2] at HCf
                have hrdy : Ready N I (nms N out) k := HR.out.2 ⟨hxn, fun m hm => isIn_iff.1 (by simpa using List.any_eq_false.1 hq2 m hm)⟩
                have HRd := Lib.hid hrdy
                clear hq1 hq2 hxn eg hrdy HR
                rcases HB.out with ⟨rfl, _⟩ | ⟨j, rfl, hj⟩
                · clear HB
                  go_wp2_with fail
                  with_reducible refine HCo.out.mono ?_
                  rintro e w1 ⟨rfl, rfl⟩
                  go_wp2_with fail
                  with_reducible refine HCf.out.mono ?_
                  rintro e w1 ⟨rfl, rfl⟩
                  go_wp2_with fail
                  go_round
                  case rel => exact ⟨k + 1, k, by omega, by go_num, rfl, .inr ⟨k, rfl, HRd.out⟩⟩
                  case measure => simp [intOf]; omega
                · clear HB
                  have hjN := hj.1
                  obtain ⟨g3, off3, hadr3, _, c3, _⟩ := dStr.get HNr.out hjN
                  simp only [Option.some.injEq, Addr.mk.injEq, and_true] at hadr3
                  obtain ⟨rfl, rfl⟩ := hadr3
                  obtain ⟨y, hy⟩ : ∃ y, N[j] = y := ⟨_, rfl⟩
                  rw [hy] at c3
                  have j0 : (0 : Int) ≤ (j : Int) := by omega
                  have j1 : (j : Int) < (N.length : Int) := by omega
                  have HJ := Lib.hid hj
                  clear hy hj
                  go_wp2_with fail
                  with_reducible refine HCo.out.mono ?_
                  rintro e w1 ⟨rfl, rfl⟩
                  go_wp2_with fail
                  with_reducible refine HCf.out.mono ?_
                  rintro e w1 ⟨rfl, rfl⟩
                  go_wp2_with fail
                  all_goals go_round
                  all_goals first
                    | (case rel => exact ⟨k + 1, k, by omega, by go_num, rfl, .inr ⟨k, rfl, HRd.out⟩⟩)
                    | (case rel => exact ⟨k + 1, j, by omega, by go_num, rfl, .inr ⟨j, rfl, HJ.out⟩⟩)
                    | (case measure => simp [intOf]; omega)
              · rw [hq2] at HCf
                have hn : ¬ Ready N I (nms N out) k := fun h => by
                  obtain ⟨m, hm, hm2⟩ := List.any_eq_true.1 hq2
                  have h1 := isIn_iff.2 ((HR.out.1 h).2 m hm)
                  rw [h1] at hm2; cases hm2
                have HN2 := Lib.hid (Best.skip HB.out hn)
                clear hq1 hq2 hxn eg HR hn HB
                go_wp2_with fail
                with_reducible refine HCo.out.mono ?_
                rintro e w1 ⟨rfl, rfl⟩
                go_wp2_with fail
                with_reducible refine HCf.out.mono ?_
                rintro e w1 ⟨rfl, rfl⟩
                go_wp2_with fail
                go_round
                case rel => exact ⟨k + 1, bz, by omega, by go_num, rfl, HN2.out⟩
                case measure => simp [intOf]; omega
            · have hxin := isIn_iff.1 hq1
              have hn : ¬ Ready N I (nms N out) k := fun h => (HR.out.1 h).1 hxin
              have HN2 := Lib.hid (Best.skip HB.out hn)
              unfold isIn at hq1
              rw [hq1] at HCo
              clear hq1 hxin HR hn HB
              go_wp2_with fail
              with_reducible refine HCo.out.mono ?_
              rintro e w1 ⟨rfl, rfl⟩
              go_wp2_with fail
              go_round
              case rel => exact ⟨k + 1, bz, by omega, by go_num, rfl, HN2.out⟩
              case measure => simp [intOf]; omega
          · obtain rfl : k = N.length := by omega
            have k1 : ¬ (N.length : Int) < (N.length : Int) := by omega
            rcases hbest with ⟨rfl, hno⟩ | ⟨j, rfl, hj⟩
            · have hcy : cycP N I ≠ none := cycP_stuck hok (done := nms N out) (by simpa [nms] using hlt) fun x hx hxd => Classical.byContradiction fun hc => by
                obtain ⟨i, hi, e⟩ := List.mem_iff_getElem.1 hx
                refine hno i hi ⟨hi, by rw [nm_get hi, e]; exact hxd, fun m hm => Classical.byContradiction fun hmd => hc ⟨m, ?_, hmd⟩⟩
                rw [← e, ← nm_get hi, impOf_nm hok hi]; exact hm
              have HC := Lib.hid hcy
              clear hno hcy
              go_wp2_with fail
              go_ret2
              exact ⟨hS.later, .inr (.inl ⟨HZ.out, HC.out, rfl⟩)⟩
            · have hjN := hj.1
              have HJ := Lib.hid hj
              obtain ⟨g3, off3, hadr3, _, c3, s3⟩ := dStr.get HNr.out hjN
              obtain rfl := hadr3
              have hnmj := nm_get hjN
              obtain ⟨y, hy⟩ : ∃ y, N[j] = y := ⟨_, rfl⟩
              rw [hy] at c3 s3 hnmj
              have j0 : (0 : Int) ≤ (j : Int) := by omega
              have j1 : (j : Int) < (N.length : Int) := by omega
              have HNJ := Lib.hid hnmj
              clear hy hj hnmj
              have hdn := hS.dn
              have hin := hS.ints
              have hbz := hS.blk.lt
              have f8 := hS.blk.free 0
              have hg3z := block_lt_of_cell c3
              have hneI0 := own_ne_blk hin hS.blk (by decide)
              have hneD0 := own_ne_blk hdn hS.blk (by decide)
              have hap := own_apart hdn hin (by decide)
              have dvl : (nms N out).length = out.length := by simp [nms]
              rw [dvl] at hdn hneD0 hap c8
              obtain ⟨dv, hdv⟩ : ∃ dv, Value.slice D0 out.length dc = dv := ⟨_, rfl⟩
              rw [hdv] at hdn hneD0 hap c8
              obtain ⟨OX, hOX⟩ : ∃ l, (out.map fun i : Nat => Value.int .i64 (i : Int)) = l := ⟨_, rfl⟩
              obtain ⟨DX, hDX⟩ : ∃ l, (nms N out).map Value.string = l := ⟨_, rfl⟩
              rw [hOX] at hin
              rw [hDX] at hdn
              have HOX := Lib.hid hOX
              have HDX := Lib.hid hDX
              have HDV := Lib.hid hdv
              clear hOX hDX hdv
              go_wp2_with fail
              obtain ⟨ov0, hov0⟩ : ∃ v, Value.slice E0 out.length ec = v := ⟨_, rfl⟩
              have hneI : ¬ (Value.slice E0 out.length ec).ownBlock = some b := hneI0
              have hneD : ¬ dv.ownBlock = some b := hneD0
              have hneg : ¬ (Value.slice E0 out.length ec).ownBlock = some g3 := fun e => by have := (hin.lt _ e).1; have := hS.low; omega
              rw [hov0] at hin hap hneI hneg ⊢
              have HIN := Lib.hid hin
              have HDN := Lib.hid hdn
              have HAP := Lib.hid hap
              have HM := Lib.hid (show out.length + 1 ≤ maxLen by unfold maxLen; omega)
              have HB8 := Lib.hid (show (out.length + 1) * 8 ≤ 140737488355328 by omega)
              have HB16 := Lib.hid (show (out.length + 1) * 16 ≤ 140737488355328 by omega)
              have HBZ := Lib.hid (show b + 1 ≤ wr.heap.size by omega)
              have HT := Lib.hid hT
              have HSt := Lib.hid hS
              have HNs := Lib.hid hNs
              have HLT := Lib.hid hlt
              clear hin hdn hap hneI0 hneD0 hT hS hNs hsm hOut hsl hN hI HCk HBk HDn HIr HNr hov0 hok h16 hlc hcm hmc hcm' hle dvl hwa hO hbdef hlt o0
              go_region_law (first
                | (refine step_append_kept (W0 := wr) rfl (.tmp 61) (.tmp 63) 31 rfl (b + 1) 3 ti0 _ 1 8 Try.underlying31 hj0 hy0 hy1 hy2 rfl (by decide) ov0 out.length OX rfl HIN.out (by repeat (first | with_reducible exact Keeps.refl _ _ | with_reducible refine Keeps.drew ?_ | with_reducible refine Keeps.alloc ?_ _)) _ _ #[.int .i64 (j : Int)] rfl rfl (by first | exact heap_new_at (by simp) | exact heap_up (heap_new_at (by simp)) _) (by simp [Value.oneCell']) HM.out HB8.out HBZ.out ?_; intro gg1 cap1 w2 hown1 hk1 hpre; have k8 := hk1.cell c8 hneI; have kf8 := hk1.frozen f8 hbz hneI; have k3 := hk1.cell c3 hneg; have kz1 := Nat.lt_of_lt_of_le hbz hk1.size; have kz3 := Nat.lt_of_lt_of_le hg3z hk1.size)
                | (refine step_append_kept (W0 := w2) rfl (.tmp 65) (.tmp 70) 22 rfl (b + 1) 9 i0 _ 1 16 Try.underlying22 hi0 hz0 hz1 hz2 rfl (by decide) dv out.length DX rfl (own_keeps HDN.out hk1 HAP.out) (by repeat (first | with_reducible exact Keeps.refl _ _ | with_reducible refine Keeps.drew ?_ | with_reducible refine Keeps.alloc ?_ _)) _ _ #[.string y] rfl rfl (by first | exact heap_new_at (by simp) | exact hpre _ _ (by first | exact heap_new_at (by simp) | exact heap_up (heap_new_at (by simp)) _) (fun e => by have := (HIN.out.lt _ e).2; omega)) (by simp [Value.oneCell']) HM.out HB16.out (Nat.le_trans HBZ.out hk1.size) ?_; intro gg2 cap2 w3 hown2 hk2 hpre2; have q8 := hk2.cell k8 hneD; have qf8 := hk2.frozen kf8 (Nat.lt_of_lt_of_le hbz hk1.size) hneD))
              all_goals
                have hdn2 := own_keeps HDN.out hk1 HAP.out
                have hown3 := own_keeps hown1 hk2 (own_apart hown1 hdn2 (by decide))
                have hkw : Keeps (fun i => b + 1 ≤ i) wr w3 := (hk1.mono (Y := fun i => b + 1 ≤ i) (fun i _ hi => (HIN.out.lt i hi).1)).trans (hk2.mono (Y := fun i => b + 1 ≤ i) (fun i _ hi => (HDN.out.lt i hi).1)) (fun _ _ h => h)
                have hS2 := HSt.out.push (i := j) HNJ.out hkw (by rw [HOX.out]; simpa using hown3) (by rw [HDX.out]; simpa using hown2) rfl
                have hT2 := HT.out.push HJ.out.1 HJ.out.2.1 HJ.out.2.2
                clear q8 qf8 hown1 hown2 hown3 hdn2 hpre hpre2 k8 kf8 k3 hk1 hk2 hkw
                go_wp2_with fail
                go_roundg q'
                case measure => omega
                case rel => exact ⟨_, out ++ [j], hS2, hT2, by have := HQ.out; simp; omega⟩
      · have o0 : ¬ (out.length : Int) < (N.length : Int) := by omega
        have HL := Lib.hid (show out.length = N.length by omega)
        have HSl := Lib.hid hIsl
        clear hq hIsl
        go_wp2_with fail
        go_ret2
        exact ⟨hS.later, .inr (.inr ⟨out, _, HZ.out, hT, HL.out, rfl, HSl.out⟩)⟩
  · have hne : (chkM N I != 0) = true := bne_iff_ne.2 hz
    obtain ⟨x, hx⟩ : ∃ x, chkM N I = x := ⟨_, rfl⟩
    have HX := Lib.hid hx
    rw [hx] at HCk hne hz
    clear hx
    go_enter Try.func9, Try.ntmps9
    go_wp2_with fail
    with_reducible refine HCk.out.mono ?_
    rintro e w1 ⟨rfl, rfl⟩
    go_wp2_with fail
    go_ret2
    exact ⟨Below.refl _ _, .inl ⟨x, hz, HX.out, rfl⟩⟩
end Go.Proofs.Ytldflgianmmaeaa
