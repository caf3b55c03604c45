/- kinds.want. -/
import Derived.Test.YtjofndhbpglfgaaDoorKWantD
import Derived.Test.YtjofndhbpglfgaaDoorUWalk
import Derived.Deep.LoopGhost
import Derived.Deep.DeepCutAuto
import Derived.Deep.CutBlock
import Derived.Outline
import Derived.Deep.RegionHeld3
namespace Go.Proofs.YtjofndhbpglfgaaDoor
open Go.RowKit Go.Shelf

theorem len_two {α : Type} : ∀ {l : List α}, l.length = 2 → ∃ x y, l = [x, y]
  | [x, y], _ => ⟨x, y, rfl⟩
theorem len_three {α : Type} : ∀ {l : List α}, l.length = 3 → ∃ x y z, l = [x, y, z]
  | [x, y, z], _ => ⟨x, y, z, rfl⟩
/-- What a store of a kind does. -/
theorem Sv.kset {W : World} {B p : Nat} {known : List KindSig} {datas : List DataSig} {first up : List Nat} {kind : List Int} {kv dv fv uv : Value} {gc cc : Nat} (h : Sv W B p known datas first up kind kv dv fv uv (.slice (some ⟨gc, 0, none⟩) kind.length cc)) (ri : Nat) (m : Int) :
    Sv (W.setCell ⟨gc, ri, none⟩ (.int .i64 m)) B p known datas first up (kind.set ri m) kv dv fv uv (.slice (some ⟨gc, 0, none⟩) kind.length cc) ∧ Keeps (Two uv (.slice (some ⟨gc, 0, none⟩) kind.length cc)) W (W.setCell ⟨gc, ri, none⟩ (.int .i64 m)) := by
  have hClt := h.co.lt gc rfl
  have hpc : p ≠ gc := fun e => own_not h.co h.blk (by decide) (by rw [e]; rfl)
  have k2 : Keeps (· = gc) W (W.setCell ⟨gc, ri, none⟩ (.int .i64 m)) := (Keeps.refl (· = gc) _).setCell (p := ⟨gc, ri, none⟩) (fun _ => rfl) _
  have c2 := (h.co.stored ri (.int .i64 m)).1
  rw [kintz_set'] at c2
  refine ⟨⟨h.blk.keeps k2 hpc, own_keeps h.fo k2 (fun i hi e => h.fc i hi (by rw [e]; rfl)), own_keeps h.uo k2 (fun i hi e => h.uc i hi (by rw [e]; rfl)), by rw [List.length_set]; exact c2, h.fu, h.fc, h.uc, ?_, ?_, h.low⟩, k2.mono (fun i _ hi => .inr (by rw [hi]; rfl))⟩
  · exact h.kn.keeps k2 (fun i hi e => by have := hClt.1; omega)
  · exact h.dt.keeps k2 (fun i hi e => by have := hClt.1; omega)

theorem parts_lit {w : World} {F : Nat → Prop} {g : Nat} {cs : List Value} {l : List (Ty × Nat)} (hb : Blk w g 107 cs) (hx : RpAll w F (l.map partD) cs) (hl : l.length ≤ 3) : Sl w (fun b => F b ∨ b = g) partD l (.slice (some ⟨g, 0, none⟩) l.length l.length) := by
  unfold Sl
  simp only [Rp]
  refine ⟨some ⟨g, 0, none⟩, l.length, by rw [List.length_map], by simp, by unfold maxLen; omega, (fun h => nomatch h), fun _ => ⟨g, 0, cs, rfl, .inr rfl, RpAll.mono hx (fun _ h => .inl h), fun j u hj => ?_⟩⟩
  rw [Nat.zero_add]; exact hb.cell hj

theorem part_nil {w : World} {F : Nat → Prop} : RpAll w F (([] : List (Ty × Nat)).map partD) [] := rpAll_nil.2 rfl
theorem part_cons {w : World} {F : Nat → Prop} {x : Ty} {n : Nat} {av : Value} {l : List (Ty × Nat)} {cs : List Value} (h : TyC w F x av) (hn : n ≤ 1000000) (hr : RpAll w F (l.map partD) cs) : RpAll w F (((x, n) :: l).map partD) (.int .i64 x.kind :: .string x.name :: .int .i64 x.var :: av :: .int .i64 (n : Int) :: cs) :=
  rpAll_cons.2 ⟨[.int .i64 x.kind, .string x.name, .int .i64 x.var, av, .int .i64 (n : Int)], cs, rfl, partD.rp.2 ⟨av, rfl, h, WalkArith.wf_i64 (by omega)⟩, hr⟩
theorem parts_made {W0 : World} {F : Nat → Prop} {b0 n : Nat} {cs : List Value} (l : List (Ty × Nat)) (hz : b0 < W0.heap.size) (hx : ∀ w, Keeps (fun _ => False) W0 w → RpAll w F (l.map partD) cs) (hn : l.length = n) (hl : n ≤ 3) :
    Sl (W0.alloc (.cells cs.toArray 107)) (fun b => F b ∨ (b0 < b ∧ b < (W0.alloc (.cells cs.toArray 107)).heap.size)) partD l (.slice (some ⟨W0.heap.size, 0, none⟩) n n) := by
  subst hn
  have hk : Keeps (fun _ => False) W0 (W0.alloc (.cells cs.toArray 107)) := (Keeps.refl _ _).alloc _
  exact (parts_lit (Blk.new W0 _ cs) (hx _ hk) hl).mono (fun b hb => hb.imp id (fun e => by
    subst e
    have := (Blk.new W0 107 cs).lt
    exact ⟨hz, this⟩))

theorem own_shapeP {w : World} {base : Nat} {e : TypeId} {k n : Nat} {v : Value} {xs : List Value} (h : w.ownsRow base e k v n xs) : ∃ A c, v = .slice A n c ∧ n ≤ c ∧ c ≤ maxLen := own_shape h
theorem infoPart : (Tryd.prog.info? 107).map (fun i => (i.zero, i.size, i.bytes)) = some (some (.agg #[.int .i64 0, .string ⟨#[]⟩, .int .i64 0, .slice none 0 0, .int .i64 0]), 5, 64) := by kernel_rfl
theorem findD_len : ∀ (datas : List DataSig) (first : List Nat), (∀ d ∈ datas, 0 ≤ d.params ∧ d.params ≤ 16) → ∀ (x : ByteArray) (l : List Nat), findD datas first x = some l → l.length ≤ 16
  | d :: r, f :: fs, h, x, l, e => by
    rw [findD] at e
    split at e
    · have h0 := h d (by simp)
      rw [← Option.some.inj e, slotsOf_len]
      omega
    · exact findD_len r fs (fun d hd => h d (by simp [hd])) x l e
  | [], fs, _, _, _, e => by rw [findD_nil] at e; cases e
  | _ :: _, [], _, _, _, e => by cases e
theorem parts_snoc {w : World} {F : Nat → Prop} : ∀ (l : List (Ty × Nat)) (cs : List Value) (x : Ty) (n : Nat) (av : Value), RpAll w F (l.map partD) cs → TyC w F x av → n ≤ 1000000 → RpAll w F ((l ++ [(x, n)]).map partD) (cs ++ [.int .i64 x.kind, .string x.name, .int .i64 x.var, av, .int .i64 (n : Int)])
  | [], cs, x, n, av, h, hx, hn => by
    obtain rfl := rpAll_nil.1 h
    exact part_cons hx hn part_nil
  | y :: l, cs, x, n, av, h, hx, hn => by
    obtain ⟨a, b, rfl, h1, h2⟩ := rpAll_cons.1 h
    rw [List.append_assoc]
    exact rpAll_cons.2 ⟨a, _, rfl, h1, parts_snoc l b x n av h2 hx hn⟩

def WantAt (datas : List DataSig) (first vars : List Nat) (q : Nat) : Prop := ∀ (W : World) (B p : Nat) (F : Nat → Prop) (kv dv fv uv cv vv av : Value) (t : Ty) (slot : Nat) (s : St) (r : Int) (s' : St),
  Sv W B p [] datas first s.1 s.2 kv dv fv uv cv → B ≤ W.heap.size → Kinv s → Slots datas first s.1.length → 3 ≤ s.1.length → s.1.length ≤ 1000000 → slot < s.1.length →
  W.ownsRow B 3 1 vv vars.length (ints vars) → (∀ i, vv.ownBlock = some i → ¬ Two uv cv i) → (∀ v ∈ vars, v < s.1.length) →
  (∀ i, F i → i < W.heap.size ∧ ¬ Two uv cv i) → TyC W F t av → wantP datas first vars q t slot s = some (r, s') →
  Calls Tryd.prog 44 #[.pointer (some ⟨p, 0, none⟩), tyV t av, .int .i64 (slot : Int), vv] W fun e w' => e = .returned (.int .i64 r) ∧ Keeps (Two uv cv) W w' ∧ Sv w' B p [] datas first s'.1 s'.2 kv dv fv uv cv

set_option maxRecDepth 100000 in
set_option maxHeartbeats 16000000 in
theorem want_step (datas : List DataSig) (first vars : List Nat) (q : Nat) (ih : WantAt datas first vars q) : WantAt datas first vars (q + 1) := by
  intro W B p F kv dv fv uv cv vv av t slot s r s' hS hB hI hSl h3 hmx hsl hvo hvd hvs hF hT hr
  obtain ⟨up, kind⟩ := s
  dsimp only at hS hSl h3 hmx hsl hvs
  obtain ⟨A2, c2, rfl, hlc2, hcm2, _⟩ := hT.form
  obtain ⟨VA, vc, rfl, hvl, hvm⟩ := own_shape hvo
  unfold tyV
  rw [wantP] at hr
  have hsh : shape t := by
    by_cases h : shape t
    · exact h
    · rw [if_pos h] at hr; cases hr
  rw [if_neg (fun h => h hsh)] at hr
  obtain ⟨b0, hb0⟩ : ∃ b0, W.heap.size = b0 := ⟨_, rfl⟩
  have hpl := hS.blk.lt
  have hpb : p < b0 := by omega
  have hBb : B ≤ b0 := by omega
  obtain ⟨W0, hW0⟩ : ∃ W0, W.alloc (.cells #[.int .i64 t.kind, .string t.name, .int .i64 t.var, .slice A2 t.args.length c2] 45) = W0 := ⟨_, rfl⟩
  have hk0 : Keeps (fun _ => False) W W0 := by rw [← hW0]; exact (Keeps.refl _ _).alloc _
  have hw1 : Blk W0 b0 45 [.int .i64 t.kind, .string t.name, .int .i64 t.var, .slice A2 t.args.length c2] := by
    rw [← hW0, ← hb0]; exact Blk.new W _ [_, _, _, _]
  have htw : ∀ i, Two uv cv i → i < b0 := fun i hi => by rw [← hb0]; exact hi.elim (fun e => (hS.uo.lt i e).2) (fun e => (hS.co.lt i e).2)
  have HTW := Lib.hid htw
  have HF0 : Hid (∀ i, F i → i < b0 ∧ ¬ Two uv cv i) := by rw [← hb0]; exact hF
  have HS := Lib.hid (hS.same hk0)
  have HT := Lib.hid (hT.keeps hk0 (fun _ _ h => h))
  have HVO := Lib.hid (own_keeps hvo hk0 (fun _ _ h => h))
  have HVD := Lib.hid hvd
  have HVS := Lib.hid hvs
  have HSL := Lib.hid hSl
  have HI := Lib.hid hI
  have HIH := Lib.hid ih
  have HR := Lib.hid hr
  have HSH := Lib.hid hsh
  have HK0 := Lib.hid hk0
  have H1 := Lib.hid hw1
  have HW0 := Lib.hid hW0
  have HB0 := Lib.hid hb0
  have hbl := hw1.lt
  have d0 := hw1.cell (i := 0) rfl
  have d2 := hw1.cell (i := 2) rfl
  have d3 := hw1.cell (i := 3) rfl
  clear hS hI hSl hvo hvd hvs hF hT hr hsh hk0 hw1 hW0 hb0 ih htw
  go_enter Tryd.func44, Tryd.ntmps44
  go_upto_block 0 with fail
  rw [HW0.out, HB0.out]
  go_cut [9] (fun pv wc => ∃ ps : List (Ty × Nat), Hid (partsP datas first t slot = .ok ps) ∧ Hid (¬ t.kind = 0) ∧ Sl wc (fun b => F b ∨ (b0 < b ∧ b < wc.heap.size)) partD ps pv ∧ Keeps (fun _ => False) W0 wc)
  case first =>
    by_cases hk0 : t.kind = 0
    · have hb : (t.kind == 0) = true := beq_iff_eq.2 hk0
      have hr := HR.out
      rw [if_pos hk0] at hr
      have hv0 := HSH.out.1 hk0
      by_cases hv : (vars.length : Int) ≤ t.var
      · rw [if_pos hv] at hr
        simp only [Option.some.injEq, Prod.mk.injEq] at hr
        obtain ⟨rfl, rfl⟩ := hr
        clear hk0
        go_wp2_with fail
        go_ret
        exact ⟨rfl, HK0.out.mono (fun _ _ h => h.elim), HS.out⟩
      · rw [if_neg hv] at hr
        obtain ⟨j, hj⟩ : ∃ j : Nat, t.var = (j : Int) := ⟨t.var.toNat, by omega⟩
        rw [hj, Int.toNat_natCast] at hr
        rw [hj] at d2 hv
        have hjl : j < vars.length := by omega
        obtain ⟨z, hz⟩ : ∃ z, vars[j] = z := ⟨_, rfl⟩
        have hzg : vars[j]? = some z := by rw [List.getElem?_eq_getElem hjl, hz]
        have hzd : vars.getD j 0 = z := by rw [List.getD_eq_getElem?_getD, hzg]; rfl
        have hzl := HVS.out _ (List.getElem_mem hjl)
        rw [hz] at hzl
        rw [hzd] at hr
        simp only [Option.some.injEq, Prod.mk.injEq] at hr
        obtain ⟨gv, cv2, hva, hvc, hgv, _, _⟩ := own_cell HVO.out (ints_get hzg) (by simp)
        simp only [Value.slice.injEq, true_and] at hva
        obtain ⟨rfl, rfl⟩ := hva
        have HC := Lib.hid (join_any HS.out HI.out.uf HI.out.len z slot hzl hsl)
        have HRR := Lib.hid hr
        have j0 : (0 : Int) ≤ (j : Int) := by omega
        have j1 : (j : Int) < (vars.length : Int) := by omega
        have j2 : ¬ (vars.length : Int) ≤ (j : Int) := by omega
        clear hk0 hz hzg hzd hv hv0 hr hj
        go_wp2_with fail
        with_reducible refine HC.out.mono ?_
        rintro e w2 ⟨rfl, hk2, hS2⟩
        have HSW := Lib.hid hS2
        have HKW := Lib.hid hk2
        clear hk2 hS2
        go_wp2_with fail
        go_ret
        refine ⟨by rw [← HRR.out.1]; rfl, (HK0.out.mono (fun _ _ h => h.elim)).trans HKW.out (fun _ _ h => h), ?_⟩
        rw [← HRR.out.2]; exact HSW.out
    · have hb0 : (t.kind == 0) = false := by rw [beq_eq_false_iff_ne]; exact hk0
      have HK00 := Lib.hid hk0
      clear hk0
      by_cases hk1 : t.kind = 1
      · have hb1 : (t.kind == 1) = true := beq_iff_eq.2 hk1
        have HC := Lib.hid (params_any HS.out (by omega) HSL.out.1 HSL.out.par (HSL.out.fst hmx) t.name)
        have hpp : Hid (partsP datas first t slot = match findD datas first t.name with | none => .error 6 | some l => if l.length ≠ t.args.length then .error 9 else .ok (t.args.zip l)) := by
          show _ = _
          unfold partsP
          rw [if_pos hk1]; rfl
        have d1 := H1.out.cell (i := 1) rfl
        clear hk1
        go_wp2_with fail
        with_reducible refine HC.out.mono ?_
        rintro e w1 ⟨hbw, (⟨l, lv, hl, rfl, hown⟩ | ⟨hl, rfl⟩)⟩
        · have hpp1 := hpp.out
          rw [hl] at hpp1
          dsimp only at hpp1
          have hkw : Keeps (fun _ => False) W0 w1 := Keeps.of_below hbw
          have hl16 := findD_len datas first HSL.out.par t.name l hl
          have hll := findD_lt datas first HSL.out.2 t.name l hl
          have hzw := hkw.size
          have e0 := hkw.cell d0 (fun h => h)
          have e3 := hkw.cell d3 (fun h => h)
          obtain ⟨LA, lc, rfl, _⟩ := own_shape hown
          have HKW := Lib.hid hkw
          have HO := Lib.hid hown
          have HLL := Lib.hid hll
          clear hbw hkw hown hl hpp hll d0 d1 d2 d3
          by_cases hlen : l.length = t.args.length
          · rw [if_neg (fun h => h hlen)] at hpp1
            have hlb : ((l.length : Int) != (t.args.length : Int)) = false := by rw [hlen]; simp
            have HPP := Lib.hid hpp1
            have HLen := Lib.hid hlen
            obtain ⟨Z, hZ⟩ : ∃ Z, w1.heap.size = Z := ⟨_, rfl⟩
            have HT1 := Lib.hid (HT.out.keeps HKW.out (fun _ _ h => h))
            have HZ := Lib.hid hZ
            have hbZ : b0 < Z := by omega
            have hW0Z : W0.heap.size ≤ Z := by omega
            have hal : t.args.length ≤ 16 := by omega
            obtain ⟨i0, hi0, hz0, hz1, hz2⟩ := info_parts infoPart
            clear hpp1 hlen hZ
            go_wp2_with fail
            obtain ⟨wo, rfl⟩ : ∃ wo, wo = w1 := ⟨_, rfl⟩
            go_loopw [9, 12, 13, 56] (fun pv _ _ i wr => ∃ (j : Nat) (cs : List Value), j ≤ t.args.length ∧ i = .int .i64 j ∧ Keeps (fun i => Z ≤ i) wo wr ∧ wr.ownsRow Z 107 5 pv j cs ∧ Hid (∀ w, Keeps (fun i => Z ≤ i) wo w → RpAll w F (((t.args.zip l).take j).map partD) cs)) (fun _ _ _ i _ => t.args.length - (intOf i).toNat)
            case atStart => exact ⟨0, [], Nat.zero_le _, rfl, Keeps.refl _ _, World.ownsRow_nil _ _ _ _, fun w _ => part_nil⟩
            case round =>
              obtain ⟨j, cs, hj, rfl, hkr, hpo, hcs⟩ := hrel
              obtain ⟨PA, pc, rfl, _⟩ := own_shapeP hpo
              by_cases hlt : j < t.args.length
              · obtain ⟨g, off, av, hadr, hFg, a0, a1, a2, a3, hTx⟩ := tyD.get HT1.out.args hlt
                obtain rfl := hadr
                have hgZ : ¬ Z ≤ g := by have := (HF0.out g hFg).1; omega
                have hjl : j < l.length := by have := HLen.out; omega
                obtain ⟨n, hn⟩ : ∃ n, l[j] = n := ⟨_, rfl⟩
                have hn1 := HLL.out _ (List.getElem_mem hjl)
                rw [hn] at hn1
                have hln : l[j]? = some n := by rw [List.getElem?_eq_getElem hjl, hn]
                obtain ⟨gl, cl, hla, hlc, hglz, _, _⟩ := own_cell HO.out (ints_get hln) (by simp)
                simp only [Value.slice.injEq, true_and] at hla
                obtain ⟨rfl, rfl⟩ := hla
                obtain ⟨x, hx⟩ : ∃ x, t.args[j] = x := ⟨_, rfl⟩
                have hzip : (t.args.zip l).take (j + 1) = (t.args.zip l).take j ++ [(x, n)] := by
                  have hzl : j < (t.args.zip l).length := by simp; omega
                  rw [List.take_succ_eq_append_getElem hzl, List.getElem_zip, hx, hn]
                rw [hx] at a0 a1 a2 hTx
                obtain ⟨XA, xc, rfl, _⟩ := hTx.form
                have a0 := hkr.cell a0 hgZ
                have a1 := hkr.cell a1 hgZ
                have a2 := hkr.cell a2 hgZ
                have a3 := hkr.cell a3 hgZ
                have hgl' := block_lt_of_cell a0
                have hTk : Hid (∀ w, Keeps (fun i => Z ≤ i) wo w → TyC w F x (.slice XA x.args.length xc)) := fun w hk => hTx.keeps hk (fun i hi h => by have := (HF0.out i hi).1; omega)
                obtain ⟨b1, hb1'⟩ : ∃ b1, wr.heap.size = b1 := ⟨_, rfl⟩
                obtain ⟨W2, hW2⟩ : ∃ W2, wr.alloc (.cells #[.int .i64 x.kind, .string x.name, .int .i64 x.var, .slice XA x.args.length xc] 45) = W2 := ⟨_, rfl⟩
                have hk2 : Keeps (fun _ => False) wr W2 := by rw [← hW2]; exact (Keeps.refl _ _).alloc _
                have hbk : Blk W2 b1 45 [.int .i64 x.kind, .string x.name, .int .i64 x.var, .slice XA x.args.length xc] := by
                  rw [← hW2, ← hb1']; exact Blk.new wr _ [_, _, _, _]
                have hglZ : ¬ Z ≤ gl := by have := HZ.out; omega
                have k0 := hbk.cell (i := 0) rfl
                have k1 := hbk.cell (i := 1) rfl
                have k2 := hbk.cell (i := 2) rfl
                have k3 := hbk.cell (i := 3) rfl
                have kl := hk2.cell (hkr.cell hlc hglZ) (fun h => h)
                have hzr := hkr.size
                have hzW2 := hk2.size
                have hb1l := hbk.lt
                have hgl2 := block_lt_of_cell kl
                have HPO := Lib.hid (own_keeps hpo hk2 (fun _ _ h => h))
                have HK2 := Lib.hid (hkr.trans hk2 (fun _ _ h => h.elim))
                have HKr := Lib.hid hkr
                have HCS := Lib.hid hcs.out
                have HW2 := Lib.hid hW2
                have HB1 := Lib.hid hb1'
                have HZip := Lib.hid hzip
                have HN := Lib.hid hn1
                have HM := Lib.hid (show j + 1 ≤ maxLen by unfold maxLen; omega)
                have HB64 := Lib.hid (show (j + 1) * 64 ≤ 140737488355328 by omega)
                have HBZ := Lib.hid (show Z ≤ W2.heap.size by have := HZ.out; omega)
                have j0 : (0 : Int) ≤ (j : Int) := by omega
                have j1 : (j : Int) < (t.args.length : Int) := by omega
                have j2 : (j : Int) < (l.length : Int) := by omega
                have j3 : (j : Int) ≤ 16 := by omega
                clear hTx hn hln hlc hx hzip hb1' hW2 hk2 hbk hpo hcs hkr hn1
                go_wp2_with fail
                rw [HW2.out, HB1.out]
                go_region_law (first
                  | (refine step_append_kept (W0 := W2) rfl (.tmp 61) (.tmp 68) 104 rfl Z 107 i0 _ 5 64 Tryd.underlying104 hi0 hz0 hz1 hz2 rfl (by decide) (.slice PA j pc) j cs rfl HPO.out (by repeat (first | with_reducible exact Keeps.refl _ _ | with_reducible refine Keeps.drew ?_ | with_reducible refine Keeps.alloc ?_ _)) _ _ #[.int .i64 x.kind, .string x.name, .int .i64 x.var, .slice XA x.args.length xc, .int .i64 (n : Int)] rfl rfl (by first | exact heap_new_at (by simp) | exact heap_up (heap_new_at (by simp)) _) (by simp [Value.oneCell']) HM.out HB64.out HBZ.out ?_; intro gg cap w3 hown3 hk3 _ _))
                all_goals
                  have hkf : Keeps (fun i => Z ≤ i) wo w3 := HK2.out.trans hk3 (fun i _ hi => (HPO.out.lt i hi).1)
                  have HKF := Lib.hid hkf
                  have HO3 := Lib.hid hown3
                  clear hkf hk3 hown3
                  go_wp2_with fail
                  go_roundw
                  case rel => exact ⟨j + 1, _, by omega, by go_num, (by first | exact HKF.out | exact HKF.out.drew), HO3.out, fun w hk => by rw [HZip.out]; exact parts_snoc _ _ _ _ _ (HCS.out w hk) (hTk.out w hk) (by have := HN.out; omega)⟩
                  case measure => simp [intOf]; omega
              · obtain rfl : j = t.args.length := by omega
                have j1 : ¬ (t.args.length : Int) < (t.args.length : Int) := by omega
                have HKR := Lib.hid hkr
                have HPO := Lib.hid hpo
                clear hkr hpo
                go_wp2_with fail
                go_meet
                refine ⟨t.args.zip l, HPP.out, HK00.out, Sl.of_own HPO.out (by have := HLen.out; simp; omega) (F := F) ?_ (fun b hb => .inl hb) (fun b hb => .inr ?_), HKW.out.trans HKR.out (fun i h1 h2 => by omega)⟩
                · have h := hcs.out _ HKR.out
                  rw [List.take_of_length_le (by have := HLen.out; simp; omega)] at h
                  exact h
                · have := HPO.out.lt b hb; omega
          · rw [if_pos hlen] at hpp1
            have hr := HR.out
            rw [if_neg HK00.out, hpp1] at hr
            simp only [Option.some.injEq, Prod.mk.injEq] at hr
            obtain ⟨rfl, rfl⟩ := hr
            have hlb : ((l.length : Int) != (t.args.length : Int)) = true := by rw [bne_iff_ne]; omega
            clear hpp1 hlen
            go_wp2_with fail
            go_ret
            exact ⟨rfl, (HK0.out.mono (fun _ _ h => h.elim)).trans HKW.out (fun _ _ h => h.elim), HS.out.same HKW.out⟩
        · have hkw : Keeps (fun _ => False) W0 w1 := Keeps.of_below hbw
          have hr := HR.out
          have hpp1 := hpp.out
          rw [hl] at hpp1
          dsimp only at hpp1
          rw [if_neg HK00.out, hpp1] at hr
          simp only [Option.some.injEq, Prod.mk.injEq] at hr
          obtain ⟨rfl, rfl⟩ := hr
          have HKW := Lib.hid hkw
          clear hkw hbw hl hpp hpp1
          go_wp2_with fail
          go_ret
          exact ⟨rfl, (HK0.out.mono (fun _ _ h => h.elim)).trans HKW.out (fun _ _ h => h.elim), HS.out.same HKW.out⟩
      · have hb1 : (t.kind == 1) = false := by rw [beq_eq_false_iff_ne]; exact hk1
        by_cases hk2 : t.kind = 2
        · have hb2 : (t.kind == 2) = true := beq_iff_eq.2 hk2
          have hal := HSH.out.2.1 hk2
          obtain ⟨x, y, z, hx⟩ : ∃ x y z, t.args = [x, y, z] := len_three hal
          have hps : Hid (partsP datas first t slot = .ok [(x, 0), (y, 2), (z, 0)]) := by
            show _ = _
            unfold partsP
            rw [if_neg hk1, if_pos hk2, hx]
          obtain ⟨g, off, xv, hadr0, hFg, ea0, ea1, ea2, ea3, hTx⟩ := tyD.get HT.out.args (i := 0) (by omega)
          obtain rfl := hadr0
          have hx0 : t.args[0]'(by omega) = x := by simp [hx]
          rw [hx0] at ea0 ea1 ea2 hTx
          rw [Nat.zero_mul, Nat.add_zero] at ea0 ea1 ea2 ea3
          have HTx := Lib.hid hTx
          obtain ⟨XA, xc, rfl, _⟩ := hTx.form
          obtain ⟨g1, off1, yv, hadr1, _, eb0, eb1, eb2, eb3, hTy⟩ := tyD.get HT.out.args (i := 1) (by omega)
          simp only [Option.some.injEq, Addr.mk.injEq, and_true] at hadr1
          obtain ⟨rfl, rfl⟩ := hadr1
          have hx1 : t.args[1]'(by omega) = y := by simp [hx]
          rw [hx1] at eb0 eb1 eb2 hTy
          rw [Nat.one_mul] at eb0 eb1 eb2 eb3
          have HTy := Lib.hid hTy
          obtain ⟨YA, yc, rfl, _⟩ := hTy.form
          obtain ⟨g2, off2, zv, hadr2, _, ec0, ec1, ec2, ec3, hTz⟩ := tyD.get HT.out.args (i := 2) (by omega)
          simp only [Option.some.injEq, Addr.mk.injEq, and_true] at hadr2
          obtain ⟨rfl, rfl⟩ := hadr2
          have hx2 : t.args[2]'(by omega) = z := by simp [hx]
          rw [hx2] at ec0 ec1 ec2 hTz
          rw [show 2 * 4 = 8 from rfl] at ec0 ec1 ec2 ec3
          have HTz := Lib.hid hTz
          obtain ⟨ZA, zc, rfl, _⟩ := hTz.form
          rw [hal] at d3
          have hgl := block_lt_of_cell ea0
          have hQ : Hid (∀ X, Keeps (fun _ => False) W0 X → (X.cell? ⟨b0, 3, none⟩ = some (.slice (some ⟨g, off, none⟩) 3 c2) ∧ X.cell? ⟨g, off, none⟩ = some (.int .i64 x.kind) ∧ X.cell? ⟨g, off + 1, none⟩ = some (.string x.name) ∧ X.cell? ⟨g, off + 2, none⟩ = some (.int .i64 x.var) ∧ X.cell? ⟨g, off + 3, none⟩ = some (.slice XA x.args.length xc) ∧ X.cell? ⟨g, off + 4, none⟩ = some (.int .i64 y.kind) ∧ X.cell? ⟨g, off + 4 + 1, none⟩ = some (.string y.name) ∧ X.cell? ⟨g, off + 4 + 2, none⟩ = some (.int .i64 y.var) ∧ X.cell? ⟨g, off + 4 + 3, none⟩ = some (.slice YA y.args.length yc) ∧ X.cell? ⟨g, off + 8, none⟩ = some (.int .i64 z.kind) ∧ X.cell? ⟨g, off + 8 + 1, none⟩ = some (.string z.name) ∧ X.cell? ⟨g, off + 8 + 2, none⟩ = some (.int .i64 z.var) ∧ X.cell? ⟨g, off + 8 + 3, none⟩ = some (.slice ZA z.args.length zc))) := fun X hk => ⟨(hk.cell d3 (fun h => h)), (hk.cell ea0 (fun h => h)), (hk.cell ea1 (fun h => h)), (hk.cell ea2 (fun h => h)), (hk.cell ea3 (fun h => h)), (hk.cell eb0 (fun h => h)), (hk.cell eb1 (fun h => h)), (hk.cell eb2 (fun h => h)), (hk.cell eb3 (fun h => h)), (hk.cell ec0 (fun h => h)), (hk.cell ec1 (fun h => h)), (hk.cell ec2 (fun h => h)), (hk.cell ec3 (fun h => h))⟩
          clear hx hal hk1 hk2 hx0 hTx hx1 hTy hx2 hTz
          go_upto_region 19 with fail
          go_region_held3 (fun X => X.cell? ⟨b0, 3, none⟩ = some (.slice (some ⟨g, off, none⟩) 3 c2) ∧ X.cell? ⟨g, off, none⟩ = some (.int .i64 x.kind) ∧ X.cell? ⟨g, off + 1, none⟩ = some (.string x.name) ∧ X.cell? ⟨g, off + 2, none⟩ = some (.int .i64 x.var) ∧ X.cell? ⟨g, off + 3, none⟩ = some (.slice XA x.args.length xc) ∧ X.cell? ⟨g, off + 4, none⟩ = some (.int .i64 y.kind) ∧ X.cell? ⟨g, off + 4 + 1, none⟩ = some (.string y.name) ∧ X.cell? ⟨g, off + 4 + 2, none⟩ = some (.int .i64 y.var) ∧ X.cell? ⟨g, off + 4 + 3, none⟩ = some (.slice YA y.args.length yc) ∧ X.cell? ⟨g, off + 8, none⟩ = some (.int .i64 z.kind) ∧ X.cell? ⟨g, off + 8 + 1, none⟩ = some (.string z.name) ∧ X.cell? ⟨g, off + 8 + 2, none⟩ = some (.int .i64 z.var) ∧ X.cell? ⟨g, off + 8 + 3, none⟩ = some (.slice ZA z.args.length zc))
            (exact hQ.out _ (by repeat (first | exact Keeps.refl _ _ | refine Keeps.drewN ?_ _ | refine Keeps.drew ?_ | refine Keeps.alloc ?_ _)))
            (fail)
          go_wp2_with fail
          go_meet
          exact ⟨_, hps.out, HK00.out, (parts_made [(x, 0), (y, 2), (z, 0)] hbl (fun w hk => part_cons (HTx.out.keeps hk (fun _ _ h => h)) (by omega) (part_cons (HTy.out.keeps hk (fun _ _ h => h)) (by omega) (part_cons (HTz.out.keeps hk (fun _ _ h => h)) (by omega) part_nil))) rfl (by simp)).keeps ((Keeps.refl _ _).drew) (fun _ _ h => h), ((Keeps.refl _ _).alloc _).drew⟩
        · have hb2 : (t.kind == 2) = false := by rw [beq_eq_false_iff_ne]; exact hk2
          by_cases hk3 : t.kind = 3
          · have hb3 : (t.kind == 3) = true := beq_iff_eq.2 hk3
            have hal := HSH.out.2.2.1 hk3
            obtain ⟨x, hx⟩ : ∃ x, t.args = [x] := List.length_eq_one_iff.1 hal
            have hps : Hid (partsP datas first t slot = .ok [(x, 1)]) := by
              show _ = _
              unfold partsP
              rw [if_neg hk1, if_neg hk2, if_pos hk3, hx]
            obtain ⟨g, off, xv, hadr, hFg, ea0, ea1, ea2, ea3, hTx⟩ := tyD.get HT.out.args (i := 0) (by omega)
            obtain rfl := hadr
            have hx0 : t.args[0]'(by omega) = x := by simp [hx]
            rw [hx0] at ea0 ea1 ea2 hTx
            rw [Nat.zero_mul, Nat.add_zero] at ea0 ea1 ea2 ea3
            rw [hal] at d3
            have HTx := Lib.hid hTx
            have hgl := block_lt_of_cell ea0
            obtain ⟨XA, xc, rfl, _⟩ := hTx.form
            clear hx hx0 hk1 hk2 hk3 hTx hal
            go_wp2_with fail
            go_meet
            exact ⟨[(x, 1)], hps.out, HK00.out, parts_made [(x, 1)] hbl (fun w hk => part_cons (HTx.out.keeps hk (fun _ _ h => h)) (by omega) part_nil) rfl (by simp), (Keeps.refl _ _).alloc _⟩
          · have hb3 : (t.kind == 3) = false := by rw [beq_eq_false_iff_ne]; exact hk3
            by_cases hk5 : t.kind = 5
            · have hb5 : (t.kind == 5) = true := beq_iff_eq.2 hk5
              have hal := HSH.out.2.2.2 hk5
              obtain ⟨x, y, hx⟩ : ∃ x y, t.args = [x, y] := len_two hal
              have hps : Hid (partsP datas first t slot = .ok [(x, 0), (y, slot)]) := by
                show _ = _
                unfold partsP
                rw [if_neg hk1, if_neg hk2, if_neg hk3, if_pos hk5, hx]
              obtain ⟨g, off, xv, hadr0, hFg, ea0, ea1, ea2, ea3, hTx⟩ := tyD.get HT.out.args (i := 0) (by omega)
              obtain rfl := hadr0
              have hx0 : t.args[0]'(by omega) = x := by simp [hx]
              rw [hx0] at ea0 ea1 ea2 hTx
              rw [Nat.zero_mul, Nat.add_zero] at ea0 ea1 ea2 ea3
              have HTx := Lib.hid hTx
              obtain ⟨XA, xc, rfl, _⟩ := hTx.form
              obtain ⟨g1, off1, yv, hadr1, _, eb0, eb1, eb2, eb3, hTy⟩ := tyD.get HT.out.args (i := 1) (by omega)
              simp only [Option.some.injEq, Addr.mk.injEq, and_true] at hadr1
              obtain ⟨rfl, rfl⟩ := hadr1
              have hx1 : t.args[1]'(by omega) = y := by simp [hx]
              rw [hx1] at eb0 eb1 eb2 hTy
              rw [Nat.one_mul] at eb0 eb1 eb2 eb3
              have HTy := Lib.hid hTy
              obtain ⟨YA, yc, rfl, _⟩ := hTy.form
              rw [hal] at d3
              have hgl := block_lt_of_cell ea0
              have hQ : Hid (∀ X, Keeps (fun _ => False) W0 X → (X.cell? ⟨b0, 3, none⟩ = some (.slice (some ⟨g, off, none⟩) 2 c2) ∧ X.cell? ⟨g, off, none⟩ = some (.int .i64 x.kind) ∧ X.cell? ⟨g, off + 1, none⟩ = some (.string x.name) ∧ X.cell? ⟨g, off + 2, none⟩ = some (.int .i64 x.var) ∧ X.cell? ⟨g, off + 3, none⟩ = some (.slice XA x.args.length xc) ∧ X.cell? ⟨g, off + 4, none⟩ = some (.int .i64 y.kind) ∧ X.cell? ⟨g, off + 4 + 1, none⟩ = some (.string y.name) ∧ X.cell? ⟨g, off + 4 + 2, none⟩ = some (.int .i64 y.var) ∧ X.cell? ⟨g, off + 4 + 3, none⟩ = some (.slice YA y.args.length yc))) := fun X hk => ⟨(hk.cell d3 (fun h => h)), (hk.cell ea0 (fun h => h)), (hk.cell ea1 (fun h => h)), (hk.cell ea2 (fun h => h)), (hk.cell ea3 (fun h => h)), (hk.cell eb0 (fun h => h)), (hk.cell eb1 (fun h => h)), (hk.cell eb2 (fun h => h)), (hk.cell eb3 (fun h => h))⟩
              clear hx hal hk1 hk2 hk3 hk5 hx0 hTx hx1 hTy
              go_upto_region 23 with fail
              go_region_held3 (fun X => X.cell? ⟨b0, 3, none⟩ = some (.slice (some ⟨g, off, none⟩) 2 c2) ∧ X.cell? ⟨g, off, none⟩ = some (.int .i64 x.kind) ∧ X.cell? ⟨g, off + 1, none⟩ = some (.string x.name) ∧ X.cell? ⟨g, off + 2, none⟩ = some (.int .i64 x.var) ∧ X.cell? ⟨g, off + 3, none⟩ = some (.slice XA x.args.length xc) ∧ X.cell? ⟨g, off + 4, none⟩ = some (.int .i64 y.kind) ∧ X.cell? ⟨g, off + 4 + 1, none⟩ = some (.string y.name) ∧ X.cell? ⟨g, off + 4 + 2, none⟩ = some (.int .i64 y.var) ∧ X.cell? ⟨g, off + 4 + 3, none⟩ = some (.slice YA y.args.length yc))
                (exact hQ.out _ (by repeat (first | exact Keeps.refl _ _ | refine Keeps.drewN ?_ _ | refine Keeps.drew ?_ | refine Keeps.alloc ?_ _)))
                (fail)
              go_wp2_with fail
              go_meet
              exact ⟨_, hps.out, HK00.out, (parts_made [(x, 0), (y, slot)] hbl (fun w hk => part_cons (HTx.out.keeps hk (fun _ _ h => h)) (by omega) (part_cons (HTy.out.keeps hk (fun _ _ h => h)) (by omega) part_nil)) rfl (by simp)).keeps ((Keeps.refl _ _).drew) (fun _ _ h => h), ((Keeps.refl _ _).alloc _).drew⟩
            · have hb5 : (t.kind == 5) = false := by rw [beq_eq_false_iff_ne]; exact hk5
              have hps : Hid (partsP datas first t slot = .ok []) := by
                show _ = _
                unfold partsP
                rw [if_neg hk1, if_neg hk2, if_neg hk3, if_neg hk5]
              clear hk1 hk2 hk3 hk5
              go_wp2_with fail
              go_meet
              exact ⟨[], hps.out, HK00.out, Sl.nil_, Keeps.refl _ _⟩
  case rest =>
    obtain ⟨wa, rfl⟩ : ∃ wa, wa = wc := ⟨_, rfl⟩
    obtain ⟨ps, hps, hk0, hpsl, hkc⟩ := hcut
    obtain ⟨PA, pc, rfl, hpl1, hpl2, _⟩ := hpsl.form
    have hplm : ps.length ≤ 9223372036854775807 := by unfold maxLen at hpl2; omega
    have HSC := Lib.hid (HS.out.same hkc)
    have HPs := Lib.hid hpsl
    have HKc := Lib.hid hkc
    have hzc := hkc.size
    have e0 := hkc.cell d0 (fun h => h)
    have HR2 : Hid ((if (headP t slot (up, kind)).1 ≠ 0 then some (headP t slot (up, kind)) else wantL (wantP datas first vars q) ps (headP t slot (up, kind)).2) = some (r, s')) := by
      have h := HR.out
      rw [if_neg hk0.out, hps.out] at h
      exact h
    clear hpsl hkc d0 d2 d3 HR
    go_upto_if 113 with fail
    go_cut [] (fun wd => ∃ sh : St, Hid (headP t slot (up, kind) = (0, sh)) ∧ Sv wd B p [] datas first sh.1 sh.2 kv dv fv uv cv ∧ Keeps (Two uv cv) wa wd)
    case first =>
      have h0l : 0 < up.length := by omega
      by_cases hk3 : t.kind ≤ 3
      · have hjc := join_any HSC.out HI.out.uf HI.out.len slot 0 hsl h0l
        rw [show ((0 : Nat) : Int) = 0 from rfl] at hjc
        have HC := Lib.hid hjc
        clear hjc
        have HH : Hid (headP t slot (up, kind) = (joinE up kind slot 0, joinU up kind slot 0, joinK up kind slot 0)) := by show _ = _; unfold headP; rw [if_pos hk3]
        go_wp2_with fail
        with_reducible refine HC.out.mono ?_
        rintro e w2 ⟨rfl, hk2, hS2⟩
        have HSW := Lib.hid hS2
        have HKW := Lib.hid hk2
        clear hk2 hS2
        obtain ⟨je, hje⟩ : ∃ je, joinE up kind slot 0 = je := ⟨_, rfl⟩
        rw [hje] at HH ⊢
        clear hje
        by_cases he : je = 0
        · subst he
          go_wp2_with fail
          go_meet
          exact ⟨_, HH.out, HSW.out, HKW.out⟩
        · have hr := HR2.out
          rw [HH.out, if_pos he] at hr
          simp only [Option.some.injEq, Prod.mk.injEq] at hr
          obtain ⟨rfl, rfl⟩ := hr
          have hne : (je != 0) = true := by rw [bne_iff_ne]; exact he
          clear he
          go_wp2_with fail
          go_ret
          exact ⟨rfl, ((HK0.out.mono (fun _ _ h => h.elim)).trans HKc.out (fun _ _ h => h.elim)).trans HKW.out (fun _ _ h => h), HSW.out⟩
      · obtain ⟨n1, hn1⟩ := HI.out.uf.rt hsl
        have hri := HI.out.uf.rt_lt hsl
        have HR1 := Lib.hid (root_any HSC.out n1 slot _ hn1)
        have hil := HI.out.len
        dsimp only at hri HR1 hil
        have HH : Hid (headP t slot (up, kind) = if kOf kind (rt up slot) = 0 then (9, (up, kind)) else if kOf kind (rt up slot) = -1 then (0, up, kind.set (rt up slot) 1) else (0, (up, kind))) := by show _ = _; unfold headP; rw [if_neg hk3]
        obtain ⟨ri, hrie⟩ : ∃ r, rt up slot = r := ⟨_, rfl⟩
        rw [hrie] at hri HR1 HH
        have hca : kind[ri]? = some (kOf kind ri) := by
          unfold kOf
          rw [List.getD_eq_getElem?_getD, List.getElem?_eq_getElem (by omega)]; rfl
        obtain ⟨gc, cc, hcv, ca, hgcl, hgc1, fa⟩ := own_cell HSC.out.co (kintz_get hca) (by simp)
        subst hcv
        have c4 := HSC.out.blk.cell (i := 4) rfl
        obtain ⟨a, ha⟩ : ∃ a, kOf kind ri = a := ⟨_, rfl⟩
        rw [ha] at ca HH
        have HKS := Lib.hid (HSC.out.kset ri 1)
        have r0 : (0 : Int) ≤ (ri : Int) := by omega
        have r1 : (ri : Int) < (kind.length : Int) := by omega
        clear hn1 hrie hca ha hil
        by_cases ha0 : a = 0
        · have hb : (a == 0) = true := beq_iff_eq.2 ha0
          have hr := HR2.out
          rw [HH.out, if_pos ha0, if_pos (fun h => by cases h)] at hr
          simp only [Option.some.injEq, Prod.mk.injEq] at hr
          obtain ⟨rfl, rfl⟩ := hr
          clear ha0
          go_wp2_with fail
          with_reducible refine HR1.out.mono ?_
          rintro e w2 ⟨rfl, rfl⟩
          go_wp2_with fail
          go_ret
          exact ⟨rfl, (HK0.out.mono (fun _ _ h => h.elim)).trans HKc.out (fun _ _ h => h.elim), HSC.out⟩
        · have hb : (a == 0) = false := by rw [beq_eq_false_iff_ne]; exact ha0
          rw [if_neg ha0] at HH
          by_cases ha1 : a = -1
          · have hb1 : (a == -1) = true := beq_iff_eq.2 ha1
            rw [if_pos ha1] at HH
            clear ha0 ha1
            go_wp2_with fail
            with_reducible refine HR1.out.mono ?_
            rintro e w2 ⟨rfl, rfl⟩
            go_wp2_with fail
            go_meet
            exact ⟨_, HH.out, HKS.out.1, HKS.out.2⟩
          · have hb1 : (a == -1) = false := by rw [beq_eq_false_iff_ne]; exact ha1
            rw [if_neg ha1] at HH
            clear ha0 ha1
            go_wp2_with fail
            with_reducible refine HR1.out.mono ?_
            rintro e w2 ⟨rfl, rfl⟩
            go_wp2_with fail
            go_meet
            exact ⟨_, HH.out, HSC.out, Keeps.refl _ _⟩
    case rest =>
      obtain ⟨wb, rfl⟩ : ∃ wb, wb = wc := ⟨_, rfl⟩
      obtain ⟨sh, hshd, hSd, hkd⟩ := hcut
      have hinv : Kinv sh ∧ sh.1.length = up.length := by
        have h := headP_inv (t := t) HI.out hsl (by dsimp only; omega)
        rw [hshd.out] at h
        exact h
      have HR3 : Hid (wantL (wantP datas first vars q) ps sh = some (r, s')) := by
        have h := HR2.out
        rw [hshd.out, if_neg (fun h => h rfl)] at h
        exact h
      have HPL := Lib.hid (partsP_lt HSL.out h3 hsl hps.out)
      have HINV := Lib.hid hinv
      have HSD := Lib.hid hSd
      have HKD := Lib.hid hkd
      clear HR2 hinv hSd hkd
      go_wp2_with fail
      go_loopw [17, 18, 147] (fun _ _ i wr => ∃ (j : Nat) (s1 : St), j ≤ ps.length ∧ i = .int .i64 j ∧ Sv wr B p [] datas first s1.1 s1.2 kv dv fv uv cv ∧ Kinv s1 ∧ s1.1.length = up.length ∧ Keeps (Two uv cv) wa wr ∧ Hid (wantL (wantP datas first vars q) (ps.drop j) s1 = some (r, s'))) (fun _ _ i _ => ps.length - (intOf i).toNat)
      case atStart => exact ⟨0, sh, Nat.zero_le _, rfl, HSD.out, HINV.out.1, HINV.out.2, HKD.out, HR3.out⟩
      case round =>
        obtain ⟨j, s1, hj, rfl, hS1, hI1, hl1, hkr, hw⟩ := hrel
        by_cases hlt : j < ps.length
        · have hps1 := HPs.out.keeps hkr (fun i hi h => by
            have h1 := HTW.out i h
            rcases hi with hi | hi
            · exact (HF0.out i hi).2 h
            · omega)
          obtain ⟨g, off, v, hadr, hFg, a0, a1, a2, a3, a4, hTy⟩ := partD.get hps1 hlt
          obtain rfl := hadr
          have hwj := hw.out
          rw [List.drop_eq_getElem_cons hlt, wantL] at hwj
          have hxl := HPL.out _ (List.getElem_mem hlt)
          obtain ⟨x, hx⟩ : ∃ x, ps[j] = x := ⟨_, rfl⟩
          rw [hx] at a0 a1 a2 a4 hTy hwj hxl
          obtain ⟨XA, xc, rfl, _⟩ := hTy.form
          obtain ⟨b1, hb1⟩ : ∃ b1, wr.heap.size = b1 := ⟨_, rfl⟩
          obtain ⟨W1, hW1⟩ : ∃ W1, wr.alloc (.cells #[.int .i64 x.1.kind, .string x.1.name, .int .i64 x.1.var, .slice XA x.1.args.length xc, .int .i64 (x.2 : Int)] 107) = W1 := ⟨_, rfl⟩
          have hk1 : Keeps (fun _ => False) wr W1 := by rw [← hW1]; exact (Keeps.refl _ _).alloc _
          have hz1 : b1 < W1.heap.size := by rw [← hW1, ← hb1]; simp
          have hkz := hkr.size
          have hbk : Blk W1 b1 107 [.int .i64 x.1.kind, .string x.1.name, .int .i64 x.1.var, .slice XA x.1.args.length xc, .int .i64 (x.2 : Int)] := by
            rw [← hW1, ← hb1]; exact Blk.new wr _ [_, _, _, _, _]
          have k0 := hbk.cell (i := 0) rfl
          have k1 := hbk.cell (i := 1) rfl
          have k2 := hbk.cell (i := 2) rfl
          have k3 := hbk.cell (i := 3) rfl
          have k4 := hbk.cell (i := 4) rfl
          have hvo1 := own_keeps (own_keeps HVO.out HKc.out (fun _ _ h => h)) hkr (fun i hi => HVD.out i hi)
          cases hf : wantP datas first vars q x.1 x.2 s1 with
          | none => rw [hf] at hwj; cases hwj
          | some pr =>
            obtain ⟨e1, s2⟩ := pr
            rw [hf] at hwj
            dsimp only at hwj
            have hin := wantP_inv (n := up.length) HSL.out h3 HVS.out q x.1 x.2 s1 e1 s2 hI1 hl1 hxl hf
            have HC := Lib.hid (HIH.out W1 B p (fun b => F b ∨ (b0 < b ∧ b < wa.heap.size)) kv dv fv uv cv _ _ x.1 x.2 s1 e1 s2 (hS1.same hk1) (by omega) hI1 (by rw [hl1]; exact HSL.out) (by omega) (by omega) (by omega) (own_keeps hvo1 hk1 (fun _ _ h => h)) HVD.out (by rw [hl1]; exact HVS.out)
              (fun i hi => ⟨hi.elim (fun h => by have := (HF0.out i h).1; omega) (fun h => by omega), fun h => by
                have h1 := HTW.out i h
                rcases hi with hi | hi
                · exact (HF0.out i hi).2 h
                · omega⟩) (hTy.keeps hk1 (fun _ _ h => h)) hf)
            unfold tyV at HC
            have HW1 := Lib.hid hW1
            have HB1 := Lib.hid hb1
            have HK1 := Lib.hid hk1
            have HKR := Lib.hid hkr
            have HWJ := Lib.hid hwj
            have HIN := Lib.hid hin
            have j0 : (0 : Int) ≤ (j : Int) := by omega
            have j1 : (j : Int) < (ps.length : Int) := by omega
            clear hS1 hI1 hl1 hkr hw hps1 hTy hx hb1 hW1 hk1 hbk hvo1 hf hwj hin
            go_wp2_with fail
            rw [HW1.out, HB1.out]
            with_reducible refine HC.out.mono ?_
            rintro e w2 ⟨rfl, hk2, hS2⟩
            have HKW := Lib.hid ((HKR.out.trans HK1.out (fun _ _ h => h.elim)).trans hk2 (fun _ _ h => h))
            have HSW := Lib.hid hS2
            clear hk2 hS2
            by_cases he : e1 = 0
            · have HWK := HWJ.out
              rw [if_neg (fun h => h he)] at HWK
              have HWK := Lib.hid HWK
              subst he
              go_wp2_with fail
              go_roundw
              case rel => exact ⟨j + 1, s2, by omega, by go_num, HSW.out, HIN.out.1, HIN.out.2, HKW.out, HWK.out⟩
              case measure => simp [intOf]; omega
            · have HWK := HWJ.out
              rw [if_pos he] at HWK
              simp only [Option.some.injEq, Prod.mk.injEq] at HWK
              obtain ⟨rfl, rfl⟩ := HWK
              have hne : (e1 != 0) = true := by rw [bne_iff_ne]; exact he
              clear he
              go_wp2_with fail
              go_ret
              exact ⟨rfl, ((HK0.out.mono (fun _ _ h => h.elim)).trans HKc.out (fun _ _ h => h.elim)).trans HKW.out (fun _ _ h => h), HSW.out⟩
        · obtain rfl : j = ps.length := by omega
          have j1 : ¬ (ps.length : Int) < (ps.length : Int) := by omega
          have hwj := hw.out
          rw [List.drop_length, wantL] at hwj
          simp only [Option.some.injEq, Prod.mk.injEq] at hwj
          obtain ⟨rfl, rfl⟩ := hwj
          have HS1 := Lib.hid hS1
          have HKR := Lib.hid hkr
          clear hS1 hkr hw hI1
          go_wp2_with fail
          go_ret
          exact ⟨rfl, ((HK0.out.mono (fun _ _ h => h.elim)).trans HKc.out (fun _ _ h => h.elim)).trans HKR.out (fun _ _ h => h), HS1.out⟩
theorem want_any (datas : List DataSig) (first vars : List Nat) : ∀ q, WantAt datas first vars q
  | 0 => by
    intro _ _ _ _ _ _ _ _ _ _ _ _ _ _ _ _ _ _ _ _ _ _ _ _ _ _ _ _ hr
    rw [wantP] at hr; cases hr
  | q + 1 => want_step datas first vars q (want_any datas first vars q)
end Go.Proofs.YtjofndhbpglfgaaDoor
