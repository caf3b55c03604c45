/- classes.entail. -/
import Derived.Test.YtdljlpogljjldaaDoorCSuper
import Derived.Test.YtdljlpogljjldaaDoorCInst
namespace Go.Proofs.YtdljlpogljjldaaDoor
open Go.RowKit Go.Shelf Go.Sort

theorem infoPfE : (Tryd.prog.info? 27).map (fun i => (i.zero, i.size, i.bytes)) = some (some (.agg #[.int .i64 0, .int .i64 0, .slice none 0 0]), 3, 40) := by kernel_rfl
/-- What entail is called with: classes, instances and requirements that were checked. -/
structure EnvOk (l : List ClassSig) (s : List InstSig) (hs : List Pred) : Prop where
  known : Known l
  few : l.length ≤ 4096
  inst : InstOk s
  have_ : ∀ h ∈ hs, (findC l h.cls).isSome = true ∧ h.ty.Wf ∧ nodes h.ty ≤ 4096
  hfew : hs.length ≤ 4096
theorem givenP_step (l : List ClassSig) (want : Pred) (q : Nat) (hs : List Pred) (i : Nat) (h : i < hs.length) : givenP l want q i (hs.drop i) = if sameB hs[i].ty want.ty = true then
      match superP l want.cls q hs[i].cls (.mk 0 (i : Int) []) [] with
      | none => none
      | some (some p, _) => some (some p)
      | some (none, _) => givenP l want q (i + 1) (hs.drop (i + 1))
    else givenP l want q (i + 1) (hs.drop (i + 1)) := by
  rw [List.drop_eq_getElem_cons h, givenP]
  rfl
theorem entailL_step (f : Pred → Int → Option (Pf × Int × Int)) (needs : List Pred) (j : Nat) (h : j < needs.length) (acc : List Pf) (left : Int) : entailL f (needs.drop j) acc left = match f needs[j] left with
    | none => none
    | some (p, e, left') => if e ≠ 0 then some (acc, e, left') else entailL f (needs.drop (j + 1)) (acc ++ [p]) left' := by
  rw [List.drop_eq_getElem_cons h, entailL]
  rfl
theorem entailL_left {f : Pred → Int → Option (Pf × Int × Int)} (hf : ∀ n left p left', 0 ≤ left → f n left = some (p, 0, left') → 0 ≤ left' ∧ left' ≤ left) : ∀ (needs : List Pred) (acc : List Pf) (left : Int) (subs : List Pf) (left' : Int), 0 ≤ left → entailL f needs acc left = some (subs, 0, left') → 0 ≤ left' ∧ left' ≤ left
  | [], acc, left, subs, left', h0, h => by
    simp only [entailL, Option.some.injEq, Prod.mk.injEq, true_and] at h
    omega
  | n :: r, acc, left, subs, left', h0, h => by
    rw [entailL] at h
    split at h
    · cases h
    · rename_i p e l1 h1
      split at h
      · rename_i he
        simp only [Option.some.injEq, Prod.mk.injEq] at h
        exact absurd h.2.1 he
      · rename_i he
        have he0 : e = 0 := Classical.not_not.1 he
        rw [he0] at h1
        have h2 := hf n left p l1 h0 h1
        have h3 := entailL_left hf r _ l1 subs left' h2.1 h
        omega
theorem entailP_left (l : List ClassSig) (s : List InstSig) (hs : List Pred) (k : Nat) : ∀ (q : Nat) (want : Pred) (depth left : Int) (p : Pf) (left' : Int), entailP l s hs k q want depth left = some (p, 0, left') → 0 ≤ left' ∧ left' ≤ left
  | 0, _, _, _, _, _, h => by cases h
  | q + 1, want, depth, left, p, left', h => by
    rw [entailP] at h
    split at h
    · simp at h
    · rename_i h0
      split at h
      · cases h
      · simp only [Option.some.injEq, Prod.mk.injEq] at h; omega
      · split at h
        · simp at h
        · split at h
          · cases h
          · rename_i needs _ subs e l1 h1
            split at h
            · rename_i he
              simp only [Option.some.injEq, Prod.mk.injEq] at h
              exact absurd h.2.1 he
            · rename_i he
              have he0 : e = 0 := Classical.not_not.1 he
              simp only [Option.some.injEq, Prod.mk.injEq] at h
              rw [he0] at h1
              have h2 := entailL_left (fun n left p left' _ hh => entailP_left l s hs k q n (depth + 1) left p left' hh) _ _ _ _ _ (by omega) h1
              omega
theorem instanceP_some {want : Pred} : ∀ {s : List InstSig} {i ii : Nat} {needs : List Pred}, instanceP want i s = some (ii, needs) → ∃ x ∈ s, instHit x want = true ∧ needs = needsOf x want ∧ i ≤ ii ∧ ii < i + s.length
  | [], _, _, _, h => by cases h
  | x :: s, i, ii, needs, h => by
    rw [instanceP] at h
    split at h
    · rename_i hx
      simp only [Option.some.injEq, Prod.mk.injEq] at h
      exact ⟨x, List.mem_cons_self, hx, h.2.symm, by omega, by rw [List.length_cons]; omega⟩
    · obtain ⟨y, hy, h1, h2, h3, h4⟩ := instanceP_some h
      exact ⟨y, List.mem_cons_of_mem _ hy, h1, h2, by omega, by rw [List.length_cons]; omega⟩
theorem needK_mem {p n : Pred} : ∀ {l m : List Ty}, n ∈ needK p l m → n.ty ∈ m ∧ n.cls = p.cls
  | [], _, h => by simp [needK] at h
  | _ :: _, [], h => by simp [needK] at h
  | a :: l, t :: m, h => by
    rw [needK] at h
    split at h
    · rcases List.mem_cons.1 h with rfl | h
      · exact ⟨List.mem_cons_self, rfl⟩
      · exact ⟨List.mem_cons_of_mem _ (needK_mem h).1, (needK_mem h).2⟩
    · exact ⟨List.mem_cons_of_mem _ (needK_mem h).1, (needK_mem h).2⟩
theorem needs_mem {x : InstSig} {want n : Pred} (h : n ∈ needsOf x want) : n.ty ∈ want.ty.args ∧ ∃ p ∈ x.preds, n.cls = p.cls := by
  unfold needsOf at h
  obtain ⟨p, hp, h1⟩ := List.mem_flatMap.1 h
  exact ⟨(needK_mem h1).1, p, hp, (needK_mem h1).2⟩
def pfCells (u : Pf × Value) : List Value := [.int .i64 u.1.kind, .int .i64 u.1.num, u.2]
theorem pf_rp {w : World} {F : Nat → Prop} : ∀ {U : List (Pf × Value)}, (∀ u ∈ U, PfC w F u.1 u.2) → RpAll w F ((U.map Prod.fst).map pfD) (U.flatMap pfCells)
  | [], _ => by simp [RpAll]
  | u :: U, h => by
    simp only [List.map_cons, rpAll_cons, List.flatMap_cons]
    exact ⟨_, _, rfl, pfD.rp.2 ⟨u.2, rfl, h u List.mem_cons_self⟩, pf_rp (fun q hq => h q (List.mem_cons_of_mem _ hq))⟩
/-- At the head of entail's second loop. -/
structure Ev (W1 : World) (b21 bl ii : Nat) (V : List (Pf × Value)) (sv : Value) (lj : Int) (wr : World) : Prop where
  box : Blk wr b21 27 [.int .i64 2, .int .i64 (ii : Int), sv]
  own : wr.ownsRow (b21 + 1) 27 3 sv V.length (V.flatMap pfCells)
  each : ∀ u ∈ V, PfC wr (fun b => (b21 + 1 ≤ b ∧ b < wr.heap.size) ∧ ¬ sv.ownBlock = some b) u.1 u.2
  left : Blk wr bl 3 [.int .i64 lj]
  keeps : Keeps (fun i => i = bl ∨ b21 ≤ i) W1 wr
/-- One more proof. -/
theorem ev_next {W1 wx W23 w6 w7 w8 : World} {b21 bl ii : Nat} {V : List (Pf × Value)} {sv : Value} {lj ln : Int} {pn : Pf} {Ap : Option Addr} {cp g1 cap1 : Nat}
    (h : Ev W1 b21 bl ii V sv lj wx) (hbl : bl < b21) (hk23 : Keeps (fun _ => False) wx W23) (hl6 : Blk w6 bl 3 [.int .i64 ln]) (hk6 : Keeps (· = bl) W23 w6) (hp : PfC w6 (fun b => W23.heap.size ≤ b ∧ b < w6.heap.size) pn (.slice Ap pn.subs.length cp))
    (hk7 : Keeps (fun i => sv.ownBlock = some i) w6 w7) (hown : w7.ownsRow (b21 + 1) 27 3 (.slice (some ⟨g1, 0, none⟩) (V.length + 1) cap1) (V.length + 1) (V.flatMap pfCells ++ [.int .i64 pn.kind, .int .i64 pn.num, .slice Ap pn.subs.length cp]))
    (hat : sv.ownBlock = some g1 ∨ w6.heap.size ≤ g1) (hw8 : w7.setCell ⟨b21, 2, none⟩ (.slice (some ⟨g1, 0, none⟩) (V.length + 1) cap1) = w8) :
    Ev W1 b21 bl ii (V ++ [(pn, .slice Ap pn.subs.length cp)]) (.slice (some ⟨g1, 0, none⟩) (V.length + 1) cap1) ln w8 := by
  have hul : ∀ i, sv.ownBlock = some i → b21 + 1 ≤ i ∧ i < wx.heap.size := fun i hi => h.own.lt i hi
  have hg1 : b21 + 1 ≤ g1 := (hown.lt g1 rfl).1
  have hk8 : Keeps (· = b21) w7 w8 := by rw [← hw8]; exact (Keeps.refl (· = b21) w7).setCell (p := ⟨b21, 2, none⟩) (fun _ => rfl) _
  have hbx := h.box.lt
  have hs23 := hk23.size
  have hs6 := hk6.size
  have hs7 := hk7.size
  have hs8 := hk8.size
  have hKx : Keeps (fun i => i = bl ∨ b21 ≤ i) wx w8 := (((hk23.mono (Y := fun i => i = bl ∨ b21 ≤ i) (fun _ _ h => h.elim)).trans hk6 (fun i _ h => .inl h)).trans hk7 (fun i _ h => .inr (by have := (hul i h).1; omega))).trans hk8 (fun i _ h => .inr (by have h2 : i = b21 := h; omega))
  refine ⟨?_, ?_, fun u hu => ?_, ?_, h.keeps.trans hKx (fun _ _ h => h)⟩
  · have h1 := ((h.box.keeps hk23 (fun h => h)).keeps hk6 (by omega)).keeps hk7 (fun hx => by have := (hul _ hx).1; omega)
    rw [← hw8]; exact h1.set_ 2 _
  · rw [List.length_append, List.flatMap_append]
    have h1 := own_keeps hown hk8 (fun i hi e => by
      have e2 : g1 = i := by simpa [Value.ownBlock] using hi
      have e3 : i = b21 := e
      omega)
    simpa [pfCells] using h1
  · rcases List.mem_append.1 hu with hu | hu
    · have h0 := h.each u hu
      refine ((((h0.keeps hk23 (fun _ _ h => h)).keeps hk6 (fun i hi e => by have := hi.1.1; have e3 : i = bl := e; omega)).keeps hk7 (fun i hi => hi.2)).keeps hk8 (fun i hi e => by have := hi.1.1; have e3 : i = b21 := e; omega)).mono (fun b hb => ⟨⟨hb.1.1, by have := hb.1.2; omega⟩, fun hx => ?_⟩)
      have e2 : g1 = b := by simpa [Value.ownBlock] using hx
      rcases hat with h2 | h2
      · exact hb.2 (by rw [h2, e2])
      · have := hb.1.2; omega
    · rw [List.mem_singleton.1 hu]
      refine ((hp.keeps hk7 (fun i hi hx => by have := (hul i hx).2; omega)).keeps hk8 (fun i hi e => by have e3 : i = b21 := e; omega)).mono (fun b hb => ⟨⟨by omega, by omega⟩, fun hx => ?_⟩)
      have e2 : g1 = b := by simpa [Value.ownBlock] using hx
      rcases hat with h2 | h2
      · have := (hul _ h2).2; omega
      · omega
  · exact (hl6.keeps hk7 (fun hx => by have := (hul _ hx).1; omega)).keeps hk8 (by omega)
/-- What entail leaves and answers. -/
def EntPost (bl : Nat) (W : World) (p : Pf) (r left : Int) (e : Ending) (w' : World) : Prop :=
  Blk w' bl 3 [.int .i64 left] ∧ Keeps (· = bl) W w' ∧ ∃ A c, e = .returned (.tuple #[.agg #[.int .i64 p.kind, .int .i64 p.num, .slice A p.subs.length c], .int .i64 r]) ∧ PfC w' (fun b => W.heap.size ≤ b ∧ b < w'.heap.size) p (.slice A p.subs.length c)
def EntAt (l : List ClassSig) (s : List InstSig) (hs : List Pred) (k q : Nat) : Prop := ∀ (W : World) (F G : Nat → Prop) (vl vi vh : Value) (A : Option Addr) (c : Nat) (want : Pred) (depth left : Int) (bl : Nat) (p : Pf) (r left' : Int),
  Sl W F ClassSig.d l vl → Sl W F InstSig.d s vi → Sl W F Pred.d hs vh → (∀ b, F b → b < W.heap.size ∧ b ≠ bl) → TyC W G want.ty (.slice A want.ty.args.length c) → (∀ b, G b → b < W.heap.size ∧ b ≠ bl) → want.ty.Wf → nodes want.ty ≤ 4096 → want.cls.size ≤ maxLen →
  Blk W bl 3 [.int .i64 left] → 0 ≤ left → left ≤ 4096 → 0 ≤ depth → depth ≤ 401 → entailP l s hs k q want depth left = some (p, r, left') →
  Calls Tryd.prog 20 #[vl, vi, vh, .agg #[.string want.cls, .int .i64 want.ty.kind, .string want.ty.name, .int .i64 want.ty.var, .slice A want.ty.args.length c], .int .i64 depth, .pointer (some ⟨bl, 0, none⟩)] W (EntPost bl W p r left')
set_option maxRecDepth 100000 in
set_option maxHeartbeats 16000000 in
theorem entail_step (l : List ClassSig) (s : List InstSig) (hs : List Pred) (hE : EnvOk l s hs) (k q : Nat) (ih : EntAt l s hs k q) : EntAt l s hs k (q + 1) := by
  intro W F G vl vi vh A c want depth left bl p r left' hvl hvi hvh hF hT hG hwf hnd hws hbl hl0 hl1 hd0 hd1 hr
  obtain ⟨i0, hi0, hz0, hz1, hz2⟩ := info_parts infoPfE
  obtain ⟨Ah, ch, rfl, hhc, hhm, _⟩ := hvh.form
  have hh63 : (hs.length : Int) ≤ 9223372036854775807 := by unfold maxLen at hhm; omega
  obtain ⟨b9, hb9⟩ : ∃ b9, W.heap.size = b9 := ⟨_, rfl⟩
  obtain ⟨W0, hW0⟩ : ∃ W0, (W.alloc (.cells #[.string want.cls, .int .i64 want.ty.kind, .string want.ty.name, .int .i64 want.ty.var, .slice A want.ty.args.length c] 35)).alloc (.cells #[.int .i64 0, .int .i64 0, .slice none 0 0] 27) = W0 := ⟨_, rfl⟩
  have hk0 : Keeps (fun _ => False) W W0 := by rw [← hW0]; exact ((Keeps.refl _ _).alloc _).alloc _
  have hB9 : Blk W0 b9 35 [.string want.cls, .int .i64 want.ty.kind, .string want.ty.name, .int .i64 want.ty.var, .slice A want.ty.args.length c] := by
    rw [← hW0, ← hb9]; exact (Blk.new W _ [_, _, _, _, _]).alloc _
  have hB12 : Blk W0 (b9 + 1) 27 [.int .i64 0, .int .i64 0, .slice none 0 0] := by
    have := Blk.new (W.alloc (.cells #[.string want.cls, .int .i64 want.ty.kind, .string want.ty.name, .int .i64 want.ty.var, .slice A want.ty.args.length c] 35)) 27 [.int .i64 0, .int .i64 0, .slice none 0 0]
    rw [hW0] at this
    simpa [hb9] using this
  have hbll := hbl.lt
  have hbl0 := hbl.keeps hk0 (fun h => h)
  have l0 := hbl0.cell (i := 0) rfl
  have lf := hbl0.free 0
  obtain ⟨W1, hW1⟩ : ∃ W1, W0.setCell ⟨bl, 0, none⟩ (.int .i64 (left - 1)) = W1 := ⟨_, rfl⟩
  have hk1 : Keeps (· = bl) W0 W1 := by rw [← hW1]; exact (Keeps.refl (· = bl) W0).setCell (p := ⟨bl, 0, none⟩) (fun _ => rfl) _
  have hbl1 : Blk W1 bl 3 [.int .i64 (left - 1)] := by rw [← hW1]; exact hbl0.set_ 0 _
  have hkW1 : Keeps (· = bl) W W1 := (hk0.mono (fun _ _ h => h.elim)).trans hk1 (fun _ _ h => h)
  have hsW1 := hkW1.size
  have hz1' : W1.heap.size = b9 + 2 := by rw [← hW1, ← hW0, ← hb9]; simp
  have hB91 := hB9.keeps hk1 (by omega)
  have hB121 := hB12.keeps hk1 (by omega)
  have HFn : Hid (∀ b, F b → b ≠ bl) := fun b hb => (hF b hb).2
  have HGn : Hid (∀ b, G b → b ≠ bl) := fun b hb => (hG b hb).2
  have HF1 : Hid (∀ b, F b → b < W1.heap.size) := fun b hb => by have := (hF b hb).1; omega
  have HG1 : Hid (∀ b, G b → b < W1.heap.size) := fun b hb => by have := (hG b hb).1; omega
  have HVl := Lib.hid (hvl.keeps hkW1 (fun i hi => (hF i hi).2))
  have HVi := Lib.hid (hvi.keeps hkW1 (fun i hi => (hF i hi).2))
  have HVh := Lib.hid (hvh.keeps hkW1 (fun i hi => (hF i hi).2))
  have HT1 := Lib.hid (hT.keeps hkW1 (fun i hi => (hG i hi).2))
  have HB9 := Lib.hid hB91
  have HB12 := Lib.hid hB121
  have HBl := Lib.hid hbl1
  have HKW := Lib.hid hkW1
  have HW0 := Lib.hid hW0
  have HW1 := Lib.hid hW1
  have HBn := Lib.hid hb9
  have HZ1 := Lib.hid hz1'
  have HWf := Lib.hid hwf
  have HNd := Lib.hid hnd
  have HWs := Lib.hid hws
  have HIH := Lib.hid ih
  have HE := Lib.hid hE
  have HBL9 : Hid (bl < b9) := by show _ < _; omega
  rw [entailP] at hr
  have HR := Lib.hid hr
  clear hk0 hB9 hB12 hbl0 hW0 hk1 hbl1 hkW1 hsW1 hz1' hB91 hB121 hvl hvi hvh hT hwf hnd hws ih hE hr hW1 hb9 hbl hF hG hbll hhc hhm
  go_enter Tryd.func20, Tryd.ntmps20
  go_upto_region 1 with (fail)
  rw [HW0.out, HBn.out]
  go_upto_region 2 with (fail)
  rw [HW1.out]
  clear l0 lf
  have l1 := HBl.out.cell (i := 0) rfl
  have r0 := HB12.out.cell (i := 0) rfl
  have r1 := HB12.out.cell (i := 1) rfl
  have r2 := HB12.out.cell (i := 2) rfl
  have f0 := HB12.out.free 0
  have f1 := HB12.out.free 1
  have f2 := HB12.out.free 2
  have hl12 := HB12.out.lt
  by_cases hbad : 400 < depth ∨ left - 1 < 0
  · have hr := HR.out
    rw [if_pos hbad] at hr
    simp only [Option.some.injEq, Prod.mk.injEq] at hr
    obtain ⟨rfl, rfl, rfl⟩ := hr
    by_cases hd2 : 400 < depth
    · clear hbad
      go_wp2_with fail
      obtain ⟨hB3, hK3⟩ := three HB12.out (.int .i64 0) (.int .i64 0) (.slice none 0 0)
      exact ret_row1 Tryd.results20 rfl rfl hB3 Tryd.underlying27 (by kernel_rfl) rfl
        ⟨HBl.out.keeps hK3 (by have := HBL9.out; omega), HKW.out.trans hK3 (fun i hi h => by have h2 : i = b9 + 1 := h; have := HBn.out; omega), none, 0, rfl, ⟨by decide, by decide, Sl.nil_⟩⟩
    · have hl2 : left - 1 < 0 := hbad.resolve_left hd2
      clear hbad
      go_wp2_with fail
      obtain ⟨hB3, hK3⟩ := three HB12.out (.int .i64 0) (.int .i64 0) (.slice none 0 0)
      exact ret_row1 Tryd.results20 rfl rfl hB3 Tryd.underlying27 (by kernel_rfl) rfl
        ⟨HBl.out.keeps hK3 (by have := HBL9.out; omega), HKW.out.trans hK3 (fun i hi h => by have h2 : i = b9 + 1 := h; have := HBn.out; omega), none, 0, rfl, ⟨by decide, by decide, Sl.nil_⟩⟩
  · have HR1 := Lib.hid ((if_neg hbad).symm.trans HR.out)
    have hd2 : ¬ 400 < depth := fun h => hbad (.inl h)
    have hl2 : ¬ left - 1 < 0 := fun h => hbad (.inr h)
    clear hbad HR
    go_wp2_with fail
    clear l1 r0 r1 r2 f0 f1 f2 hl12
    go_loopw [42] (fun i wr => ∃ j : Nat, j ≤ hs.length ∧ .int .i64 (j : Int) = i ∧ Keeps (fun _ => False) W1 wr ∧ Hid (givenP l want k 0 hs = givenP l want k j (hs.drop j))) (fun i _ => hs.length - (intOf i).toNat)
    case atStart => exact ⟨0, Nat.zero_le _, rfl, Keeps.refl _ _, rfl⟩
    case round =>
      obtain ⟨j, hj, rfl, hkr, hno⟩ := hrel
      obtain ⟨wx, hwx⟩ : ∃ wx, wx = wr := ⟨_, rfl⟩
      rw [← hwx] at hkr ⊢
      clear hwx
      by_cases hlt : j < hs.length
      · have hst := givenP_step l want k hs j hlt
        obtain ⟨g, off, v1, hadr, hg, c0, c1, c2, c3, c4, hcs, hTh⟩ := Pred.get (HVh.out.keeps hkr (fun _ _ h => h)) hlt
        obtain rfl := hadr
        obtain ⟨A1, q1, rfl, _⟩ := hTh.form
        have hhv := HE.out.have_ _ (List.getElem_mem hlt)
        obtain ⟨h, hh⟩ : ∃ h, hs[j] = h := ⟨_, rfl⟩
        rw [hh] at hst c0 c1 c2 c3 c4 hcs hTh hhv
        obtain ⟨b15, hb15⟩ : ∃ b15, wx.heap.size = b15 := ⟨_, rfl⟩
        obtain ⟨W15, hW15⟩ : ∃ W15, wx.alloc (.cells #[.string h.cls, .int .i64 h.ty.kind, .string h.ty.name, .int .i64 h.ty.var, .slice A1 h.ty.args.length q1] 35) = W15 := ⟨_, rfl⟩
        have hk15 : Keeps (fun _ => False) wx W15 := by rw [← hW15]; exact (Keeps.refl _ _).alloc _
        have hB15 : Blk W15 b15 35 [.string h.cls, .int .i64 h.ty.kind, .string h.ty.name, .int .i64 h.ty.var, .slice A1 h.ty.args.length q1] := by rw [← hW15, ← hb15]; exact Blk.new wx _ [_, _, _, _, _]
        have hkW := hkr.trans hk15 (fun _ _ h => h)
        have hsW := hkW.size
        have hB9w := HB9.out.keeps hkW (fun h => h)
        have hTw := HT1.out.keeps hkW (fun _ _ h => h)
        have hThw := hTh.keeps hk15 (fun _ _ h => h)
        obtain ⟨sb, hsb⟩ : ∃ sb, sameB h.ty want.ty = sb := ⟨_, rfl⟩
        have HSame : Hid (∀ X, Keeps (fun _ => False) W15 X → Calls Tryd.prog 32 #[.agg #[.int .i64 h.ty.kind, .string h.ty.name, .int .i64 h.ty.var, .slice A1 h.ty.args.length q1], .agg #[.int .i64 want.ty.kind, .string want.ty.name, .int .i64 want.ty.var, .slice A want.ty.args.length c]] X (fun e w' => e = .returned (.bool sb) ∧ Keeps (fun _ => False) W15 w')) := fun X hk => by
          have hsx := hk.size
          refine (same_any h.ty want.ty X (fun b => b < X.heap.size) _ _ ((hThw.keeps hk (fun _ _ h => h)).mono (fun b hb => by have := HF1.out b hb; omega)) ((hTw.keeps hk (fun _ _ h => h)).mono (fun b hb => by have := HG1.out b hb; omega)) (fun _ h => h) hhv.2.1.nok HWf.out.nok (by have := hhv.2.2; omega) (by have := HNd.out; omega)).mono ?_
          rintro e w' ⟨he, hb⟩
          exact ⟨by rw [he, ← hsb]; rfl, hk.trans (Keeps.of_below (X := fun _ => False) hb) (fun _ _ h => h)⟩
        have hq : ∀ X, Keeps (fun _ => False) W15 X → Sl X F ClassSig.d l vl := fun X hk => HVl.out.keeps (hkW.trans hk (fun _ _ h => h)) (fun _ _ h => h)
        have HQV := Lib.hid hq
        have a0 := hB15.cell (i := 0) rfl
        have a1 := hB15.cell (i := 1) rfl
        have a2 := hB15.cell (i := 2) rfl
        have a3 := hB15.cell (i := 3) rfl
        have a4 := hB15.cell (i := 4) rfl
        have w0 := hB9w.cell (i := 0) rfl
        have w1 := hB9w.cell (i := 1) rfl
        have w2 := hB9w.cell (i := 2) rfl
        have w3 := hB9w.cell (i := 3) rfl
        have w4 := hB9w.cell (i := 4) rfl
        have HB15 := Lib.hid hB15
        have HB9w := Lib.hid hB9w
        have HKr := Lib.hid hkr
        have HKw := Lib.hid hkW
        have HHV := Lib.hid hhv
        have HCS := Lib.hid hcs
        have HW15 := Lib.hid hW15
        have HBn15 := Lib.hid hb15
        have hjl : (j : Int) < (hs.length : Int) := by omega
        have hj0 : (0 : Int) ≤ (j : Int) := by omega
        rw [hsb] at hst
        have HNO := Lib.hid (hno.out.trans hst)
        clear hst hno hkr hh hTh hhv hB15 hk15 hkW hB9w hTw hThw hq hcs hW15 hb15 hsb
        go_upto_region 7 with (fail)
        rw [HW15.out, HBn15.out]
        go_wp2_with fail
        with_reducible refine (HSame.out _ (Keeps.refl _ _)).mono ?_
        rintro e w16 ⟨rfl, hk16⟩
        have HK16 := Lib.hid hk16
        clear hk16 a0 a1 a2 a3 a4 w0 w1 w2 w3 w4
        cases sb
        · have HN2 : Hid (givenP l want k 0 hs = givenP l want k (j + 1) (hs.drop (j + 1))) := HNO.out.trans (if_neg (by simp))
          go_wp2_with fail
          go_roundw
          case rel => exact ⟨j + 1, by omega, by go_num, HKw.out.trans HK16.out (fun _ _ h => h), HN2.out⟩
          case measure => simp [intOf]; omega
        · have hn2 := HNO.out.trans (if_pos rfl)
          have hr2 := HR1.out
          cases hc : superP l want.cls k h.cls (.mk 0 (j : Int) []) [] with
          | none => rw [hn2, hc] at hr2; cases hr2
          | some res =>
            obtain ⟨ro, sn'⟩ := res
            rw [hc] at hn2
            obtain ⟨bs, hbs⟩ : ∃ bs, w16.heap.size = bs := ⟨_, rfl⟩
            obtain ⟨X, hX⟩ : ∃ X, w16.alloc (.cells #[.slice none 0 0] 39) = X := ⟨_, rfl⟩
            have hkX : Keeps (fun _ => False) w16 X := by rw [← hX]; exact (Keeps.refl _ _).alloc _
            have hBX : Blk X bs 39 [.slice none 0 0] := by rw [← hX, ← hbs]; exact Blk.new w16 _ [_]
            have hk1X := (HKw.out.trans HK16.out (fun _ _ h => h)).trans hkX (fun _ _ h => h)
            have hsX := hkX.size
            have hs1 := (HKw.out.trans HK16.out (fun _ _ h => h)).size
            have HSup : Hid (Calls Tryd.prog 33 #[vl, .string h.cls, .string want.cls, .agg #[.int .i64 0, .int .i64 (j : Int), .slice none 0 0], .pointer (some ⟨bs, 0, none⟩)] X (fun e w' => SuperPost bs (.slice none 0 0) (fun _ => False) X ro sn' e w' ∧ Seen l sn')) :=
              super_any l HE.out.known HE.out.few want.cls k X F (fun _ => False) vl (.slice none 0 0) none 0 h.cls (.mk 0 (j : Int) []) [] bs ro sn' (HQV.out X (HK16.out.trans hkX (fun _ _ h => h)))
                (fun b hb => ⟨by have := HF1.out b hb; omega, by have := HF1.out b hb; omega, fun h => by cases h⟩) ⟨by show (Lit.int .i64 0).wf = true; decide, wf_nat j (by omega), Sl.nil_⟩ (fun _ h => h.elim)
                ⟨hBX, World.ownsRow_nil _ _ _ _, (fun y hy => by cases hy), fun h => by cases h⟩ ⟨List.nodup_nil, fun y hy => by cases hy⟩ HHV.out.1 HCS.out hc
            have HKX := Lib.hid hk1X
            have HXn := Lib.hid hX
            have HBsn := Lib.hid hbs
            have h15 := HB15.out.keeps HK16.out (fun h => h)
            have h9 := HB9w.out.keeps HK16.out (fun h => h)
            have a0 := h15.cell (i := 0) rfl
            have w0 := h9.cell (i := 0) rfl
            have HN2 := Lib.hid hn2
            have hbs1 : W1.heap.size ≤ bs := by omega
            clear hc hr2 hn2 hkX hBX hk1X hX hbs h15 h9 hsX hs1 HNO
            go_wp2_with fail
            rw [HXn.out, HBsn.out]
            refine HSup.out.mono ?_
            rintro e w6 ⟨⟨dv6, hsv6, hdv6, hk6, (⟨pr, A6, c6, hro, rfl, hpr⟩ | ⟨hro, rfl⟩)⟩, _⟩
            · have hn3 := HN2.out
              rw [hro] at hn3
              have hr3 := HR1.out
              rw [hn3] at hr3
              simp only [Option.some.injEq, Prod.mk.injEq] at hr3
              obtain ⟨rfl, rfl, rfl⟩ := hr3
              have HK6 : Hid (Keeps (fun _ => False) W1 w6) := HKX.out.trans hk6 (fun i hi h => by
                rcases h with h | h
                · omega
                · cases h)
              have hs16 := hk6.size
              have hsX := HKX.out.size
              have HPR := Lib.hid (hpr.mono (G := fun b => W1.heap.size ≤ b ∧ b < w6.heap.size) (fun b hb => by
                rcases hb.1 with h | h
                · exact h.elim
                · exact ⟨by omega, hb.2.1⟩))
              have h12 := HB12.out.keeps HK6.out (fun h => h)
              have r0 := h12.cell (i := 0) rfl
              have r1 := h12.cell (i := 1) rfl
              have r2 := h12.cell (i := 2) rfl
              have f0 := h12.free 0
              have f1 := h12.free 1
              have f2 := h12.free 2
              have hl12 := h12.lt
              have H12 := Lib.hid h12
              clear hpr hk6 hsv6 hdv6 hro hn3 h12
              go_wp2_with fail
              obtain ⟨hB3, hK3⟩ := three H12.out (.int .i64 pr.kind) (.int .i64 pr.num) (.slice A6 pr.subs.length c6)
              have hK3a := hK3.alloc (.cells #[.int .i64 pr.kind, .int .i64 pr.num, .slice A6 pr.subs.length c6] 27)
              have hz3 := hK3a.size
              have hzW := HKW.out.size
              have hbn := HBn.out
              have hy1 := HZ1.out
              refine ret_row1 Tryd.results20 rfl rfl (hB3.alloc _) Tryd.underlying27 (by kernel_rfl) rfl
                ⟨(HBl.out.keeps HK6.out (fun h => h)).keeps hK3a (by have := HBL9.out; omega), (HKW.out.trans HK6.out (fun _ _ h => h.elim)).trans hK3a (fun i hi h => by have h2 : i = b9 + 1 := h; omega), A6, c6, rfl, (HPR.out.keeps hK3a (fun i hi h => by have h2 : i = b9 + 1 := h; omega)).mono (fun b hb => ⟨by omega, by omega⟩)⟩
            · have hn3 := HN2.out
              rw [hro] at hn3
              have HN3 : Hid (givenP l want k 0 hs = givenP l want k (j + 1) (hs.drop (j + 1))) := hn3
              have HK6 : Hid (Keeps (fun _ => False) W1 w6) := HKX.out.trans hk6 (fun i hi h => by
                rcases h with h | h
                · omega
                · cases h)
              clear hk6 hsv6 hdv6 hro hn3
              go_wp2_with fail
              go_roundw
              case rel => exact ⟨j + 1, by omega, by go_num, HK6.out.alloc _, HN3.out⟩
              case measure => simp [intOf]; omega
      · have hd : hs.drop j = [] := List.drop_eq_nil_of_le (by omega)
        have hg : givenP l want k 0 hs = some none := by rw [hno.out, hd, givenP]
        have hr2 := HR1.out
        rw [hg] at hr2
        have HR2 := Lib.hid hr2
        have hjl : ¬ (j : Int) < (hs.length : Int) := by omega
        have HKX := Lib.hid hkr
        have h9 := HB9.out.keeps hkr (fun h => h)
        have w0 := h9.cell (i := 0) rfl
        have w1 := h9.cell (i := 1) rfl
        have w2 := h9.cell (i := 2) rfl
        have w3 := h9.cell (i := 3) rfl
        have w4 := h9.cell (i := 4) rfl
        have hsx := hkr.size
        have HIn := Lib.hid (instance_any s HE.out.inst want vi F G wx A c (HVi.out.keeps hkr (fun _ _ h => h)) (fun b hb => by have := HF1.out b hb; omega) (HT1.out.keeps hkr (fun _ _ h => h)) (fun b hb => by have := HG1.out b hb; omega))
        clear hd hg hr2 hno hkr h9 HR1
        go_wp2_with fail
        with_reducible refine HIn.out.mono ?_
        rintro e w3' ⟨hk3, (⟨ii, needs, An, cn, hin, rfl, hSn⟩ | ⟨hin, rfl⟩)⟩
        · have hr3 := HR2.out
          rw [hin] at hr3
          dsimp only at hr3
          obtain ⟨x, hxs, _, hnx, _, hii⟩ := instanceP_some hin
          have hio := HE.out.inst x hxs
          have hnl : needs.length * 72 ≤ 140737488351232 := by
            rw [hnx]
            have := needs_len hio.1 want
            omega
          have hnm : ∀ n ∈ needs, n.ty.Wf ∧ nodes n.ty ≤ 4096 := fun n hn => by
            rw [hnx] at hn
            have h1 := (needs_mem hn).1
            exact ⟨HWf.out.arg h1, by have := nodes_arg h1; have := HNd.out; omega⟩
          obtain ⟨_, di, hdie, hdi, hdm, _⟩ := HVi.out.form
          have hii63 : ii ≤ 9223372036854775807 := by unfold maxLen at hdm; omega
          obtain ⟨f, hf⟩ : ∃ f : Pred → Int → Option (Pf × Int × Int), (fun n left => entailP l s hs k q n (depth + 1) left) = f := ⟨_, rfl⟩
          rw [hf] at hr3
          have hKy := HKX.out.trans hk3 (fun _ _ h => h)
          have hsy := hKy.size
          have hy1 := HZ1.out
          obtain ⟨b21, hb21⟩ : ∃ b21, w3'.heap.size = b21 := ⟨_, rfl⟩
          obtain ⟨W21, hW21⟩ : ∃ W21, w3'.alloc (.cells #[.int .i64 2, .int .i64 (ii : Int), .slice none 0 0] 27) = W21 := ⟨_, rfl⟩
          have hk21 : Keeps (fun _ => False) w3' W21 := by rw [← hW21]; exact (Keeps.refl _ _).alloc _
          have hB21 : Blk W21 b21 27 [.int .i64 2, .int .i64 (ii : Int), .slice none 0 0] := by rw [← hW21, ← hb21]; exact Blk.new w3' _ [_, _, _]
          have hbl21 : bl < b21 := by have := HBL9.out; omega
          have hb1221 : b9 + 1 < b21 := by omega
          have HEv : Hid (Ev W21 b21 bl ii [] (.slice none 0 0) (left - 1) W21) :=
            ⟨hB21, World.ownsRow_nil _ _ _ _, (fun u hu => by cases hu), (HBl.out.keeps hKy (fun h => h)).keeps hk21 (fun h => h), Keeps.refl _ _⟩
          have HSn := Lib.hid (hSn.keeps hk21 (fun _ _ h => h))
          have HSb : Hid (∀ b, ((G b ∨ wx.heap.size ≤ b) ∧ b < w3'.heap.size) → b < b21 ∧ b ≠ bl) := fun b hb => ⟨by omega, by
            rcases hb.1 with h | h
            · exact HGn.out b h
            · have := HBL9.out; omega⟩
          have HK121 := Lib.hid (hKy.trans hk21 (fun _ _ h => h))
          have HR3 := Lib.hid hr3
          have HNL := Lib.hid hnl
          have HNM := Lib.hid hnm
          have HFf := Lib.hid hf
          have HW21 := Lib.hid hW21
          have HBn21 := Lib.hid hb21
          have hnn63 : (needs.length : Int) ≤ 9223372036854775807 := by omega
          clear hin hr3 hxs hnx hio hnl hnm hdie hdi hdm hf hKy hsy hy1 hW21 hb21 hk21 hB21 hSn hk3 w0 w1 w2 w3 w4 HIn HR2 hii
          go_upto_region 16 with (fail)
          rw [HW21.out, HBn21.out]
          go_wp2_with fail
          go_loopw [81] (fun i wr => ∃ (j : Nat) (V : List (Pf × Value)) (sv : Value) (lj : Int), j ≤ needs.length ∧ .int .i64 (j : Int) = i ∧ Ev W21 b21 bl ii V sv lj wr ∧ 0 ≤ lj ∧ lj ≤ 4096 ∧ V.length ≤ j ∧ Hid (entailL f needs [] (left - 1) = entailL f (needs.drop j) (V.map Prod.fst) lj)) (fun i _ => needs.length - (intOf i).toNat)
          case atStart => exact ⟨0, [], _, left - 1, Nat.zero_le _, rfl, HEv.out, by omega, by omega, Nat.zero_le _, rfl⟩
          case round =>
            clear HEv
            obtain ⟨j, V, sv, lj, hj, rfl, hev, hlj0, hlj1, hVj, hno⟩ := hrel
            obtain ⟨wy, hwy⟩ : ∃ wy, wy = wr := ⟨_, rfl⟩
            rw [← hwy] at hev ⊢
            clear hwy
            have hXs : ∀ b, ((G b ∨ wx.heap.size ≤ b) ∧ b < w3'.heap.size) → ¬ (b = bl ∨ b21 ≤ b) := fun b hb h => by have := HSb.out b hb; omega
            have hX1 : ∀ b, b < W1.heap.size → b ≠ bl → ¬ (b = bl ∨ b21 ≤ b) := fun b hb hn h => by have h1 := HK121.out.size; have h2 := HBn21.out; have h3 := HZ1.out; omega
            have hkWy : Keeps (fun i => i = bl ∨ b21 ≤ i) W1 wy := (HK121.out.mono (fun _ _ h => h.elim)).trans hev.keeps (fun _ _ h => h)
            have hb12 := HB12.out.keeps hkWy (fun h => by have := HBL9.out; omega)
            have HKWy := Lib.hid hkWy
            by_cases hlt : j < needs.length
            · have hst := entailL_step f needs j hlt (V.map Prod.fst) lj
              obtain ⟨gn, offn, vn, hadr, hgn, n0, n1, n2, n3, n4, hncs, hTn⟩ := Pred.get (HSn.out.keeps hev.keeps hXs) hlt
              obtain rfl := hadr
              obtain ⟨A1, q1, rfl, _⟩ := hTn.form
              have hnm := HNM.out _ (List.getElem_mem hlt)
              obtain ⟨n, hn⟩ : ∃ n, needs[j] = n := ⟨_, rfl⟩
              rw [hn] at hst n0 n1 n2 n3 n4 hncs hTn hnm
              have hr4 := HR3.out
              rw [hno.out, hst] at hr4
              have hr5 := hr4
              rw [← HFf.out] at hr5
              dsimp only at hr5
              cases hc : entailP l s hs k q n (depth + 1) lj with
              | none => rw [hc] at hr5; cases hr5
              | some res =>
                obtain ⟨pn, en, ln⟩ := res
                have hfn : f n lj = some (pn, en, ln) := by rw [← HFf.out]; exact hc
                rw [hfn] at hst hr4
                dsimp only at hst hr4
                clear hr5
                obtain ⟨b23, hb23⟩ : ∃ b23, wy.heap.size = b23 := ⟨_, rfl⟩
                obtain ⟨W23, hW23⟩ : ∃ W23, wy.alloc (.cells #[.string n.cls, .int .i64 n.ty.kind, .string n.ty.name, .int .i64 n.ty.var, .slice A1 n.ty.args.length q1] 35) = W23 := ⟨_, rfl⟩
                have hk23 : Keeps (fun _ => False) wy W23 := by rw [← hW23]; exact (Keeps.refl _ _).alloc _
                have hB23 : Blk W23 b23 35 [.string n.cls, .int .i64 n.ty.kind, .string n.ty.name, .int .i64 n.ty.var, .slice A1 n.ty.args.length q1] := by rw [← hW23, ← hb23]; exact Blk.new wy _ [_, _, _, _, _]
                have hkW23 := hkWy.trans hk23 (fun _ _ h => h.elim)
                have hs23 := hk23.size
                have hsWy := hkWy.size
                have hnF : ∀ i, F i → ¬ (i = bl ∨ b21 ≤ i) := fun i hi => hX1 i (HF1.out i hi) (HFn.out i hi)
                have HC := Lib.hid (HIH.out W23 F (fun b => (G b ∨ wx.heap.size ≤ b) ∧ b < w3'.heap.size) vl vi _ A1 q1 n (depth + 1) lj bl pn en ln (HVl.out.keeps hkW23 hnF) (HVi.out.keeps hkW23 hnF) (HVh.out.keeps hkW23 hnF)
                  (fun b hb => ⟨by have := HF1.out b hb; omega, HFn.out b hb⟩) (hTn.keeps hk23 (fun _ _ h => h)) (fun b hb => ⟨by have h1 := (HSb.out b hb).1; have h2 := hev.box.lt; omega, (HSb.out b hb).2⟩) hnm.1 hnm.2 hncs (hev.left.keeps hk23 (fun h => h)) hlj0 hlj1 (by omega) (by omega) hc)
                have d0 := hB23.cell (i := 0) rfl
                have d1 := hB23.cell (i := 1) rfl
                have d2 := hB23.cell (i := 2) rfl
                have d3 := hB23.cell (i := 3) rfl
                have d4 := hB23.cell (i := 4) rfl
                have hnl := HNL.out
                have hl21 := hev.box.lt
                obtain ⟨Asv, csv, rfl⟩ := own_slform hev.own
                have hjl : (j : Int) < (needs.length : Int) := by omega
                have hj0 : (0 : Int) ≤ (j : Int) := by omega
                have hnV : V.length + 1 ≤ 1954687338211 := by omega
                have HEv := Lib.hid hev
                have HK23 := Lib.hid hk23
                have HW23 := Lib.hid hW23
                have HBn23 := Lib.hid hb23
                have H12 := Lib.hid hb12
                have HNO := Lib.hid (hno.out.trans hst)
                have HR4 := Lib.hid hr4
                have HLe := Lib.hid (fun h0 : en = 0 => entailP_left l s hs k q n (depth + 1) lj pn ln (by rw [h0] at hc; exact hc))
                clear hc hfn hr4 hst hno hn hTn hncs hnm hev hkWy hb12 hW23 hb23 hk23 hB23 hkW23 hnF hXs hX1
                go_upto_region 19 with (fail)
                rw [HW23.out, HBn23.out]
                go_wp2_with fail
                with_reducible refine HC.out.mono ?_
                rintro e w6 ⟨hl6, hk6, Ap, cp, rfl, hp6⟩
                have h12w := (H12.out.keeps HK23.out (fun h => h)).keeps hk6 (by have := HBL9.out; omega)
                have r0 := h12w.cell (i := 0) rfl
                have r1 := h12w.cell (i := 1) rfl
                have r2 := h12w.cell (i := 2) rfl
                have f0 := h12w.free 0
                have f1 := h12w.free 1
                have f2 := h12w.free 2
                have hl12 := h12w.lt
                have H12w := Lib.hid h12w
                have HL6 := Lib.hid hl6
                have HK6 := Lib.hid hk6
                have HP6 := Lib.hid hp6
                have hz6 := hk6.size
                have hz23 := HK23.out.size
                have hbn := HBn.out
                have hzW := HKW.out.size
                have hy1 := HZ1.out
                clear d0 d1 d2 d3 d4 h12w hl6 hk6 hp6
                by_cases he : en = 0
                · have heb : (en != 0) = false := by rw [he]; rfl
                  have hln := HLe.out he
                  have HNX : Hid (entailL f needs [] (left - 1) = entailL f (needs.drop (j + 1)) ((V ++ [(pn, Value.slice Ap pn.subs.length cp)]).map Prod.fst) ln) := HNO.out.trans (by rw [if_neg (fun h => h he), List.map_append]; rfl)
                  clear he r0 r1 r2 f0 f1 f2 hl12
                  obtain ⟨W24, hW24⟩ : ∃ W24, w6.alloc (.cells #[.int .i64 pn.kind, .int .i64 pn.num, .slice Ap pn.subs.length cp] 27) = W24 := ⟨_, rfl⟩
                  obtain ⟨b24, hb24⟩ : ∃ b24, w6.heap.size = b24 := ⟨_, rfl⟩
                  have hk24 : Keeps (fun _ => False) w6 W24 := by rw [← hW24]; exact (Keeps.refl _ _).alloc _
                  have hB24 : Blk W24 b24 27 [.int .i64 pn.kind, .int .i64 pn.num, .slice Ap pn.subs.length cp] := by rw [← hW24, ← hb24]; exact Blk.new w6 _ [_, _, _]
                  have hown6 := own_keeps (own_keeps (own_keeps HEv.out.own HK23.out (fun _ _ h => h)) HK6.out (fun i hi h => by have := (HEv.out.own.lt i hi).1; have h2 : i = bl := h; omega)) hk24 (fun _ _ h => h)
                  have hb21 := ((HEv.out.box.keeps HK23.out (fun h => h)).keeps HK6.out (by omega)).keeps hk24 (fun h => h)
                  have c2 := hb21.cell (i := 2) rfl
                  have e0 := hB24.cell (i := 0) rfl
                  have e1 := hB24.cell (i := 1) rfl
                  have e2 := hB24.cell (i := 2) rfl
                  have hl21' := hb21.lt
                  have hl24 := hB24.lt
                  have HOwn6 := Lib.hid hown6
                  have HB21 := Lib.hid hb21
                  have HK24 := Lib.hid hk24
                  have HW24 := Lib.hid hW24
                  have HBn24 := Lib.hid hb24
                  have HUL : Hid (∀ i, (Value.slice Asv V.length csv).ownBlock = some i → b21 + 1 ≤ i ∧ i < wy.heap.size) := fun i hi => HEv.out.own.lt i hi
                  have hb2124 : b21 + 1 ≤ W24.heap.size := by have := hb21.lt; omega
                  clear hown6 hb21 hB24 hk24 hW24 hb24
                  go_upto_region 20 with (fail)
                  rw [HW24.out, HBn24.out]
                  go_upto_region 22 with (fail)
                  go_wp2_with (at_builtin; refine wpList_append_lies _ rfl _ _ 25 rfl (b21 + 1) 27 i0 _ 3 40 Tryd.underlying25 hi0 hz0 hz1 hz2 rfl (by omega) _ V.length _ rfl (World.ownsRow.alloc HOwn6.out _) ⟨W24.heap.size, 0, none⟩ 1 1 [.int .i64 pn.kind, .int .i64 pn.num, .slice Ap pn.subs.length cp] rfl rfl (World.news_of_block (cs := #[.int .i64 pn.kind, .int .i64 pn.num, .slice Ap pn.subs.length cp]) (t := 27) (fr := (0, 0)) (heap_alloc_new _ _)) (by simp [Value.oneCell']) (by omega) (by unfold maxLen; omega) (by omega) (by simp; omega) (W24.heap.size + 1) (by simp) ?_; intro gg cap w7 hown1 hgrow hat hlt1; have hk7 : Keeps (fun i => (Value.slice Asv V.length csv).ownBlock = some i) W24 w7 := ((Keeps.refl _ _).alloc _).grown hgrow (fun j hj hjl => hj); have hD7 := HB21.out.keeps hk7 (fun h => by have := (HUL.out _ h).1; omega); have d7 := hD7.cell (i := 2) rfl; have f7 := hD7.free 2)
                  have hs24 := HK24.out.size
                  have HNE := Lib.hid (ev_next HEv.out hbl21 HK23.out (HL6.out.keeps HK24.out (fun h => h)) (HK6.out.trans HK24.out (fun _ _ h => h.elim)) ((HP6.out.keeps HK24.out (fun _ _ h => h)).mono (fun b hb => ⟨hb.1, by omega⟩)) hk7 hown1 (hat.imp id (fun h => by omega)) rfl)
                  go_roundw
                  case rel => exact ⟨j + 1, V ++ [(pn, Value.slice Ap pn.subs.length cp)], _, ln, by omega, by go_num, HNE.out, hln.1, by omega, by rw [List.length_append]; simp only [List.length_cons, List.length_nil]; omega, HNX⟩
                  case measure => simp [intOf]; omega
                · have heb : (en != 0) = true := by rw [bne_iff_ne]; exact he
                  have hr5 := HR4.out
                  rw [if_pos he] at hr5
                  dsimp only at hr5
                  rw [if_pos he] at hr5
                  simp only [Option.some.injEq, Prod.mk.injEq] at hr5
                  obtain ⟨rfl, rfl, rfl⟩ := hr5
                  clear he
                  go_wp2_with fail
                  obtain ⟨hB3, hK3⟩ := three H12w.out (.int .i64 0) (.int .i64 0) (.slice none 0 0)
                  have hK3a := hK3.alloc (.cells #[.int .i64 pn.kind, .int .i64 pn.num, .slice Ap pn.subs.length cp] 27)
                  exact ret_row1 Tryd.results20 rfl rfl (hB3.alloc _) Tryd.underlying27 (by kernel_rfl) rfl
                    ⟨HL6.out.keeps hK3a (by have := HBL9.out; omega), ((((HKW.out.trans HKWy.out (fun i hi h => by have h2 : i = bl ∨ b21 ≤ i := h; rcases h2 with h2 | h2; exact h2; omega)).trans HK23.out (fun _ _ h => h.elim)).trans HK6.out (fun _ _ h => h)).trans hK3a (fun i hi h => by have h2 : i = b9 + 1 := h; omega)), none, 0, rfl, ⟨by decide, by decide, Sl.nil_⟩⟩
            · obtain rfl : j = needs.length := by omega
              have hd : needs.drop needs.length = [] := List.drop_eq_nil_of_le (Nat.le_refl _)
              have hr4 := HR3.out
              rw [hno.out, hd, entailL] at hr4
              dsimp only at hr4
              rw [if_neg (fun h => h rfl)] at hr4
              simp only [Option.some.injEq, Prod.mk.injEq] at hr4
              obtain ⟨rfl, rfl, rfl⟩ := hr4
              obtain ⟨Asv, csv, rfl⟩ := own_slform hev.own
              have c0 := hev.box.cell (i := 0) rfl
              have c1 := hev.box.cell (i := 1) rfl
              have c2 := hev.box.cell (i := 2) rfl
              have r0 := hb12.cell (i := 0) rfl
              have r1 := hb12.cell (i := 1) rfl
              have r2 := hb12.cell (i := 2) rfl
              have f0 := hb12.free 0
              have f1 := hb12.free 1
              have f2 := hb12.free 2
              have hl12 := hb12.lt
              have hl21 := hev.box.lt
              have HEv := Lib.hid hev
              have H12 := Lib.hid hb12
              have hjl : ¬ (needs.length : Int) < (needs.length : Int) := by omega
              have hbn := HBn.out
              have hzW := HKW.out.size
              have hy1 := HZ1.out
              have hs12 := HK121.out.size
              clear hd hno hev hkWy hb12 hXs hX1
              go_wp2_with fail
              obtain ⟨hB3, hK3⟩ := three H12.out (.int .i64 2) (.int .i64 (ii : Int)) (.slice Asv V.length csv)
              have hz3 := hK3.size
              have hlen : V.length = (V.map Prod.fst).length := (List.length_map _).symm
              refine ret_row1 Tryd.results20 rfl rfl hB3 Tryd.underlying27 (by kernel_rfl) rfl
                ⟨HEv.out.left.keeps hK3 (by have := HBL9.out; omega), ((HKW.out.trans HKWy.out (fun i hi h => by have h2 : i = bl ∨ b21 ≤ i := h; rcases h2 with h2 | h2; exact h2; omega)).trans hK3 (fun i hi h => by have h2 : i = b9 + 1 := h; omega)), Asv, csv, by show _ = Ending.returned (.tuple #[.agg #[.int .i64 2, .int .i64 (ii : Int), .slice Asv (V.map Prod.fst).length csv], .int .i64 0]); rw [← hlen]; rfl, ⟨by show (Lit.int .i64 2).wf = true; decide, wf_nat ii hii63, ?_⟩⟩
              have h1 := Sl.of_own (f := pfD) (l := V.map Prod.fst) (F := fun b => (b21 + 1 ≤ b ∧ b < wy.heap.size) ∧ ¬ (Value.slice Asv V.length csv).ownBlock = some b) (G := fun b => b21 + 1 ≤ b ∧ b < wy.heap.size) HEv.out.own hlen (pf_rp HEv.out.each) (fun b hb => hb.1) (fun b hb => HEv.out.own.lt b hb)
              show Sl _ _ pfD (V.map Prod.fst) (.slice Asv (V.map Prod.fst).length csv)
              rw [← hlen]
              exact (h1.keeps hK3 (fun i hi h => by have h2 : i = b9 + 1 := h; omega)).mono (fun b hb => ⟨by omega, by omega⟩)
        · have hr3 := HR2.out
          rw [hin] at hr3
          simp only [Option.some.injEq, Prod.mk.injEq] at hr3
          obtain ⟨rfl, rfl, rfl⟩ := hr3
          have HK6 := Lib.hid (HKX.out.trans hk3 (fun _ _ h => h))
          have h12 := HB12.out.keeps HK6.out (fun h => h)
          have r0 := h12.cell (i := 0) rfl
          have r1 := h12.cell (i := 1) rfl
          have r2 := h12.cell (i := 2) rfl
          have f0 := h12.free 0
          have f1 := h12.free 1
          have f2 := h12.free 2
          have hl12 := h12.lt
          have H12 := Lib.hid h12
          clear hk3 hin h12 w0 w1 w2 w3 w4
          go_wp2_with fail
          obtain ⟨hB3, hK3⟩ := three H12.out (.int .i64 0) (.int .i64 0) (.slice none 0 0)
          have hbn := HBn.out
          have hzW := HKW.out.size
          have hzx := HK6.out.size
          exact ret_row1 Tryd.results20 rfl rfl hB3 Tryd.underlying27 (by kernel_rfl) rfl
            ⟨(HBl.out.keeps HK6.out (fun h => h)).keeps hK3 (by have := HBL9.out; omega), (HKW.out.trans HK6.out (fun _ _ h => h.elim)).trans hK3 (fun i hi h => by have h2 : i = b9 + 1 := h; omega), none, 0, rfl, ⟨by decide, by decide, Sl.nil_⟩⟩
theorem entail_any (l : List ClassSig) (s : List InstSig) (hs : List Pred) (hE : EnvOk l s hs) (k : Nat) : ∀ q, EntAt l s hs k q
  | 0 => fun W F G vl vi vh A c want depth left bl p r left' _ _ _ _ _ _ _ _ _ _ _ _ _ _ h => by cases h
  | q + 1 => entail_step l s hs hE k q (entail_any l s hs hE k q)
end Go.Proofs.YtdljlpogljjldaaDoor
