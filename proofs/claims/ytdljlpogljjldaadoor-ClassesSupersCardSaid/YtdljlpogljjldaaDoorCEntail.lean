/- classes.Entail. -/
import Derived.Test.YtdljlpogljjldaaDoorCEnt
import Derived.Test.YtdljlpogljjldaaDoorCInsts
namespace Go.Proofs.YtdljlpogljjldaaDoor
open Go.RowKit Go.Shelf Go.Sort

def PrCloned (l : List Pred) (F : Nat → Prop) (w : World) (e : Ending) (w' : World) : Prop :=
  ∃ v' xs, e = .returned v' ∧ w'.ownsRow w.heap.size 35 5 v' l.length xs ∧ RpAll w' F (l.map Pred.d) xs ∧ Below w.heap.size w w'
set_option maxHeartbeats 400000 in
theorem prClone (l : List Pred) (v : Value) (F : Nat → Prop) (w : World) (hv : Sl w F Pred.d l v) (hF : ∀ b, F b → b < w.heap.size) (hlen : l.length * 72 ≤ 140737488355328) :
    Calls Tryd.prog 13 #[v] w (PrCloned l F w) := by
  obtain ⟨i0, hi0, hz0, hz1, hz2⟩ := info_parts infoPred
  obtain ⟨A, c, rfl, hlc, hcm, hcn⟩ := hv.form
  have hl : l.length ≤ 9223372036854775807 := by unfold maxLen at hcm; omega
  rcases A with _ | ad
  · have hc0 := hcn rfl
    have hl0 : l.length = 0 := by omega
    have hl1 := List.eq_nil_of_length_eq_zero hl0
    subst hl1
    subst hc0
    have hn := fun (W : World) => Lib.run_eql_slice_nil (P := Tryd.prog) W 36 35 none 0 0 0 0 Tryd.underlying36
    go_enter Tryd.func13, Tryd.ntmps13
    go_wp2
    go_ret
    exact ⟨_, [], rfl, World.ownsRow_nil _ _ _ _, by simp [RpAll], Below.refl _ _⟩
  · have hn := fun (W : World) => Lib.run_eql_slice_nil (P := Tryd.prog) W 36 35 (some ad) l.length c 0 0 Tryd.underlying36
    have hown := World.ownsRow_lit (base := w.heap.size) (e := 35) (size := 5) w #[] 0 (Nat.le_refl _) (by unfold maxLen; omega) (by simp)
    have hb0 : Below w.heap.size w (w.alloc (.cells #[] 35)) := (Below.refl _ _).alloc (Nat.le_refl _) _
    have hv0 := hv.later hb0
    go_enter Tryd.func13, Tryd.ntmps13
    go_wp2_with (at_builtin; refine wpList_append_sl _ rfl _ _ 36 rfl w.heap.size 35 i0 _ 5 72 Tryd.underlying36 hi0 hz0 hz1 hz2 rfl (by omega) _ 0 [] rfl hown Pred.d Pred.wide F l _ _ _ rfl hv0 (by unfold maxLen; omega) (by omega) (by simp) ?_; intro v' w1 news hnews hown1 hgrow hat)
    go_ret
    simp only [Nat.zero_add, List.nil_append] at hown1
    refine ⟨v', news, rfl, hown1, hnews.grown hgrow ?_, hb0.grown hgrow (by simp) ?_⟩
    · intro b hb h
      have := hF b hb
      have h2 : some b = some w.heap.size := h
      injection h2 with h2
      omega
    · intro k hk
      have h2 : some w.heap.size = some k := hk
      injection h2 with h2
      omega
theorem isS {b : Bool} (h : ¬ b = false) : b = true := by cases b with | true => rfl | false => exact absurd rfl h
theorem own_base {W : World} {B B' : Nat} {t : TypeId} {k n : Nat} {v : Value} {xs : List Value} (h : B' ≤ B) (ho : W.ownsRow B t k v n xs) : W.ownsRow B' t k v n xs :=
  ⟨ho.1, ho.2.imp id (fun ⟨g, cap, cur, e, hb, rest⟩ => ⟨g, cap, cur, e, Nat.le_trans h hb, rest⟩)⟩
theorem givenErr_step (l : List ClassSig) (hs : List Pred) (i : Nat) (h : i < hs.length) : givenErr l (hs.drop i) = if (findC l hs[i].cls).isSome = false then 6 else if (chk hs[i].ty 4096 false 1).1 ≠ 0 then (chk hs[i].ty 4096 false 1).1 else givenErr l (hs.drop (i + 1)) := by
  rw [List.drop_eq_getElem_cons h, givenErr]
theorem givenErr_ok {l : List ClassSig} : ∀ {hs : List Pred}, givenErr l hs = 0 → ∀ h ∈ hs, (findC l h.cls).isSome = true ∧ h.ty.Wf ∧ nodes h.ty ≤ 4096
  | [], _ => fun h hh => by cases hh
  | p :: r, h => by
    rw [givenErr] at h
    split at h
    · exact absurd h (by decide)
    · rename_i h1
      split at h
      · rename_i h2; exact absurd h h2
      · rename_i h2
        intro y hy
        rcases List.mem_cons.1 hy with rfl | hy
        · have h3 : (chk y.ty 4096 false 1).1 = 0 := Classical.not_not.1 h2
          have h4 := (chk_fine y.ty _ _ _ h3).1
          have h5 := (chk_bound y.ty 4096 false 1).2 h3
          exact ⟨isS h1, chk_wf _ _ _ _ h3, by omega⟩
        · exact givenErr_ok h y hy
theorem supErr_ok {l : List ClassSig} : ∀ {s pre : List ByteArray}, supErr l pre s = 0 → ∀ x ∈ s, (findC l x).isSome = true
  | [], _, _ => fun x hx => by cases hx
  | y :: r, pre, h => by
    rw [supErr] at h
    split at h
    · exact absurd h (by decide)
    · rename_i h1
      split at h
      · exact absurd h (by decide)
      · intro x hx
        rcases List.mem_cons.1 hx with rfl | hx
        · exact isS h1
        · exact supErr_ok h x hx
theorem supsErr_ok {l : List ClassSig} : ∀ {s : List ClassSig}, supsErr l s = 0 → ∀ c ∈ s, ∀ x ∈ c.super, (findC l x).isSome = true
  | [], _ => fun c hc => by cases hc
  | y :: r, h => by
    rw [supsErr] at h
    split at h
    · rename_i h1; exact absurd h h1
    · rename_i h1
      intro c hc
      rcases List.mem_cons.1 hc with rfl | hc
      · exact supErr_ok (Classical.not_not.1 h1)
      · exact supsErr_ok h c hc
theorem checkC_ok {l : List ClassSig} (h : checkC l = 0) : Known l ∧ l.length ≤ 4096 := by
  rw [checkC] at h
  split at h
  · exact absurd h (by decide)
  · rename_i h1
    split at h
    · exact absurd h (by decide)
    · split at h
      · rename_i h2; exact absurd h h2
      · rename_i h2
        exact ⟨supsErr_ok (Classical.not_not.1 h2), by omega⟩
theorem predsErr_ok {l : List ClassSig} {x : InstSig} : ∀ {s : List Pred}, predsErr l x s = 0 → ∀ p ∈ s, (findC l p.cls).isSome = true ∧ p.ty.kind = 0 ∧ intIn (freeP x.head) p.ty.var = true
  | [], _ => fun p hp => by cases hp
  | y :: r, h => by
    rw [predsErr] at h
    split at h
    · exact absurd h (by decide)
    · rename_i h1
      split at h
      · exact absurd h (by decide)
      · rename_i h2
        intro p hp
        rcases List.mem_cons.1 hp with rfl | hp
        · refine ⟨isS h1, Classical.not_not.1 (fun hk => h2 (.inl hk)), ?_⟩
          cases hi : intIn (freeP x.head) p.ty.var with
          | true => rfl
          | false => exact absurd (.inr hi) h2
        · exact predsErr_ok h p hp
theorem instsErr_ok {l : List ClassSig} : ∀ {s pre : List InstSig}, instsErr l pre s = 0 → ∀ x ∈ s, (findC l x.cls).isSome = true ∧ headed x.head = true ∧ ∀ p ∈ x.preds, (findC l p.cls).isSome = true ∧ p.ty.kind = 0 ∧ intIn (freeP x.head) p.ty.var = true
  | [], _, _ => fun x hx => by cases hx
  | y :: r, pre, h => by
    rw [instsErr] at h
    split at h
    · rename_i h1; exact absurd h h1
    · rename_i h1
      have h1 : instErr l pre y = 0 := Classical.not_not.1 h1
      intro x hx
      rcases List.mem_cons.1 hx with rfl | hx
      · rw [instErr] at h1
        split at h1
        · exact absurd h1 (by decide)
        · rename_i g1
          split at h1
          · rename_i g2; exact absurd h1 g2
          · split at h1
            · exact absurd h1 (by decide)
            · rename_i g3
              split at h1
              · rename_i g4; exact absurd h1 g4
              · rename_i g4
                exact ⟨isS g1, isS g3, predsErr_ok (Classical.not_not.1 g4)⟩
      · exact instsErr_ok h x hx
/-- Instances of which Instances says nothing bad. -/
theorem instC_ok {l : List ClassSig} {s : List InstSig} (h : instC l s = 0) : (Known l ∧ l.length ≤ 4096) ∧ s.length ≤ 4096 ∧ ∀ x ∈ s, (findC l x.cls).isSome = true ∧ headed x.head = true ∧ ∀ p ∈ x.preds, (findC l p.cls).isSome = true ∧ p.ty.kind = 0 ∧ intIn (freeP x.head) p.ty.var = true := by
  rw [instC] at h
  split at h
  · rename_i h1; exact absurd h h1
  · rename_i h1
    split at h
    · exact absurd h (by decide)
    · rename_i h2
      exact ⟨checkC_ok (Classical.not_not.1 h1), by omega, instsErr_ok h⟩
/-- Instances whose requirements fit into memory. -/
def Fits (s : List InstSig) : Prop := ∀ x ∈ s, x.preds.length * 72 ≤ 140737488351232
theorem instOk_of {l : List ClassSig} {s : List InstSig} (h : instC l s = 0) (hf : Fits s) : InstOk s := fun x hx => ⟨((instC_ok h).2.2 x hx).2.1, hf x hx⟩
/-- The copy with one more, as a list. -/
theorem pred_more {F G : Nat → Prop} {W1 wq w6 : World} {B0 g1 cap1 : Nat} {hs : List Pred} {want : Pred} {A : Option Addr} {c : Nat} {u : Value} {xs : List Value} (hF : ∀ b, F b → b < B0 ∧ b < W1.heap.size) (hG : (∀ b, G b → b < B0 ∧ b < W1.heap.size) ∧ want.cls.size ≤ maxLen) (hx : RpAll wq F (hs.map Pred.d) xs) (hkq : Keeps (fun _ => False) W1 wq) (hk1 : Keeps (fun k => u.ownBlock = some k) wq w6) (hu : ∀ i, u.ownBlock = some i → B0 ≤ i)
    (hown : w6.ownsRow B0 35 5 (.slice (some ⟨g1, 0, none⟩) (hs.length + 1) cap1) (hs.length + 1) (xs ++ [.string want.cls, .int .i64 want.ty.kind, .string want.ty.name, .int .i64 want.ty.var, .slice A want.ty.args.length c])) (hT : TyC W1 G want.ty (.slice A want.ty.args.length c)) :
    Sl w6 (fun b => b < w6.heap.size) Pred.d (hs ++ [want]) (.slice (some ⟨g1, 0, none⟩) (hs.length + 1) cap1) := by
  have h1 : RpAll w6 (fun b => b < B0 ∧ b < W1.heap.size) ((hs ++ [want]).map Pred.d) (xs ++ [.string want.cls, .int .i64 want.ty.kind, .string want.ty.name, .int .i64 want.ty.var, .slice A want.ty.args.length c]) := by
    rw [List.map_append]
    refine RpAll.append ?_ (RpAll.one (Pred.rp.2 ⟨_, rfl, hG.2, ((hT.keeps hkq (fun _ _ h => h)).keeps hk1 (fun i hi h => by have := (hG.1 i hi).1; have := hu i h; omega)).mono (fun b hb => hG.1 b hb)⟩))
    exact (RpAll.mono hx (fun b hb => hF b hb)).frame (fun _ h => h) (fun b off v hb hc => hk1.cell hc (fun h => by have := hu b h; omega))
  have hlen : hs.length + 1 = (hs ++ [want]).length := by simp
  have hz := hkq.size
  have hz6 := hk1.size
  rw [hlen] at hown ⊢
  exact Sl.of_own (F := fun b => b < B0 ∧ b < W1.heap.size) hown rfl h1 (fun b hb => by omega) (fun b hb => (hown.lt b hb).2)
/-- What Entail leaves and answers. -/
def EntailRet (p : Pf) (r : Int) (W : World) (e : Ending) (w' : World) : Prop := Keeps (fun _ => False) W w' ∧ ∃ A c, e = .returned (.tuple #[.agg #[.int .i64 p.kind, .int .i64 p.num, .slice A p.subs.length c], .int .i64 r]) ∧ PfC w' (fun b => W.heap.size ≤ b ∧ b < w'.heap.size) p (.slice A p.subs.length c)
theorem entail_frame {b7 B0 : Nat} {W W0 W1 wc wy wz : World} (h7 : W.heap.size = b7) (hB : W1.heap.size = B0) (_ : B0 ≤ wc.heap.size) (k0 : Keeps (fun _ => False) W W0) (k1 : Keeps (fun _ => False) W0 W1) (kc : Keeps (fun i => B0 ≤ i) W1 wc) (ky : Keeps (fun _ => False) wc wy) (k3 : Keeps (· = b7 + 1) wy wz) : Keeps (fun _ => False) W wz := by
  have s0 := k0.size
  have s1 := k1.size
  exact Keeps.of_below (X := fun _ => False) ((((((k0.trans k1 (fun _ _ h => h)).mono (Y := fun i => b7 ≤ i) (fun _ _ h => h.elim)).trans kc (fun i _ h => by have h2 : B0 ≤ i := h; show b7 ≤ i; omega)).trans ky (fun _ _ h => h.elim)).trans k3 (fun i _ h => by have h2 : i = b7 + 1 := h; show b7 ≤ i; omega)).below (fun i hi => by have h2 : b7 ≤ i := hi; omega) (Nat.le_refl _))
theorem entail_frame2 {b7 B0 b16 : Nat} {W W0 W1 wc wy w9 wz : World} (h7 : W.heap.size = b7) (hB : W1.heap.size = B0) (_ : B0 ≤ wc.heap.size) (hb : B0 ≤ b16) (k0 : Keeps (fun _ => False) W W0) (k1 : Keeps (fun _ => False) W0 W1) (kc : Keeps (fun i => B0 ≤ i) W1 wc) (ky : Keeps (fun _ => False) wc wy) (k9 : Keeps (· = b16) wy w9) (k3 : Keeps (· = b7 + 1) w9 wz) : Keeps (fun _ => False) W wz := by
  have s0 := k0.size
  have s1 := k1.size
  exact Keeps.of_below (X := fun _ => False) (((((((k0.trans k1 (fun _ _ h => h)).mono (Y := fun i => b7 ≤ i) (fun _ _ h => h.elim)).trans kc (fun i _ h => by have h2 : B0 ≤ i := h; show b7 ≤ i; omega)).trans ky (fun _ _ h => h.elim)).trans k9 (fun i _ h => by have h2 : i = b16 := h; show b7 ≤ i; omega)).trans k3 (fun i _ h => by have h2 : i = b7 + 1 := h; show b7 ≤ i; omega)).below (fun i hi => by have h2 : b7 ≤ i := hi; omega) (Nat.le_refl _))
set_option maxRecDepth 100000 in
set_option maxHeartbeats 16000000 in
theorem Entail_any (l : List ClassSig) (s : List InstSig) (hs : List Pred) (want : Pred) (k q : Nat) (hfit : Fits s) (vl vi vh : Value) (F : Nat → Prop) (W : World) (A : Option Addr) (c : Nat) (hvl : Sl W F ClassSig.d l vl) (hvi : Sl W F InstSig.d s vi) (hvh : Sl W F Pred.d hs vh) (hF : ∀ b, F b → b < W.heap.size) (hT : TyC W F want.ty (.slice A want.ty.args.length c)) (hws : want.cls.size ≤ maxLen) (hz : Szs W)
    (p : Pf) (r : Int) (hr : entailS l s hs want k q = some (p, r)) :
    Calls Tryd.prog 7 #[vl, vi, vh, .agg #[.string want.cls, .int .i64 want.ty.kind, .string want.ty.name, .int .i64 want.ty.var, .slice A want.ty.args.length c]] W (EntailRet p r W) := by
  obtain ⟨i0, hi0, hz0, hz1, hz2⟩ := info_parts infoPred
  obtain ⟨Ah, ch, rfl, hhc, hhm, _⟩ := hvh.form
  obtain ⟨b7, hb7⟩ : ∃ b7, W.heap.size = b7 := ⟨_, rfl⟩
  obtain ⟨W0, hW0⟩ : ∃ W0, (W.alloc (.cells #[.string want.cls, .int .i64 want.ty.kind, .string want.ty.name, .int .i64 want.ty.var, .slice A want.ty.args.length c] 35)).alloc (.cells #[.int .i64 0, .int .i64 0, .slice none 0 0] 27) = W0 := ⟨_, rfl⟩
  have hk0 : Keeps (fun _ => False) W W0 := by rw [← hW0]; exact ((Keeps.refl _ _).alloc _).alloc _
  have hB7 : Blk W0 b7 35 [.string want.cls, .int .i64 want.ty.kind, .string want.ty.name, .int .i64 want.ty.var, .slice A want.ty.args.length c] := by
    rw [← hW0, ← hb7]; exact (Blk.new W _ [_, _, _, _, _]).alloc _
  have hB8 : Blk W0 (b7 + 1) 27 [.int .i64 0, .int .i64 0, .slice none 0 0] := by
    have := Blk.new (W.alloc (.cells #[.string want.cls, .int .i64 want.ty.kind, .string want.ty.name, .int .i64 want.ty.var, .slice A want.ty.args.length c] 35)) 27 [.int .i64 0, .int .i64 0, .slice none 0 0]
    rw [hW0] at this
    simpa [hb7] using this
  have hz0' : W0.heap.size = b7 + 2 := by rw [← hW0, ← hb7]; simp
  have hF0 : ∀ b, F b → b < W0.heap.size := fun b hb => by have := hF b hb; omega
  have HVl := Lib.hid (hvl.keeps hk0 (fun _ _ h => h))
  have HVi := Lib.hid (hvi.keeps hk0 (fun _ _ h => h))
  have HVh := Lib.hid (hvh.keeps hk0 (fun _ _ h => h))
  have HWT0 := Lib.hid (hT.keeps hk0 (fun _ _ h => h))
  have HZ := Lib.hid (hz.keeps hk0 (fun h => h))
  have HIns := Lib.hid (instances_any l s vl vi F W0 HVl.out HVi.out hF0 HZ.out)
  have HF := Lib.hid hF
  have HB7 := Lib.hid hB7
  have HB8 := Lib.hid hB8
  have HK0 := Lib.hid hk0
  have HW0 := Lib.hid hW0
  have HBn := Lib.hid hb7
  have HZ0 := Lib.hid hz0'
  have HWS := Lib.hid hws
  have HFit := Lib.hid hfit
  rw [entailS] at hr
  have HR := Lib.hid hr
  obtain ⟨ic, hic⟩ : ∃ ic, instC l s = ic := ⟨_, rfl⟩
  rw [hic] at HIns HR
  have HIC := Lib.hid hic
  clear hvl hvi hvh hF hT hws hz hk0 hB7 hB8 hW0 hb7 hz0' hF0 hfit hr hic hhm
  go_enter Tryd.func7, Tryd.ntmps7
  go_upto_region 1 with (fail)
  rw [HW0.out, HBn.out]
  go_wp2_with fail
  with_reducible refine HIns.out.mono ?_
  rintro e w1 ⟨rfl, hk1⟩
  have hB81 := HB8.out.keeps hk1 (fun h => h)
  have HB81 := Lib.hid hB81
  have HK1 := Lib.hid hk1
  have r0 := hB81.cell (i := 0) rfl
  have r1 := hB81.cell (i := 1) rfl
  have r2 := hB81.cell (i := 2) rfl
  have f0 := hB81.free 0
  have f1 := hB81.free 1
  have f2 := hB81.free 2
  have hl8 := hB81.lt
  clear hk1 hB81 HIns
  by_cases h1 : ic = 0
  · have h1b : (ic != 0) = false := by rw [h1]; rfl
    have HR1 := Lib.hid ((if_neg (fun h => h h1)).symm.trans HR.out)
    have HIC0 := Lib.hid (HIC.out.trans h1)
    clear h1 HR
    by_cases h2 : 4096 < hs.length
    · have h2b : (4096 : Int) < (hs.length : Int) := by omega
      have hr := HR1.out
      rw [if_pos h2] at hr
      simp only [Option.some.injEq, Prod.mk.injEq] at hr
      obtain ⟨rfl, rfl⟩ := hr
      clear h2
      go_wp2_with fail
      obtain ⟨hB3, hK3⟩ := three HB81.out (.int .i64 0) (.int .i64 0) (.slice none 0 0)
      have hbn := HBn.out
      exact ret_row1 Tryd.results7 rfl rfl hB3 Tryd.underlying27 (by kernel_rfl) rfl ⟨Keeps.of_below (X := fun _ => False) ((((HK0.out.trans HK1.out (fun _ _ h => h)).mono (Y := fun i => b7 ≤ i) (fun _ _ h => h.elim)).trans hK3 (fun i _ h => by have h2 : i = b7 + 1 := h; show b7 ≤ i; omega)).below (fun i hi => by have h2 : b7 ≤ i := hi; omega) (Nat.le_refl _)), none, 0, rfl, ⟨by decide, by decide, Sl.nil_⟩⟩
    · have h2b : ¬ (4096 : Int) < (hs.length : Int) := by omega
      have HR2 := Lib.hid ((if_neg h2).symm.trans HR1.out)
      have H2 := Lib.hid h2
      clear HR1 h2
      obtain ⟨B0, hB0⟩ : ∃ B0, w1.heap.size = B0 := ⟨_, rfl⟩
      obtain ⟨W1, hW1⟩ : ∃ W1, W1 = w1 := ⟨_, rfl⟩
      rw [← hW1] at HK1 HB81 hB0 r0 r1 r2 f0 f1 f2 hl8 ⊢
      clear hW1
      have hF1 : ∀ b, F b → b < B0 ∧ b < W1.heap.size := fun b hb => by have := HF.out b hb; have := HK1.out.size; have := HZ0.out; have := HBn.out; omega
      have HQ2 : Hid ((∀ b, F b → b < B0 ∧ b < W1.heap.size) ∧ ((∀ b, F b → b < B0 ∧ b < W1.heap.size) ∧ want.cls.size ≤ maxLen)) := ⟨hF1, hF1, HWS.out⟩
      have HWT := Lib.hid (HWT0.out.keeps HK1.out (fun _ _ h => h))
      have HVh1 := Lib.hid (HVh.out.keeps HK1.out (fun _ _ h => h))
      have hbb := HB7.out.keeps HK1.out (fun h => h)
      have hQ : Hid (∀ X, Keeps (fun i => B0 ≤ i) W1 X → (X.cell? ⟨b7, 0, none⟩ = some (.string want.cls) ∧ X.cell? ⟨b7, 1, none⟩ = some (.int .i64 want.ty.kind) ∧ X.cell? ⟨b7, 2, none⟩ = some (.string want.ty.name) ∧ X.cell? ⟨b7, 3, none⟩ = some (.int .i64 want.ty.var) ∧ X.cell? ⟨b7, 4, none⟩ = some (.slice A want.ty.args.length c))) := fun X hk => by
        have hx := hbb.keeps hk (by have := hbb.lt; omega)
        exact ⟨hx.cell (i := 0) rfl, hx.cell (i := 1) rfl, hx.cell (i := 2) rfl, hx.cell (i := 3) rfl, hx.cell (i := 4) rfl⟩
      have hhl : hs.length ≤ 4096 := by have := H2.out; omega
      have HCl : Hid (∀ X, Keeps (fun _ => False) W1 X → Calls Tryd.prog 13 #[.slice Ah hs.length ch] X (fun e w' => ∃ u xs, e = .returned u ∧ w'.ownsRow B0 35 5 u hs.length xs ∧ RpAll w' F (hs.map Pred.d) xs ∧ Keeps (fun _ => False) W1 w' ∧ ∀ k o, X.heap[k]? = some o → w'.heap[k]? = some o)) := fun X hk => by
        refine (prClone hs _ F X (HVh1.out.keeps hk (fun _ _ h => h)) (fun b hb => by have := (hF1 b hb).2; have := hk.size; omega) (by omega)).mono ?_
        rintro e w' ⟨u, xs, he, ho, hx, hb⟩
        have hkb := Keeps.of_below (X := fun _ => False) hb
        exact ⟨u, xs, he, own_base (by have := hk.size; omega) ho, hx, hk.trans hkb (fun _ _ h => h), fun k o h => hkb.heap h (fun h => h)⟩
      have HMq : Hid (hs.length + 1 ≤ maxLen) := by show _ ≤ _; unfold maxLen; omega
      have HBq : Hid ((hs.length + 1) * 72 ≤ 140737488355328) := by show _ ≤ _; omega
      have HBZ : Hid (B0 ≤ W1.heap.size) := by show _ ≤ _; omega
      have HB0 := Lib.hid hB0
      have HHL := Lib.hid hhl
      clear hF1 hbb hB0 hhl r0 r1 r2 f0 f1 f2
      go_upto_region 6 with (fail)
      go_cut [32, 33, 34] (fun v32 v33 v34 wd => ∃ g1 cap1 nn, nn = (hs ++ [want]).length ∧ v32 = .slice (some ⟨g1, 0, none⟩) nn cap1 ∧ v33 = .int .i64 (nn : Int) ∧ v34 = .int .i64 0 ∧ Sl wd (fun b => b < wd.heap.size) Pred.d (hs ++ [want]) (.slice (some ⟨g1, 0, none⟩) nn cap1) ∧ Keeps (fun i => B0 ≤ i) W1 wd)
      case first =>
        refine wp_region_noPanic ?_
        refine wp_region_till [] (fun X => X.cell? ⟨b7, 0, none⟩ = some (.string want.cls) ∧ X.cell? ⟨b7, 1, none⟩ = some (.int .i64 want.ty.kind) ∧ X.cell? ⟨b7, 2, none⟩ = some (.string want.ty.name) ∧ X.cell? ⟨b7, 3, none⟩ = some (.int .i64 want.ty.var) ∧ X.cell? ⟨b7, 4, none⟩ = some (.slice A want.ty.args.length c)) (by kernel_rfl) ?_ (fun hE => ?_)
        · first | exact hQ.out _ ((hkq.mono (Y := fun i => B0 ≤ i) (fun _ _ h => h.elim)).trans (hk1.mono (Y := fun i => B0 ≤ i) (fun i _ h => (hown.lt i h).1)) (fun _ _ h => h)) | exact hQ.out _ (Keeps.mono (show Keeps (fun _ => False) W1 _ from (by repeat (first | (with_reducible assumption) | (with_reducible exact Keeps.refl _ _) | (with_reducible refine Keeps.drewN ?_ _) | (with_reducible refine Keeps.drew ?_) | with_reducible refine Keeps.setCell ?_ (by first | (intro _; exact rfl) | (intro _; exact Or.inl rfl) | (intro _; exact Or.inr rfl) | (simp; done) | (simp; omega)) _ | (with_reducible refine Keeps.alloc ?_ _)))) (fun _ _ h => h.elim))
        have hS := hE (by kernel_rfl)
        refine wpAnyT_pure (i := 0) (oi := { dst := some 28, op := Op.move (Operand.tmp 2), type := 36, pos := "classes.go:173", after := #[], guard := none }) (v := ?v6_0_1) rfl (by kernel_rfl) (fun _ _ _ h => h) (Or.inl ⟨by rfl, ?y6_0_1⟩) (fun _ => hS) ?_
        case y6_0_1 => (intro w hSw; go_simp; try with_reducible rfl)
        try simp only [Act.put, List.setIfInBounds_toArray, List.set_cons_zero, List.set_cons_succ]
        refine wpAnyT_take (i := 2) (oi := { dst := some 30, op := Op.load 35 (Operand.tmp 7), type := 35, pos := "classes.go:173", after := #[], guard := none }) (v := ?v6_2_2) rfl (by kernel_rfl) (fun _ _ _ h => h) (Or.inl ⟨by rfl, ?y6_2_2⟩) hS ?_
        case y6_2_2 => (intro w hSw; (try dsimp only at hSw); go_simp; try with_reducible rfl)
        try simp only [Act.put, List.setIfInBounds_toArray, List.set_cons_zero, List.set_cons_succ]
        refine wpAnyT_pure (i := 6) (oi := { dst := some 34, op := Op.move (Operand.const (Value.int IntKind.i64 0)), type := 3, pos := "classes.go:173", after := #[], guard := none }) (v := ?v6_6_3) rfl (by kernel_rfl) (fun _ _ _ h => h) (Or.inl ⟨by rfl, ?y6_6_3⟩) (fun _ => hS) ?_
        case y6_6_3 => (intro w hSw; go_simp; try with_reducible rfl)
        try simp only [Act.put, List.setIfInBounds_toArray, List.set_cons_zero, List.set_cons_succ]
        refine wpAnyT_ready (rs := [1, 3]) (by kernel_rfl) rfl ?_
        refine AllT.cons (o := { dst := some 29, op := Op.call { callee := Callee.value (Operand.func 13), args := #[Operand.tmp 28], argTypes := #[36] }, type := 36, pos := "classes.go:173", after := #[⟨0, .data⟩], guard := none }) rfl (fun K hK => ?_) ?_
        · (go_simp; go_at_call 13; with_reducible refine (HCl.out _ (by repeat (first | (with_reducible assumption) | (with_reducible exact Keeps.refl _ _) | (with_reducible refine Keeps.drewN ?_ _) | (with_reducible refine Keeps.drew ?_) | with_reducible refine Keeps.setCell ?_ (by first | (intro _; exact rfl) | (intro _; exact Or.inl rfl) | (intro _; exact Or.inr rfl) | (simp; done) | (simp; omega)) _ | (with_reducible refine Keeps.alloc ?_ _)))).mono ?_; rintro e wq ⟨u, xs, rfl, hown, hxs, hkq, hkx⟩; go_wp2_with fail)
          refine hK.out _ _ (fun _ => ?_) (fun hE => ?_)
          · first | exact hQ.out _ ((hkq.mono (Y := fun i => B0 ≤ i) (fun _ _ h => h.elim)).trans (hk1.mono (Y := fun i => B0 ≤ i) (fun i _ h => (hown.lt i h).1)) (fun _ _ h => h)) | exact hQ.out _ (Keeps.mono (show Keeps (fun _ => False) W1 _ from (by repeat (first | (with_reducible assumption) | (with_reducible exact Keeps.refl _ _) | (with_reducible refine Keeps.drewN ?_ _) | (with_reducible refine Keeps.drew ?_) | with_reducible refine Keeps.setCell ?_ (by first | (intro _; exact rfl) | (intro _; exact Or.inl rfl) | (intro _; exact Or.inr rfl) | (simp; done) | (simp; omega)) _ | (with_reducible refine Keeps.alloc ?_ _)))) (fun _ _ h => h.elim))
          have hS := hE (by kernel_rfl)
          clear hK K hE
          try simp only [Act.put, List.setIfInBounds_toArray, List.set_cons_zero, List.set_cons_succ]
          refine wpAnyT_ready (rs := [3]) (by kernel_rfl) rfl ?_
          refine AllT.cons (o := { dst := some 31, op := Op.buildSlice 36 1 #[(0, Operand.tmp 30)], type := 36, pos := "classes.go:173", after := #[⟨2, .data⟩], guard := none }) rfl (fun K hK => ?_) ?_
          · go_simp
            refine hK.out _ _ (fun _ => ?_) (fun hE => ?_)
            · first | exact hQ.out _ ((hkq.mono (Y := fun i => B0 ≤ i) (fun _ _ h => h.elim)).trans (hk1.mono (Y := fun i => B0 ≤ i) (fun i _ h => (hown.lt i h).1)) (fun _ _ h => h)) | exact hQ.out _ (Keeps.mono (show Keeps (fun _ => False) W1 _ from (by repeat (first | (with_reducible assumption) | (with_reducible exact Keeps.refl _ _) | (with_reducible refine Keeps.drewN ?_ _) | (with_reducible refine Keeps.drew ?_) | with_reducible refine Keeps.setCell ?_ (by first | (intro _; exact rfl) | (intro _; exact Or.inl rfl) | (intro _; exact Or.inr rfl) | (simp; done) | (simp; omega)) _ | (with_reducible refine Keeps.alloc ?_ _)))) (fun _ _ h => h.elim))
            have hS := hE (by kernel_rfl)
            clear hK K hE
            try simp only [Act.put, List.setIfInBounds_toArray, List.set_cons_zero, List.set_cons_succ]
            refine wpAnyT_ready (rs := [4]) (by kernel_rfl) rfl ?_
            refine AllT.cons (o := { dst := some 32, op := Op.call { callee := Callee.builtin Builtin.append, args := #[Operand.tmp 29, Operand.tmp 31], argTypes := #[36, 36] }, type := 36, pos := "classes.go:173", after := #[⟨1, .data⟩, ⟨3, .data⟩, ⟨1, .chain⟩], guard := none }) rfl (fun K hK => ?_) ?_
            · (refine step_append_kept2 (W0 := wq) rfl (.tmp 29) (.tmp 31) 36 rfl B0 35 i0 _ 5 72 Tryd.underlying36 hi0 hz0 hz1 hz2 rfl (by decide) u hs.length xs rfl hown (by repeat (first | (with_reducible assumption) | with_reducible exact Keeps.refl _ _ | with_reducible refine Keeps.drew ?_ | with_reducible refine Keeps.alloc ?_ _)) _ _ #[.string want.cls, .int .i64 want.ty.kind, .string want.ty.name, .int .i64 want.ty.var, .slice A want.ty.args.length c] rfl rfl (by first | exact heap_new_at (by simp) | exact hkx _ _ (heap_new_at (by simp))) (by simp [Value.oneCell']) HMq.out HBq.out (Nat.le_trans HBZ.out hkq.size) ?_; intro g1 cap1 w6 hown1 hk1 hkp1 hat1)
              refine hK.out _ _ (fun _ => ?_) (fun hE => ?_)
              · first | exact hQ.out _ ((hkq.mono (Y := fun i => B0 ≤ i) (fun _ _ h => h.elim)).trans (hk1.mono (Y := fun i => B0 ≤ i) (fun i _ h => (hown.lt i h).1)) (fun _ _ h => h)) | exact hQ.out _ (Keeps.mono (show Keeps (fun _ => False) W1 _ from (by repeat (first | (with_reducible assumption) | (with_reducible exact Keeps.refl _ _) | (with_reducible refine Keeps.drewN ?_ _) | (with_reducible refine Keeps.drew ?_) | with_reducible refine Keeps.setCell ?_ (by first | (intro _; exact rfl) | (intro _; exact Or.inl rfl) | (intro _; exact Or.inr rfl) | (simp; done) | (simp; omega)) _ | (with_reducible refine Keeps.alloc ?_ _)))) (fun _ _ h => h.elim))
              have hS := hE (by kernel_rfl)
              clear hK K hE
              try simp only [Act.put, List.setIfInBounds_toArray, List.set_cons_zero, List.set_cons_succ]
              refine wpAnyT_pure (i := 5) (oi := { dst := some 33, op := Op.call { callee := Callee.builtin Builtin.len, args := #[Operand.tmp 32], argTypes := #[36] }, type := 3, pos := "classes.go:173", after := #[⟨4, .data⟩], guard := none }) (v := ?v6_5_4) rfl (by kernel_rfl) (fun _ _ _ h => h) (Or.inl ⟨by rfl, ?y6_5_4⟩) (fun _ => hS) ?_
              case y6_5_4 => (intro w hSw; go_simp; try with_reducible rfl)
              try simp only [Act.put, List.setIfInBounds_toArray, List.set_cons_zero, List.set_cons_succ]
              refine wpAnyT_done (by kernel_rfl) ?_ _
              refine NoPanic.normal ?_
              have hK6 : Keeps (fun i => B0 ≤ i) W1 w6 := (hkq.mono (Y := fun i => B0 ≤ i) (fun _ _ h => h.elim)).trans (hk1.mono (Y := fun i => B0 ≤ i) (fun i _ h => (hown.lt i h).1)) (fun _ _ h => h)
              have HSL := Lib.hid (pred_more HQ2.out.1 HQ2.out.2 hxs hkq hk1 (fun i h => (hown.lt i h).1) hown1 HWT.out)
              have HK6 := Lib.hid hK6
              clear hown hxs hkq hkx hown1 hk1 hkp1 hat1 hK6 hS
              go_wp2_with fail
              go_meet
              exact ⟨g1, cap1, hs.length + 1, by simp, rfl, rfl, rfl, HSL.out, HK6.out⟩
            exact AllT.nil
          exact AllT.nil
        refine AllT.cons (o := { dst := some 31, op := Op.buildSlice 36 1 #[(0, Operand.tmp 30)], type := 36, pos := "classes.go:173", after := #[⟨2, .data⟩], guard := none }) rfl (fun K hK => ?_) ?_
        · go_simp
          refine hK.out _ _ (fun _ => ?_) (fun hE => ?_)
          · first | exact hQ.out _ ((hkq.mono (Y := fun i => B0 ≤ i) (fun _ _ h => h.elim)).trans (hk1.mono (Y := fun i => B0 ≤ i) (fun i _ h => (hown.lt i h).1)) (fun _ _ h => h)) | exact hQ.out _ (Keeps.mono (show Keeps (fun _ => False) W1 _ from (by repeat (first | (with_reducible assumption) | (with_reducible exact Keeps.refl _ _) | (with_reducible refine Keeps.drewN ?_ _) | (with_reducible refine Keeps.drew ?_) | with_reducible refine Keeps.setCell ?_ (by first | (intro _; exact rfl) | (intro _; exact Or.inl rfl) | (intro _; exact Or.inr rfl) | (simp; done) | (simp; omega)) _ | (with_reducible refine Keeps.alloc ?_ _)))) (fun _ _ h => h.elim))
          have hS := hE (by kernel_rfl)
          clear hK K hE
          try simp only [Act.put, List.setIfInBounds_toArray, List.set_cons_zero, List.set_cons_succ]
          refine wpAnyT_ready (rs := [1]) (by kernel_rfl) rfl ?_
          refine AllT.cons (o := { dst := some 29, op := Op.call { callee := Callee.value (Operand.func 13), args := #[Operand.tmp 28], argTypes := #[36] }, type := 36, pos := "classes.go:173", after := #[⟨0, .data⟩], guard := none }) rfl (fun K hK => ?_) ?_
          · (go_simp; go_at_call 13; with_reducible refine (HCl.out _ (by repeat (first | (with_reducible assumption) | (with_reducible exact Keeps.refl _ _) | (with_reducible refine Keeps.drewN ?_ _) | (with_reducible refine Keeps.drew ?_) | with_reducible refine Keeps.setCell ?_ (by first | (intro _; exact rfl) | (intro _; exact Or.inl rfl) | (intro _; exact Or.inr rfl) | (simp; done) | (simp; omega)) _ | (with_reducible refine Keeps.alloc ?_ _)))).mono ?_; rintro e wq ⟨u, xs, rfl, hown, hxs, hkq, hkx⟩; go_wp2_with fail)
            refine hK.out _ _ (fun _ => ?_) (fun hE => ?_)
            · first | exact hQ.out _ ((hkq.mono (Y := fun i => B0 ≤ i) (fun _ _ h => h.elim)).trans (hk1.mono (Y := fun i => B0 ≤ i) (fun i _ h => (hown.lt i h).1)) (fun _ _ h => h)) | exact hQ.out _ (Keeps.mono (show Keeps (fun _ => False) W1 _ from (by repeat (first | (with_reducible assumption) | (with_reducible exact Keeps.refl _ _) | (with_reducible refine Keeps.drewN ?_ _) | (with_reducible refine Keeps.drew ?_) | with_reducible refine Keeps.setCell ?_ (by first | (intro _; exact rfl) | (intro _; exact Or.inl rfl) | (intro _; exact Or.inr rfl) | (simp; done) | (simp; omega)) _ | (with_reducible refine Keeps.alloc ?_ _)))) (fun _ _ h => h.elim))
            have hS := hE (by kernel_rfl)
            clear hK K hE
            try simp only [Act.put, List.setIfInBounds_toArray, List.set_cons_zero, List.set_cons_succ]
            refine wpAnyT_ready (rs := [4]) (by kernel_rfl) rfl ?_
            refine AllT.cons (o := { dst := some 32, op := Op.call { callee := Callee.builtin Builtin.append, args := #[Operand.tmp 29, Operand.tmp 31], argTypes := #[36, 36] }, type := 36, pos := "classes.go:173", after := #[⟨1, .data⟩, ⟨3, .data⟩, ⟨1, .chain⟩], guard := none }) rfl (fun K hK => ?_) ?_
            · (refine step_append_kept2 (W0 := wq) rfl (.tmp 29) (.tmp 31) 36 rfl B0 35 i0 _ 5 72 Tryd.underlying36 hi0 hz0 hz1 hz2 rfl (by decide) u hs.length xs rfl hown (by repeat (first | (with_reducible assumption) | with_reducible exact Keeps.refl _ _ | with_reducible refine Keeps.drew ?_ | with_reducible refine Keeps.alloc ?_ _)) _ _ #[.string want.cls, .int .i64 want.ty.kind, .string want.ty.name, .int .i64 want.ty.var, .slice A want.ty.args.length c] rfl rfl (by first | exact heap_new_at (by simp) | exact hkx _ _ (heap_new_at (by simp))) (by simp [Value.oneCell']) HMq.out HBq.out (Nat.le_trans HBZ.out hkq.size) ?_; intro g1 cap1 w6 hown1 hk1 hkp1 hat1)
              refine hK.out _ _ (fun _ => ?_) (fun hE => ?_)
              · first | exact hQ.out _ ((hkq.mono (Y := fun i => B0 ≤ i) (fun _ _ h => h.elim)).trans (hk1.mono (Y := fun i => B0 ≤ i) (fun i _ h => (hown.lt i h).1)) (fun _ _ h => h)) | exact hQ.out _ (Keeps.mono (show Keeps (fun _ => False) W1 _ from (by repeat (first | (with_reducible assumption) | (with_reducible exact Keeps.refl _ _) | (with_reducible refine Keeps.drewN ?_ _) | (with_reducible refine Keeps.drew ?_) | with_reducible refine Keeps.setCell ?_ (by first | (intro _; exact rfl) | (intro _; exact Or.inl rfl) | (intro _; exact Or.inr rfl) | (simp; done) | (simp; omega)) _ | (with_reducible refine Keeps.alloc ?_ _)))) (fun _ _ h => h.elim))
              have hS := hE (by kernel_rfl)
              clear hK K hE
              try simp only [Act.put, List.setIfInBounds_toArray, List.set_cons_zero, List.set_cons_succ]
              refine wpAnyT_pure (i := 5) (oi := { dst := some 33, op := Op.call { callee := Callee.builtin Builtin.len, args := #[Operand.tmp 32], argTypes := #[36] }, type := 3, pos := "classes.go:173", after := #[⟨4, .data⟩], guard := none }) (v := ?v6_5_5) rfl (by kernel_rfl) (fun _ _ _ h => h) (Or.inl ⟨by rfl, ?y6_5_5⟩) (fun _ => hS) ?_
              case y6_5_5 => (intro w hSw; go_simp; try with_reducible rfl)
              try simp only [Act.put, List.setIfInBounds_toArray, List.set_cons_zero, List.set_cons_succ]
              refine wpAnyT_done (by kernel_rfl) ?_ _
              refine NoPanic.normal ?_
              have hK6 : Keeps (fun i => B0 ≤ i) W1 w6 := (hkq.mono (Y := fun i => B0 ≤ i) (fun _ _ h => h.elim)).trans (hk1.mono (Y := fun i => B0 ≤ i) (fun i _ h => (hown.lt i h).1)) (fun _ _ h => h)
              have HSL := Lib.hid (pred_more HQ2.out.1 HQ2.out.2 hxs hkq hk1 (fun i h => (hown.lt i h).1) hown1 HWT.out)
              have HK6 := Lib.hid hK6
              clear hown hxs hkq hkx hown1 hk1 hkp1 hat1 hK6 hS
              go_wp2_with fail
              go_meet
              exact ⟨g1, cap1, hs.length + 1, by simp, rfl, rfl, rfl, HSL.out, HK6.out⟩
            exact AllT.nil
          exact AllT.nil
        exact AllT.nil
      case rest =>
        obtain ⟨g1, cap1, nn, hnn, rfl, rfl, rfl, hS1, hKc⟩ := hcut
        obtain ⟨ws, hws⟩ : ∃ ws, hs ++ [want] = ws := ⟨_, rfl⟩
        have hwl : ws.length = hs.length + 1 := by rw [← hws]; simp
        have hr := HR2.out
        rw [hws] at hS1 hr hnn
        have HR3 := Lib.hid hr
        have hFn : ∀ b, F b → ¬ B0 ≤ b := fun b hb h => by have := (HQ2.out.1 b hb).1; omega
        have hl7 := HB7.out.lt
        have hz1' := HK1.out.size
        have hbz := HB0.out
        have hzc := block_lt_of_cell HZ.out.c0
        dsimp at hzc
        have HVl2 := Lib.hid ((HVl.out.keeps HK1.out (fun _ _ h => h)).keeps hKc hFn)
        have HVi2 := Lib.hid ((HVi.out.keeps HK1.out (fun _ _ h => h)).keeps hKc hFn)
        have HVh2 := Lib.hid (HVh1.out.keeps hKc hFn)
        have HWT2 := Lib.hid (HWT.out.keeps hKc hFn)
        have HZ2 := Lib.hid ((HZ.out.keeps HK1.out (fun h => h)).keeps hKc (by omega))
        have HB72 := Lib.hid ((HB7.out.keeps HK1.out (fun h => h)).keeps hKc (by omega))
        have HB82 := Lib.hid (HB81.out.keeps hKc (by omega))
        have HS1 := Lib.hid hS1
        have HKc := Lib.hid hKc
        have hFc : ∀ b, F b → b < wc.heap.size := fun b hb => by have := (HQ2.out.1 b hb).2; have := hKc.size; omega
        have HFc := Lib.hid hFc
        have HWS2 := Lib.hid hws
        have HNN := Lib.hid hnn
        have HWL := Lib.hid hwl
        have hEq : ws.length = nn := hnn.symm
        obtain ⟨Aw, hAw⟩ : ∃ Aw : Option Addr, Aw = some ⟨g1, 0, none⟩ := ⟨_, rfl⟩
        rw [← hAw] at HS1 ⊢
        have hbW : B0 ≤ wc.heap.size := by have := hKc.size; omega
        have HBW := Lib.hid hbW
        clear hS1 hKc hFc hws hnn hwl hr hFn hAw HR2 HQ2 HVl HVi HVh HWT0 HZ HB7 HB8 HB81 HVh1 HWT hQ HCl HMq HBq HBZ hl7 hz1' hbz hzc hl8 hbW
        subst hEq
        go_wp2_with fail
        go_loopw [34] (fun i wr => ∃ j : Nat, j ≤ ws.length ∧ .int .i64 (j : Int) = i ∧ Keeps (fun _ => False) wc wr ∧ Hid (givenErr l ws = givenErr l (ws.drop j))) (fun i _ => ws.length - (intOf i).toNat)
        case atStart => exact ⟨0, Nat.zero_le _, rfl, Keeps.refl _ _, rfl⟩
        case round =>
          obtain ⟨j, hj, rfl, hkr, hno⟩ := hrel
          obtain ⟨wx, hwx⟩ : ∃ wx, wx = wr := ⟨_, rfl⟩
          rw [← hwx] at hkr ⊢
          clear hwx
          have hw64 : ws.length ≤ 4097 := by have := HWL.out; have := HHL.out; omega
          by_cases hlt : j < ws.length
          · have hst := givenErr_step l ws j hlt
            obtain ⟨g, off, v1, hadr, hg, c0, c1, c2, c3, c4, hcs, hTh⟩ := Pred.get (HS1.out.keeps hkr (fun _ _ h => h)) hlt
            obtain rfl := hadr
            obtain ⟨A1, q1, rfl, _⟩ := hTh.form
            obtain ⟨h, hh⟩ : ∃ h, ws[j] = h := ⟨_, rfl⟩
            rw [hh] at hst c0 c1 c2 c3 c4 hcs hTh
            obtain ⟨b12, hb12⟩ : ∃ b12, wx.heap.size = b12 := ⟨_, rfl⟩
            obtain ⟨W12, hW12⟩ : ∃ W12, wx.alloc (.cells #[.string h.cls, .int .i64 h.ty.kind, .string h.ty.name, .int .i64 h.ty.var, .slice A1 h.ty.args.length q1] 35) = W12 := ⟨_, rfl⟩
            have hk12 : Keeps (fun _ => False) wx W12 := by rw [← hW12]; exact (Keeps.refl _ _).alloc _
            have hB12 : Blk W12 b12 35 [.string h.cls, .int .i64 h.ty.kind, .string h.ty.name, .int .i64 h.ty.var, .slice A1 h.ty.args.length q1] := by rw [← hW12, ← hb12]; exact Blk.new wx _ [_, _, _, _, _]
            have hkW := hkr.trans hk12 (fun _ _ h => h)
            have hsW := hkW.size
            have HFi := Lib.hid (find_any l h.cls _ F W12 (HVl2.out.keeps hkW (fun _ _ h => h)) (fun b hb => by have := HFc.out b hb; omega))
            have a0 := hB12.cell (i := 0) rfl
            have HTh := Lib.hid (hTh.keeps hk12 (fun _ _ h => h))
            have HNO := Lib.hid (hno.out.trans hst)
            have HKW := Lib.hid hkW
            have HB12 := Lib.hid hB12
            have HW12 := Lib.hid hW12
            have HBn12 := Lib.hid hb12
            have hsx : wx.heap.size ≤ W12.heap.size := hk12.size
            have HSX := Lib.hid hsx
            have hjl : (j : Int) < (ws.length : Int) := by omega
            have hj0 : (0 : Int) ≤ (j : Int) := by omega
            clear hst hno hkr hh hTh hB12 hk12 hkW hsW hW12 hb12 hcs hsx
            go_upto_region 9 with (fail)
            rw [HW12.out, HBn12.out]
            go_wp2_with fail
            with_reducible refine HFi.out.mono ?_
            rintro e w7 ⟨hk7, (⟨cc, A3, q3, A4, n4, q4, hfc, rfl, _⟩ | ⟨hfc, rfl⟩)⟩
            · have hkv := HKW.out.trans hk7 (fun _ _ h => h)
              have hb12 := HB12.out.keeps hk7 (fun h => h)
              have d1 := hb12.cell (i := 1) rfl
              have d2 := hb12.cell (i := 2) rfl
              have d3 := hb12.cell (i := 3) rfl
              have d4 := hb12.cell (i := 4) rfl
              have hl12 := hb12.lt
              have HKV := Lib.hid hkv
              have HT7 := Lib.hid (HTh.out.keeps hk7 (fun _ _ h => h))
              have HB87 := Lib.hid (HB82.out.keeps hkv (fun h => h))
              have HFC := Lib.hid hfc
              obtain ⟨ce, hce⟩ : ∃ ce, (chk h.ty 4096 false 1).1 = ce := ⟨_, rfl⟩
              have HCk : Hid (∀ X, Keeps (fun _ => False) w7 X → Calls Tryd.prog 11 #[.agg #[.int .i64 h.ty.kind, .string h.ty.name, .int .i64 h.ty.var, .slice A1 h.ty.args.length q1]] X (fun e w' => e = .returned (.int .i64 ce) ∧ Keeps (fun _ => False) X w')) := fun X hk => by
                have hx := check_any h.ty X (fun b => b < X.heap.size) _ ((HT7.out.keeps hk (fun _ _ h => h)).mono (fun b hb => by have := hkv.size; have := hk.size; omega)) (fun _ h => h) ((HZ2.out.keeps hkv (fun h => h)).keeps hk (fun h => h))
                unfold tyV at hx
                refine hx.mono ?_
                rintro e w' ⟨he, hb⟩
                exact ⟨by rw [he, hce], Keeps.of_below (X := fun _ => False) hb⟩
              have HCE := Lib.hid hce
              clear hkv hb12 hk7 hfc hce a0
              go_wp2_with fail
              with_reducible refine (HCk.out _ ((Keeps.refl _ _).alloc _)).mono ?_
              rintro e w8 ⟨rfl, hk8⟩
              have hk78 := ((Keeps.refl _ w7).alloc _).trans hk8 (fun _ _ h => h)
              have HK8 := Lib.hid hk78
              clear hk8 hk78 d1 d2 d3 d4
              by_cases h3 : ce = 0
              · have h3b : (ce != 0) = false := by rw [h3]; rfl
                have hrel : givenErr l ws = givenErr l (ws.drop (j + 1)) := HNO.out.trans (by rw [HFC.out, HCE.out, h3]; simp)
                have HRel := Lib.hid hrel
                clear hrel h3
                go_wp2_with fail
                go_roundw
                case rel => exact ⟨j + 1, by omega, by go_num, HKV.out.trans HK8.out (fun _ _ h => h), HRel.out⟩
                case measure => simp [intOf]; omega
              · have h3b : (ce != 0) = true := by rw [bne_iff_ne]; exact h3
                have hg : givenErr l ws = ce := HNO.out.trans (by rw [HFC.out, HCE.out]; simp [h3])
                have hr := HR3.out
                rw [hg, if_pos h3] at hr
                simp only [Option.some.injEq, Prod.mk.injEq] at hr
                obtain ⟨rfl, rfl⟩ := hr
                have hB88 := HB87.out.keeps HK8.out (fun h => h)
                have r0 := hB88.cell (i := 0) rfl
                have r1 := hB88.cell (i := 1) rfl
                have r2 := hB88.cell (i := 2) rfl
                have f0 := hB88.free 0
                have f1 := hB88.free 1
                have f2 := hB88.free 2
                have hl8 := hB88.lt
                have HB88 := Lib.hid hB88
                clear h3 hg hB88
                go_wp2_with fail
                obtain ⟨hB3, hK3⟩ := three HB88.out (.int .i64 0) (.int .i64 0) (.slice none 0 0)
                exact ret_row1 Tryd.results7 rfl rfl hB3 Tryd.underlying27 (by kernel_rfl) rfl ⟨entail_frame HBn.out HB0.out HBW.out HK0.out HK1.out HKc.out (HKV.out.trans HK8.out (fun _ _ h => h)) hK3, none, 0, rfl, ⟨by decide, by decide, Sl.nil_⟩⟩
            · have hg : givenErr l ws = 6 := HNO.out.trans (by rw [hfc]; simp)
              have hr := HR3.out
              rw [hg, if_pos (by decide)] at hr
              simp only [Option.some.injEq, Prod.mk.injEq] at hr
              obtain ⟨rfl, rfl⟩ := hr
              have hkv := HKW.out.trans hk7 (fun _ _ h => h)
              obtain ⟨W13, hW13⟩ : ∃ W13, w7.alloc (.cells #[.string ⟨#[]⟩, .slice none 0 0, .slice none 0 0] 42) = W13 := ⟨_, rfl⟩
              have hk13 : Keeps (fun _ => False) wc W13 := by rw [← hW13]; exact hkv.alloc _
              have hB88 := HB82.out.keeps hk13 (fun h => h)
              have r0 := hB88.cell (i := 0) rfl
              have r1 := hB88.cell (i := 1) rfl
              have r2 := hB88.cell (i := 2) rfl
              have f0 := hB88.free 0
              have f1 := hB88.free 1
              have f2 := hB88.free 2
              have hl8 := hB88.lt
              have HB88 := Lib.hid hB88
              have HK13 := Lib.hid hk13
              have HW13 := Lib.hid hW13
              clear hg hkv hk13 hB88 hW13 hk7 hfc a0
              go_upto_region 10 with (fail)
              rw [HW13.out]
              go_wp2_with fail
              obtain ⟨hB3, hK3⟩ := three HB88.out (.int .i64 0) (.int .i64 0) (.slice none 0 0)
              exact ret_row1 Tryd.results7 rfl rfl hB3 Tryd.underlying27 (by kernel_rfl) rfl ⟨entail_frame HBn.out HB0.out HBW.out HK0.out HK1.out HKc.out HK13.out hK3, none, 0, rfl, ⟨by decide, by decide, Sl.nil_⟩⟩
          · have hd : ws.drop j = [] := List.drop_eq_nil_of_le (by omega)
            have hg : givenErr l ws = 0 := by rw [hno.out, hd, givenErr]
            have hr := HR3.out
            rw [hg, if_neg (by decide)] at hr
            have hok := givenErr_ok hg
            have hins := instC_ok HIC0.out
            have hwn := hok want (by rw [← HWS2.out]; simp)
            have hE : EnvOk l s hs := ⟨hins.1.1, hins.1.2, instOk_of HIC0.out HFit.out, fun h hh => hok h (by rw [← HWS2.out]; exact List.mem_append_left _ hh), HHL.out⟩
            cases he : entailP l s hs k q want 1 4096 with
            | none => rw [he] at hr; cases hr
            | some x =>
              obtain ⟨p', e', left'⟩ := x
              rw [he] at hr
              simp only [Option.some.injEq, Prod.mk.injEq] at hr
              obtain ⟨rfl, rfl⟩ := hr
              obtain ⟨b16, hb16⟩ : ∃ b16, wx.heap.size = b16 := ⟨_, rfl⟩
              obtain ⟨W16, hW16⟩ : ∃ W16, wx.alloc (.cells #[.int .i64 4096] 3) = W16 := ⟨_, rfl⟩
              have hk16 : Keeps (fun _ => False) wc W16 := by rw [← hW16]; exact hkr.alloc _
              have hB16 : Blk W16 b16 3 [.int .i64 4096] := by rw [← hW16, ← hb16]; exact Blk.new wx _ [_]
              have hsx := hkr.size
              have hs16 := hk16.size
              have hFe : ∀ b, F b → b < W16.heap.size ∧ b ≠ b16 := fun b hb => by have := HFc.out b hb; omega
              have HEn := Lib.hid (entail_any l s hs hE k q W16 F F vl vi _ A c want 1 4096 b16 p' e' left' (HVl2.out.keeps hk16 (fun _ _ h => h)) (HVi2.out.keeps hk16 (fun _ _ h => h)) (HVh2.out.keeps hk16 (fun _ _ h => h)) hFe (HWT2.out.keeps hk16 (fun _ _ h => h)) hFe hwn.2.1 hwn.2.2 HWS.out hB16 (by decide) (by decide) (by decide) (by decide) he)
              have hb7 := HB72.out.keeps hk16 (fun h => h)
              have d0 := hb7.cell (i := 0) rfl
              have d1 := hb7.cell (i := 1) rfl
              have d2 := hb7.cell (i := 2) rfl
              have d3 := hb7.cell (i := 3) rfl
              have d4 := hb7.cell (i := 4) rfl
              have hl7 := hb7.lt
              have HB86 := Lib.hid (HB82.out.keeps hk16 (fun h => h))
              have HK16 := Lib.hid hk16
              have HW16 := Lib.hid hW16
              have HBn16 := Lib.hid hb16
              have hb8c := HB82.out.lt
              have hb816 : b7 + 1 ≠ b16 := by omega
              have HB816 := Lib.hid hb816
              have hB0b : B0 ≤ b16 := by have := HBW.out; omega
              have HB0b := Lib.hid hB0b
              have hBW16 : b7 ≤ W16.heap.size := by omega
              have HBW16 := Lib.hid hBW16
              have hjl : ¬ (j : Int) < (ws.length : Int) := by omega
              clear hd hg hok hins hwn hE he hno hkr hk16 hB16 hsx hs16 hFe hb7 hW16 hb16 hb8c hb816 hB0b hBW16
              go_upto_region 17 with (fail)
              rw [HW16.out, HBn16.out]
              go_wp2_with fail
              with_reducible refine HEn.out.mono ?_
              rintro e w9 ⟨_, hk9, A9, c9, rfl, hp9⟩
              have hB89 := HB86.out.keeps hk9 HB816.out
              have r0 := hB89.cell (i := 0) rfl
              have r1 := hB89.cell (i := 1) rfl
              have r2 := hB89.cell (i := 2) rfl
              have f0 := hB89.free 0
              have f1 := hB89.free 1
              have f2 := hB89.free 2
              have hl8 := hB89.lt
              have HB89 := Lib.hid hB89
              have HK9 := Lib.hid hk9
              have HP9 := Lib.hid hp9
              clear hB89 hk9 hp9 d0 d1 d2 d3 d4
              go_wp2_with fail
              obtain ⟨hB3, hK3⟩ := three HB89.out (.int .i64 p'.kind) (.int .i64 p'.num) (.slice A9 p'.subs.length c9)
              exact ret_row1 Tryd.results7 rfl rfl hB3 Tryd.underlying27 (by kernel_rfl) rfl ⟨entail_frame2 HBn.out HB0.out HBW.out HB0b.out HK0.out HK1.out HKc.out HK16.out HK9.out hK3, A9, c9, rfl, (HP9.out.keeps hK3 (fun i hi h => by have h2 : i = b7 + 1 := h; have := hi.1; have := HB86.out.lt; omega)).mono (fun b hb => ⟨by have := HBn.out; have := HBW16.out; omega, by have := hK3.size; omega⟩)⟩
  · have h1b : (ic != 0) = true := by rw [bne_iff_ne]; exact h1
    have hr := HR.out
    rw [if_pos h1] at hr
    simp only [Option.some.injEq, Prod.mk.injEq] at hr
    obtain ⟨rfl, rfl⟩ := hr
    clear h1
    go_wp2_with fail
    obtain ⟨hB3, hK3⟩ := three HB81.out (.int .i64 0) (.int .i64 0) (.slice none 0 0)
    have hbn := HBn.out
    exact ret_row1 Tryd.results7 rfl rfl hB3 Tryd.underlying27 (by kernel_rfl) rfl ⟨Keeps.of_below (X := fun _ => False) ((((HK0.out.trans HK1.out (fun _ _ h => h)).mono (Y := fun i => b7 ≤ i) (fun _ _ h => h.elim)).trans hK3 (fun i _ h => by have h2 : i = b7 + 1 := h; show b7 ≤ i; omega)).below (fun i hi => by have h2 : b7 ≤ i := hi; omega) (Nat.le_refl _)), none, 0, rfl, ⟨by decide, by decide, Sl.nil_⟩⟩
end Go.Proofs.YtdljlpogljjldaaDoor
