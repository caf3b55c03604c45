/- slices.Clone at a substitution; unify.Extend. -/
import Derived.Test.YthchnabhbpdfgaaDoorUUni
namespace Go.Proofs.YthchnabhbpdfgaaDoor
open Go.RowKit Go.Shelf

theorem infoTyC : (Tryd.prog.info? 24).map (fun i => (i.zero, i.size, i.bytes)) = some (some (.agg #[.int .i64 0, .string ⟨#[]⟩, .int .i64 0, .slice none 0 0]), 4, 56) := by kernel_rfl

def TyCloned (l : List Ty) (F : Nat → Prop) (w : World) (e : Ending) (w' : World) : Prop :=
  ∃ v' xs, e = .returned v' ∧ w'.ownsRow w.heap.size 24 4 v' l.length xs ∧ RpAll w' F (l.map tyD) xs ∧ Below w.heap.size w w'

set_option maxHeartbeats 400000 in
theorem tyClone (l : List Ty) (v : Value) (F : Nat → Prop) (w : World) (hv : Sl w F tyD l v) (hF : ∀ b, F b → b < w.heap.size) (hlen : l.length * 56 ≤ 140737488355328) :
    Calls Tryd.prog 28 #[v] w (TyCloned l F w) := by
  obtain ⟨i0, hi0, hz0, hz1, hz2⟩ := info_parts infoTyC
  obtain ⟨A, c, rfl, hlc, hcm, hcn⟩ := hv.form
  have hl : l.length ≤ 9223372036854775807 := by unfold maxLen at hcm; omega
  rcases A with _ | ad
  · have hc0 := hcn rfl
    have hl0 : l.length = 0 := by omega
    have hl1 := List.eq_nil_of_length_eq_zero hl0
    subst hl1
    subst hc0
    have hn := fun (W : World) => Lib.run_eql_slice_nil (P := Tryd.prog) W 25 24 none 0 0 0 0 Tryd.underlying25
    go_enter Tryd.func28, Tryd.ntmps28
    go_wp2
    go_ret
    exact ⟨_, [], rfl, World.ownsRow_nil _ _ _ _, by simp [RpAll], Below.refl _ _⟩
  · have hn := fun (W : World) => Lib.run_eql_slice_nil (P := Tryd.prog) W 25 24 (some ad) l.length c 0 0 Tryd.underlying25
    have hown := World.ownsRow_lit (base := w.heap.size) (e := 24) (size := 4) w #[] 0 (Nat.le_refl _) (by unfold maxLen; omega) (by simp)
    have hb0 : Below w.heap.size w (w.alloc (.cells #[] 24)) := (Below.refl _ _).alloc (Nat.le_refl _) _
    have hv0 := hv.later hb0
    go_enter Tryd.func28, Tryd.ntmps28
    go_wp2_with (at_builtin; refine wpList_append_sl _ rfl _ _ 25 rfl w.heap.size 24 i0 _ 4 56 Tryd.underlying25 hi0 hz0 hz1 hz2 rfl (by omega) _ 0 [] rfl hown tyD tyD.wide F l _ _ _ rfl hv0 (by unfold maxLen; omega) (by omega) (by simp) ?_; intro v' w1 news hnews hown1 hgrow hat)
    go_ret
    simp only [Nat.zero_add, List.nil_append] at hown1
    refine ⟨v', news, rfl, hown1, hnews.grown hgrow ?_, hb0.grown hgrow (by simp) ?_⟩
    · intro b hb h
      have := hF b hb
      have h2 : some b = some w.heap.size := h
      injection h2 with h2
      omega
    · intro k hk
      have h2 : some w.heap.size = some k := hk
      injection h2 with h2
      omega

/-- What Extend and Unify answer: a substitution, or what is wrong. -/
def SubstPost (F : Nat → Prop) (W : World) (r : Int) (σ' : List Ty) (e : Ending) (w' : World) : Prop :=
  Below W.heap.size W w' ∧ ((r ≠ 0 ∧ e = .returned (.tuple #[.slice none 0 0, .int .i64 r])) ∨ (r = 0 ∧ ∃ g cap, e = .returned (.tuple #[.slice (some ⟨g, 0, none⟩) σ'.length cap, .int .i64 0]) ∧ Sl w' (fun b => F b ∨ (W.heap.size ≤ b ∧ b < w'.heap.size)) tyD σ' (.slice (some ⟨g, 0, none⟩) σ'.length cap)))

set_option maxRecDepth 100000 in
set_option maxHeartbeats 4000000 in
theorem extend_any (k q : Nat) (F : Nat → Prop) (W : World) (sv : Value) (σ : List Ty) (hS : Sl W F tyD σ sv) (hF : ∀ b, F b → b < W.heap.size) (hn : σ.length ≤ 4096) (h0 : 0 < σ.length) (hσ : SubIn σ) (a b : Ty) (av bv : Value) (hTa : TyC W F a av) (hTb : TyC W F b bv) (hVa : VIn σ a) (hVb : VIn σ b) (r : Int) (σ' : List Ty)
    (hr : unifyP k q σ a b = some (r, σ')) :
    Calls Tryd.prog 18 #[sv, tyV a av, tyV b bv] W (SubstPost F W r σ') := by
  obtain ⟨A, c, rfl, hlc, hcm, _⟩ := hS.form
  obtain ⟨A1, c1, rfl, hlc1, hcm1, _⟩ := hTa.form
  obtain ⟨A2, c2, rfl, hlc2, hcm2, _⟩ := hTb.form
  obtain ⟨b0, hb0⟩ : ∃ b0, W.heap.size = b0 := ⟨_, rfl⟩
  obtain ⟨W0, hW0⟩ : ∃ W0, (W.alloc (.cells #[.int .i64 a.kind, .string a.name, .int .i64 a.var, .slice A1 a.args.length c1] 24)).alloc (.cells #[.int .i64 b.kind, .string b.name, .int .i64 b.var, .slice A2 b.args.length c2] 24) = W0 := ⟨_, rfl⟩
  have hk0 : Keeps (fun _ => False) W W0 := by rw [← hW0]; exact ((Keeps.refl _ _).alloc _).alloc _
  have hA3 : Blk W0 b0 24 [.int .i64 a.kind, .string a.name, .int .i64 a.var, .slice A1 a.args.length c1] := by
    rw [← hW0, ← hb0]; exact (Blk.new W _ [_, _, _, _]).alloc _
  have hB3 : Blk W0 (b0 + 1) 24 [.int .i64 b.kind, .string b.name, .int .i64 b.var, .slice A2 b.args.length c2] := by
    have := Blk.new (W.alloc (.cells #[.int .i64 a.kind, .string a.name, .int .i64 a.var, .slice A1 a.args.length c1] 24)) 24 [.int .i64 b.kind, .string b.name, .int .i64 b.var, .slice A2 b.args.length c2]
    rw [hW0] at this
    simpa [hb0] using this
  have hs0 := hk0.size
  have hF0 : ∀ b, F b → b < W0.heap.size := fun b hb => Nat.lt_of_lt_of_le (hF b hb) hs0
  have HCl := Lib.hid (tyClone σ _ F W0 (hS.keeps hk0 (fun _ _ h => h)) hF0 (by omega))
  have hTa0 := hTa.keeps hk0 (fun _ _ h => h)
  have hTb0 := hTb.keeps hk0 (fun _ _ h => h)
  have HTa := Lib.hid hTa0
  have HTb := Lib.hid hTb0
  have HA3 := Lib.hid hA3
  have HB3 := Lib.hid hB3
  have HW0 := Lib.hid hW0
  have HB0 := Lib.hid hb0
  have HK0 := Lib.hid hk0
  have HF := Lib.hid hF
  have HR := Lib.hid hr
  have HN := Lib.hid hn
  have HVa := Lib.hid hVa
  have HVb := Lib.hid hVb
  have Hσ := Lib.hid hσ
  have H0 := Lib.hid h0
  unfold tyV
  clear hS hTa hTb hTa0 hTb0 hA3 hB3 hW0 hb0 hk0 hF hF0 hr hn hVa hVb hσ h0
  go_enter Tryd.func18, Tryd.ntmps18
  go_wp2_with fail
  rw [HW0.out, HB0.out]
  with_reducible refine HCl.out.mono ?_
  rintro e w1 ⟨v', xs, rfl, hown, hx, hb1⟩
  obtain ⟨g, cap, cur, rfl, hbg, hgc, hnc, hcm', hcs, hct⟩ : ∃ g cap cur, v' = .slice (some ⟨g, 0, none⟩) σ.length cap ∧ W0.heap.size ≤ g ∧ w1.heap[g]? = some (.cells cur 24 (0, 0)) ∧ σ.length ≤ cap ∧ cap ≤ maxLen ∧ cur.size = cap * 4 ∧ cur.toList.take (σ.length * 4) = xs := by
    rcases hown.2 with ⟨_, h⟩ | h
    · have := H0.out; omega
    · exact h
  obtain ⟨p, hp⟩ : ∃ p, w1.heap.size = p := ⟨_, rfl⟩
  obtain ⟨W2, hW2⟩ : ∃ W2, w1.alloc (.cells #[.slice (some ⟨g, 0, none⟩) σ.length cap] 56) = W2 := ⟨_, rfl⟩
  have hk2 : Keeps (fun _ => False) w1 W2 := by rw [← hW2]; exact (Keeps.refl _ _).alloc _
  have hglt : g < w1.heap.size := heap_lt hgc
  have hP : Blk W2 p 56 [.slice (some ⟨g, 0, none⟩) σ.length cap] := by rw [← hW2, ← hp]; exact Blk.new w1 _ [_]
  have hG : Blk w1 g 24 cur.toList := by unfold Blk; rw [hgc]
  have hbs := hb1.size
  have hks := HK0.out.size
  have hk2s := hk2.size
  have hpl := hP.lt
  have hU : Uni F W2 p (.slice (some ⟨g, 0, none⟩) σ.length cap) g σ :=
    ⟨hP, ⟨cap, cur.toList, rfl, hG.keeps hk2 (fun h => h), hnc, hcm', by rw [Array.length_toList, hcs], by rw [hct]; exact hx.frame (fun _ h => h) (fun _ _ _ _ hc => hk2.cell hc (fun h => h))⟩, by omega, Hσ.out, fun b hb => by have := HF.out b hb; exact ⟨by omega, by omega, by omega⟩⟩
  have hb2 : Below W0.heap.size W0 W2 := hb1.trans (hk2.below (fun _ h => h.elim) hbs)
  have hyp := uni_any k q F W2 p _ g σ a b _ _ r σ' hU HN.out (HTa.out.later hb2) (HTb.out.later hb2) HVa.out HVb.out HR.out
  unfold tyV at hyp
  have HC := Lib.hid hyp
  have a0 := (HA3.out.later hb1).cell (i := 0) rfl
  have a1 := (HA3.out.later hb1).cell (i := 1) rfl
  have a2 := (HA3.out.later hb1).cell (i := 2) rfl
  have a3 := (HA3.out.later hb1).cell (i := 3) rfl
  have q0 := (HB3.out.later hb1).cell (i := 0) rfl
  have q1 := (HB3.out.later hb1).cell (i := 1) rfl
  have q2 := (HB3.out.later hb1).cell (i := 2) rfl
  have q3 := (HB3.out.later hb1).cell (i := 3) rfl
  have HW2 := Lib.hid hW2
  have HP0 := Lib.hid hp
  have HBb := Lib.hid hb2
  have hg2 : W.heap.size ≤ g := by omega
  have hbl := (HB3.out.later hb1).lt
  have hbl0 := (HA3.out.later hb1).lt
  have hp2 : W.heap.size ≤ p := by omega
  clear hown hx hb1 hgc hcs hct hW2 hk2 hP hG hU hb2 hyp hp
  go_wp2_with fail
  rw [HW2.out, HP0.out]
  with_reducible refine HC.out.mono ?_
  rintro e w5 ⟨rfl, F5, sv5, g5, hN⟩
  have hb5 : Below W.heap.size W w5 := ((HK0.out.below (fun _ h => h.elim) (Nat.le_refl _)).trans (HBb.out.mono HK0.out.size)).trans (hN.keeps.below (fun i h => by omega) (by have := HBb.out.size; omega))
  have HB5 := Lib.hid hb5
  obtain ⟨cap5, rfl, _, _⟩ := hN.uni.form
  have u0 := hN.uni.blk.cell (i := 0) rfl
  have HN5 := Lib.hid hN
  clear hN hb5
  by_cases h2 : r = 0
  · have h2b : (r != 0) = false := by rw [h2]; rfl
    have H2 := Lib.hid h2
    clear h2
    go_wp2_with fail
    go_ret2
    have hsl : Sl w5 (fun b => F b ∨ (W.heap.size ≤ b ∧ b < w5.heap.size)) tyD σ' (.slice (some ⟨g5, 0, none⟩) σ'.length cap5) := by
      have h6 := HN5.out
      have hgl := h6.uni.glt
      have hbz := HBb.out.size
      refine h6.uni.sle.sl (fun b hb => ?_) (fun b hb => ?_)
      · rw [hb]
        rcases h6.at_ with h | h
        · exact .inr ⟨by omega, hgl⟩
        · exact .inr ⟨by omega, hgl⟩
      · rcases h6.new b hb with h | h
        · exact .inl h
        · exact .inr ⟨by omega, (h6.uni.im b hb).1⟩
    exact ⟨HB5.out, .inr ⟨H2.out, g5, cap5, rfl, hsl⟩⟩
  · have h2b : (r != 0) = true := by rw [bne_iff_ne]; exact h2
    have H2 := Lib.hid h2
    clear h2
    go_wp2_with fail
    go_ret2
    exact ⟨HB5.out, .inl ⟨H2.out, rfl⟩⟩
end Go.Proofs.YthchnabhbpdfgaaDoor
