/- put and fail: a token, or an error, is appended. -/
import Derived.Test.YtnpgdeioaehahaaDoorLexRun
import Derived.Deep.RegionLaw
namespace Go.Proofs.YtnpgdeioaehahaaDoor
open Go.RowKit Go.Shelf

theorem infoTok : (Tryd.prog.info? 28).map (fun i => (i.zero, i.size, i.bytes)) = some (some (.agg #[.int .i64 0, .string ⟨#[]⟩, .int .i64 0, .int .i64 0, .int .i64 0]), 5, 48) := by kernel_rfl
theorem infoDiag : (Tryd.prog.info? 50).map (fun i => (i.zero, i.size, i.bytes)) = some (some (.agg #[.int .i64 0, .int .i64 0, .int .i64 0, .string ⟨#[]⟩]), 4, 40) := by kernel_rfl

theorem own_apart {w : World} {base base' : Nat} {e e' : TypeId} {size size' : Nat} {v v' : Value} {n n' : Nat} {xs xs' : List Value} (h : w.ownsRow base e size v n xs) (h' : w.ownsRow base' e' size' v' n' xs') (hne : e ≠ e') :
    ∀ i, v.ownBlock = some i → ¬ v'.ownBlock = some i := by
  intro i hi hj
  rcases h.2 with ⟨rfl, _⟩ | ⟨g, cap, cur, rfl, _, hh, _⟩
  · simp [Value.ownBlock] at hi
  · rcases h'.2 with ⟨rfl, _⟩ | ⟨g', cap', cur', rfl, _, hh', _⟩
    · simp [Value.ownBlock] at hj
    · have e1 : g = i := by simpa [Value.ownBlock] using hi
      have e2 : g' = i := by simpa [Value.ownBlock] using hj
      subst e1; subst e2
      rw [hh] at hh'
      injection hh' with hh'
      injection hh' with _ he
      exact hne he

section
variable {W W1 : World} {B p : Nat} {s : ByteArray} {at_ ln cl : Int} {ov bv : Value} {toks : List Tok} {bads : List (Int × Int × Int)}
/-- An error more. -/
theorem Sc.pushBad (h : Sc W B p s at_ ln cl ov bv toks bads) {v' : Value} {x : Int × Int × Int} (hk : Keeps (fun j => bv.ownBlock = some j) W W1)
    (hown : W1.ownsRow B 50 4 v' (bads.length + 1) (bads.flatMap dcells ++ dcells x)) :
    Sc (W1.setCell ⟨p, 5, none⟩ v') B p s at_ ln cl ov v' toks (bads ++ [x]) ∧ Keeps (fun j => B ≤ j) W (W1.setCell ⟨p, 5, none⟩ v') := by
  have hnb : ¬ (bv.ownBlock = some p) := own_ne_blk h.bds h.blk (by decide)
  have hb1 : Blk W1 p 46 _ := h.blk.keeps hk hnb
  have hno : ∀ i, ov.ownBlock = some i → ¬ bv.ownBlock = some i := own_apart h.outs h.bds (by decide)
  have k2 : Keeps (fun j => j = p) W1 (W1.setCell ⟨p, 5, none⟩ v') := (Keeps.refl (fun j => j = p) W1).setCell (p := ⟨p, 5, none⟩) (fun _ => rfl) v'
  have ho1 := own_keeps h.outs hk hno
  refine ⟨⟨hb1.set_ 5 v', own_keeps ho1 k2 (fun i hi e => own_ne_blk ho1 hb1 (by decide) (by rw [hi, e])), ?_, h.low⟩, ?_⟩
  · have := own_keeps hown k2 (fun i hi e => own_ne_blk hown hb1 (by decide) (by rw [hi, e]))
    rw [List.length_append, List.flatMap_append]
    simpa using this
  · exact (hk.mono (fun i _ hi => (h.bds.lt i hi).1)).trans (k2.mono (fun i _ hi => by rw [hi]; exact h.low)) (fun _ _ h => h)
end

set_option maxRecDepth 100000 in
set_option maxHeartbeats 4000000 in
theorem fail_any (W : World) (B p : Nat) (s : ByteArray) (at_ ln cl : Int) (ov bv : Value) (toks : List Tok) (bads : List (Int × Int × Int)) (h : Sc W B p s at_ ln cl ov bv toks bads) (c : Int) (hn : bads.length ≤ 100000) (hB : B ≤ W.heap.size) :
    Calls Tryd.prog 45 #[.pointer (some ⟨p, 0, none⟩), .int .i64 c] W fun e w' => e = .returned (.tuple #[]) ∧ ∃ bv', Sc w' B p s at_ ln cl ov bv' toks (bads ++ [(c, ln, cl)]) ∧ Below B W w' := by
  obtain ⟨i0, hi0, hz0, hz1, hz2⟩ := info_parts infoDiag
  have hown := h.bds
  have c2 := h.blk.cell (i := 2) rfl
  have c3 := h.blk.cell (i := 3) rfl
  have c5 := h.blk.cell (i := 5) rfl
  have f5 := h.blk.free 5
  have hpl := h.blk.lt
  have hne := own_ne_blk h.bds h.blk (by decide)
  obtain ⟨n, hnl⟩ : ∃ n, bads.length = n := ⟨_, rfl⟩
  rw [hnl] at hown hn
  go_enter Tryd.func45, Tryd.ntmps45
  go_wp2_with fail
  go_region_law (refine step_append_lies _ (by rfl) _ _ _ (by rfl) B 50 i0 _ 4 40 Tryd.underlying23 hi0 hz0 hz1 hz2 rfl (by omega) bv n (bads.flatMap dcells) (by rfl) ((hown.alloc _).drew) ⟨W.heap.size, 0, none⟩ 1 1 (dcells (c, ln, cl)) (by rfl) (by rfl) (World.news_of_block (cs := #[.int .i64 c, .int .i64 ln, .int .i64 cl, .string ⟨#[]⟩]) (t := 50) (fr := (0, 0)) (heap_alloc_new _ _)) (by simp [dcells, Value.oneCell']) (by omega) (by unfold maxLen; omega) (by omega) (by simp; omega) (W.heap.size + 1) (by simp) ?_; intro gg cap w1 hown1 hgrow hat hlt; have k5 : w1.cell? ⟨p, 5, none⟩ = some bv := (hgrow.cell_far _ (by simp; omega) (Ne.symm hne)).trans (by go_simp); have k6 : w1.frozen? ⟨p, 5, none⟩ = false := (hgrow.frozen_far _ (by simp; omega) (Ne.symm hne)).trans (by go_simp))
  all_goals
    have hk : Keeps (fun j => bv.ownBlock = some j) W w1 := (((Keeps.refl (fun j => bv.ownBlock = some j) W).alloc _).drew).grown hgrow (fun j hj _ => hj)
    subst hnl
    obtain ⟨h1, h2⟩ := h.pushBad hk hown1
    clear k5 k6 hgrow hat hown1
    go_wp2_with fail
    go_end0
    exact ⟨rfl, _, h1, h2.below (fun j hj => hj) hB⟩

section
variable {W W1 : World} {B p : Nat} {s : ByteArray} {at_ ln cl : Int} {ov bv : Value} {toks : List Tok} {bads : List (Int × Int × Int)}
/-- A token more. -/
theorem Sc.pushTok (h : Sc W B p s at_ ln cl ov bv toks bads) {v' : Value} {x : Tok} (hk : Keeps (fun j => ov.ownBlock = some j) W W1)
    (hown : W1.ownsRow B 28 5 v' (toks.length + 1) (toks.flatMap Tok.cells ++ x.cells)) :
    Sc (W1.setCell ⟨p, 4, none⟩ v') B p s at_ ln cl v' bv (toks ++ [x]) bads ∧ Keeps (fun j => B ≤ j) W (W1.setCell ⟨p, 4, none⟩ v') := by
  have hnb : ¬ (ov.ownBlock = some p) := own_ne_blk h.outs h.blk (by decide)
  have hb1 : Blk W1 p 46 _ := h.blk.keeps hk hnb
  have hno : ∀ i, bv.ownBlock = some i → ¬ ov.ownBlock = some i := own_apart h.bds h.outs (by decide)
  have k2 : Keeps (fun j => j = p) W1 (W1.setCell ⟨p, 4, none⟩ v') := (Keeps.refl (fun j => j = p) W1).setCell (p := ⟨p, 4, none⟩) (fun _ => rfl) v'
  have ho1 := own_keeps h.bds hk hno
  refine ⟨⟨hb1.set_ 4 v', ?_, own_keeps ho1 k2 (fun i hi e => own_ne_blk ho1 hb1 (by decide) (by rw [hi, e])), h.low⟩, ?_⟩
  · have := own_keeps hown k2 (fun i hi e => own_ne_blk hown hb1 (by decide) (by rw [hi, e]))
    rw [List.length_append, List.flatMap_append]
    simpa using this
  · exact (hk.mono (fun i _ hi => (h.outs.lt i hi).1)).trans (k2.mono (fun i _ hi => by rw [hi]; exact h.low)) (fun _ _ h => h)
end

set_option maxRecDepth 100000 in
set_option maxHeartbeats 16000000 in
theorem put_any (W : World) (B p : Nat) (s : ByteArray) (at_ ln cl : Int) (ov bv : Value) (toks : List Tok) (bads : List (Int × Int × Int)) (h : Sc W B p s at_ ln cl ov bv toks bads) (kd num : Int) (u : ByteArray)
    (hn : toks.length ≤ 100000) (hB : B ≤ W.heap.size) (hu : u.size ≤ 8192) (h0 : 0 ≤ at_ ∧ 0 ≤ cl) (h1 : at_ ≤ 100000 ∧ cl ≤ 100000) :
    Calls Tryd.prog 18 #[.pointer (some ⟨p, 0, none⟩), .int .i64 kd, .string u, .int .i64 num] W fun e w' => e = .returned (.tuple #[]) ∧
      ∃ ov', Sc w' B p s (at_ + u.size) ln (cl + u.size) ov' bv (toks ++ [⟨kd, u, num, ln, cl⟩]) bads ∧ Below B W w' := by
  obtain ⟨i0, hi0, hz0, hz1, hz2⟩ := info_parts infoTok
  have hc2 := h.blk.cell (i := 2) rfl
  have hc3 := h.blk.cell (i := 3) rfl
  have hc4 := h.blk.cell (i := 4) rfl
  have f4 := h.blk.free 4
  have hpl := h.blk.lt
  have hne := own_ne_blk h.outs h.blk (by decide)
  have HCl := Lib.hid (fun (V : World) (hk : Keeps (fun _ => False) W V) => ((strClone u V (by omega)).mono (R' := fun e w' => e = .returned (.string u) ∧ Keeps (fun _ => False) W w') fun e w' ⟨he, hb⟩ => ⟨he, hk.trans (Keeps.of_below (X := fun _ => False) hb) (fun _ _ h => h)⟩))
  have HSk := Lib.hid (fun (V : World) (ov' : Value) (tk : List Tok) (hS : Sc V B p s at_ ln cl ov' bv tk bads) (hb : B ≤ V.heap.size) => skip_any V B p s at_ ln cl ov' bv tk bads hS (u.size : Int) ⟨h0.1, h0.2, by omega⟩ ⟨h1.1, h1.2, by omega⟩ hb)
  have hub : (u.size : Int) ≤ 8192 := by omega
  clear h0 h1
  go_enter Tryd.func18, Tryd.ntmps18
  go_wp2_with fail
  have hown := h.outs
  obtain ⟨n, hnl⟩ : ∃ n, toks.length = n := ⟨_, rfl⟩
  rw [hnl] at hown hn
  go_region_law (first
    | (refine step_append_lies _ (by rfl) _ _ _ (by rfl) B 28 i0 _ 5 48 Tryd.underlying22 hi0 hz0 hz1 hz2 rfl (by omega) ov n (toks.flatMap Tok.cells) (by rfl) (hownV.alloc _) ⟨w1.heap.size, 0, none⟩ 1 1 (Tok.cells ⟨kd, u, num, ln, cl⟩) (by rfl) (by rfl) (World.news_of_block (cs := #[.int .i64 kd, .string u, .int .i64 num, .int .i64 ln, .int .i64 cl]) (t := 28) (fr := (0, 0)) (heap_alloc_new _ _)) (by simp [Tok.cells, Value.oneCell']) (by omega) (by unfold maxLen; omega) (by omega) (by simp; omega) (w1.heap.size + 1) (by simp) ?_; intro gg cap w2 hown1 hgrow hat hlt; have k5 : w2.cell? ⟨p, 4, none⟩ = some ov := (hgrow.cell_far _ (by simp; omega) (Ne.symm hne)).trans (by go_simp); have k6 : w2.frozen? ⟨p, 4, none⟩ = false := (hgrow.frozen_far _ (by simp; omega) (Ne.symm hne)).trans (by go_simp))
    | (go_simp; go_at_call 46; refine (HCl.out _ (by repeat (first | assumption | exact Keeps.refl _ _ | refine Keeps.drewN ?_ _ | refine Keeps.drew ?_))).mono ?_; rintro e w1 ⟨rfl, hkV⟩; have hownV := own_keeps hown hkV (fun _ _ h => h); have hszV := hkV.size; have hblkV := h.blk.keeps hkV (fun h => h); have x2 := hblkV.cell (i := 2) rfl; have x3 := hblkV.cell (i := 3) rfl; have x4 := hblkV.cell (i := 4) rfl; have x5 := hblkV.free 4; have x6 := hblkV.lt; go_wp2_with fail))
  all_goals
    have hk : Keeps (fun j => ov.ownBlock = some j) w1 w2 := ((Keeps.refl (fun j => ov.ownBlock = some j) w1).alloc _).grown hgrow (fun j hj _ => hj)
    subst hnl
    obtain ⟨y1, y2⟩ := (h.keeps hkV).pushTok (x := ⟨kd, u, num, ln, cl⟩) hk hown1
    have hyb : B ≤ (w2.setCell ⟨p, 4, none⟩ (.slice (some ⟨gg, 0, none⟩) (toks.length + 1) cap)).heap.size := Nat.le_trans (Nat.le_trans hB hszV) y2.size
    have HS1 := Lib.hid (HSk.out _ _ _ y1 hyb)
    have hbl : Below B W (w2.setCell ⟨p, 4, none⟩ (.slice (some ⟨gg, 0, none⟩) (toks.length + 1) cap)) := (hkV.below (fun _ h => h.elim) hB).trans (y2.below (fun j hj => hj) (Nat.le_trans hB hszV))
    clear k5 k6 hgrow hat hown1 HSk HCl hownV hown x2 x3 x4 x5 hc2 hc3 hc4 f4
    go_wp2_with fail
    with_reducible refine HS1.out.mono ?_
    rintro e w3 ⟨rfl, z1, z2⟩
    go_wp2_with fail
    go_end0
    exact ⟨rfl, _, z1, hbl.trans z2⟩
end Go.Proofs.YtnpgdeioaehahaaDoor
