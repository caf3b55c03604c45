/- The layout's marker: enclosing, told of the stack alone. -/
import Derived.Test.YtnkbpjmijeeddaaGreatDoorBackC
import Derived.Deep.RegionHeld3
import Derived.WalkSmall
import Derived.Deep.DeepCutAuto
namespace Go.Proofs.YtnkbpjmijeeddaaGreatDoor
open Go.RowKit Go.Shelf
attribute [local go_sem] Oper.semAt_some

theorem encl_bkl (s : List Ctx) : ∀ j, j ≤ s.length → (∀ x ∈ bkl s.length j, ¬ 0 < (s[x.1]).col) → enclP s = enclL (s.take (s.length - j)).reverse
  | 0, _, _ => by rw [Nat.sub_zero, List.take_of_length_le (Nat.le_refl _)]; rfl
  | j + 1, h, hx => by
    rw [bkl_succ (by omega)] at hx
    have h1 := encl_bkl s j (by omega) (fun x hm => hx x (List.mem_append_left _ hm))
    have h2 := hx ⟨s.length - 1 - j, by omega⟩ (by simp)
    have hi : s.length - (j + 1) < s.length := by omega
    have e : s.take (s.length - j) = s.take (s.length - (j + 1)) ++ [s[s.length - (j + 1)]] := by
      rw [show s.length - j = s.length - (j + 1) + 1 by omega, List.take_succ_eq_append_getElem hi]
    have h3 : ¬ 0 < (s[s.length - (j + 1)]).col := by
      have e2 : s.length - 1 - j = s.length - (j + 1) := by omega
      simp only [e2] at h2
      exact h2
    rw [h1, e, List.reverse_append, List.reverse_singleton, List.singleton_append, enclL, if_neg h3]
theorem encl_none (s : List Ctx) (h : ∀ x ∈ bkl s.length s.length, ¬ 0 < (s[x.1]).col) : enclP s = 0 := by
  rw [encl_bkl s s.length (Nat.le_refl _) h, Nat.sub_self]; rfl
theorem encl_some (s : List Ctx) (j : Nat) (hj : j < s.length) (h : ∀ x ∈ bkl s.length j, ¬ 0 < (s[x.1]).col) (hc : 0 < (s[s.length - 1 - j]'(by omega)).col) : enclP s = (s[s.length - 1 - j]'(by omega)).col := by
  have hi : s.length - (j + 1) < s.length := by omega
  have e : s.take (s.length - j) = s.take (s.length - (j + 1)) ++ [s[s.length - (j + 1)]] := by
    rw [show s.length - j = s.length - (j + 1) + 1 by omega, List.take_succ_eq_append_getElem hi]
  have e2 : s.length - 1 - j = s.length - (j + 1) := by omega
  simp only [e2] at hc ⊢
  rw [encl_bkl s j (by omega) h, e, List.reverse_append, List.reverse_singleton, List.singleton_append, enclL, if_pos hc]
/-- While nothing has been found. -/
structure En (s : List Ctx) (N0 : Nat) (w2 : World) (pre : List { i : Nat // i < s.length }) (W : World) : Prop where
  none_ : ∀ x ∈ pre, ¬ 0 < (s[x.1]).col
  keeps : Keeps (fun i => N0 ≤ i) w2 W
/-- A block was found. -/
structure Ex (s : List Ctx) (b2 N0 : Nat) (w2 : World) (pre : List { i : Nat // i < s.length }) (W : World) : Prop where
  found : ∃ p x, pre = p ++ [x] ∧ (∀ y ∈ p, ¬ 0 < (s[y.1]).col) ∧ 0 < (s[x.1]).col ∧ Blk W b2 3 [.int .i64 (s[x.1]).col]
  keeps : Keeps (fun i => i = b2 ∨ N0 ≤ i) w2 W
theorem en_own {s : List Ctx} {N0 : Nat} {w2 : World} : OwnFrom N0 (fun (pre : List { i : Nat // i < s.length }) W => En s N0 w2 pre W) := by
  intro pre W W' row h hg hr
  exact ⟨h.none_, h.keeps.grown hg (fun i e _ => (hr i e).1)⟩
theorem ex_own {s : List Ctx} {b2 N0 : Nat} {w2 : World} (hb : b2 < N0) : OwnFrom N0 (fun (pre : List { i : Nat // i < s.length }) W => Ex s b2 N0 w2 pre W) := by
  intro pre W W' row h hg hr
  obtain ⟨p, x, h1, h2, h3, h4⟩ := h.found
  exact ⟨⟨p, x, h1, h2, h3, (hg.block b2 h4.lt (fun e => by have := (hr b2 e.symm).1; omega)).trans h4⟩, h.keeps.grown hg (fun i e _ => .inr (hr i e).1)⟩
set_option maxRecDepth 100000 in
set_option maxHeartbeats 8000000 in
theorem encl_gen (W : World) (bm om : Nat) (A : Option Addr) (cc : Nat) (s : List Ctx) (hln : s.length ≤ 9223372036854775807) (hbm : W.cell? ⟨bm, om, none⟩ = some (.slice A s.length cc))
    (hcs : ∃ g off, (0 < s.length → A = some ⟨g, off, none⟩) ∧ (0 < s.length → g < W.heap.size) ∧ ∀ k (hk : k < s.length), W.cell? ⟨g, off + k * 2, none⟩ = some (.int .i64 (s[k]).col) ∧ W.cell? ⟨g, off + k * 2 + 1, none⟩ = some (.string (s[k]).op)) :
    Calls Tryz.prog 21 #[.pointer (some ⟨bm, om, none⟩)] W (fun e w' => e = .returned (.int .i64 (enclP s)) ∧ Keeps (fun _ => False) W w') := by
  obtain ⟨b2, hb2⟩ : ∃ b2, W.heap.size = b2 := ⟨_, rfl⟩
  obtain ⟨W0, hW0⟩ : ∃ W0, W.alloc (.cells #[.int .i64 0] 3) = W0 := ⟨_, rfl⟩
  have hk0 : Keeps (fun _ => False) W W0 := by rw [← hW0]; exact (Keeps.refl _ _).alloc _
  have hB2 : Blk W0 b2 3 [.int .i64 0] := by rw [← hW0, ← hb2]; exact Blk.new W _ [_]
  have c0 := hk0.cell hbm (fun h => h)
  have hl0 := block_lt_of_cell c0
  have hs0 := hk0.size
  have HCells : Hid (∃ g off, (0 < s.length → A = some ⟨g, off, none⟩) ∧ (0 < s.length → g < b2) ∧ ∀ k (hk : k < s.length), W0.cell? ⟨g, off + k * 2, none⟩ = some (.int .i64 (s[k]).col) ∧ W0.cell? ⟨g, off + k * 2 + 1, none⟩ = some (.string (s[k]).op)) := by
    obtain ⟨g, off, h1, h2, h3⟩ := hcs
    exact ⟨g, off, h1, fun h => by have := h2 h; omega, fun k hk => ⟨hk0.cell (h3 k hk).1 (fun h => h), hk0.cell (h3 k hk).2 (fun h => h)⟩⟩
  have HB2 := Lib.hid hB2
  have HK0 := Lib.hid hk0
  have HW0 := Lib.hid hW0
  have HBn := Lib.hid hb2
  clear hbm hcs hk0 hB2 hW0 hb2
  refine (callsIn_wide (n := 4)).1 ?_
  refine callsIn_of_wp_marks Tryz.func21 rfl trivial ?_ rfl
  refine wpIn_wide.2 ?_
  simp only [Tryz.ntmps21, List.size_toArray, List.length_cons, List.length_nil, Nat.reduceAdd, Nat.reduceSub, Array.replicate_succ, Array.replicate_zero, List.push_toArray, List.append_toArray, List.nil_append, List.cons_append]
  go_upto_region 1 with (fail)
  rw [HW0.out, HBn.out]
  go_wp2_with ((go_at_call 51; with_reducible refine (backward_any _ _ _ _).mono ?_); rintro e w1 ⟨rfl, rfl⟩)
  obtain ⟨w2, hw2⟩ : ∃ w2, W0.alloc (.cells #[.slice A s.length cc] 64) = w2 := ⟨_, rfl⟩
  have hbx := Blk.new W0 64 [.slice A s.length cc]
  have hk2 : Keeps (fun _ => False) W0 w2 := by rw [← hw2]; exact (Keeps.refl _ _).alloc _
  have hz2 : w2.heap.size = W0.heap.size + 1 := by rw [← hw2]; simp
  rw [hw2] at hbx ⊢
  obtain ⟨bs, hbs⟩ : ∃ bs, W0.heap.size = bs := ⟨_, rfl⟩
  simp only [hbs] at hbx hz2 ⊢
  have HBX := Lib.hid hbx
  have HK2 := Lib.hid hk2
  have HZ2 := Lib.hid hz2
  have HBS := Lib.hid hbs
  obtain ⟨el, hel⟩ : ∃ el : Nat → V2, ∀ k (hk : k < s.length), el k = ⟨.int .i64 (s[k]).col, .string (s[k]).op⟩ := ⟨fun k => ⟨.int .i64 ((s[k]?).getD zCtx).col, .string ((s[k]?).getD zCtx).op⟩, fun k hk => by simp [hk]⟩
  have HEL := Lib.hid hel
  have HN : Hid (b2 < w2.heap.size) := by have := HB2.out.lt; show _ < _; omega
  clear hbx hk2 hw2 hz2 hbs hel c0
  refine range_box (n := 4) (by omega) (gf := 71) (lb := #[.pointer (some ⟨bs, 0, none⟩)]) rfl (enters_of Tryz.func71 (by kernel_rfl) rfl)
    (e1 := fun x : { i : Nat // i < s.length } => .int .i64 (x.1 : Int)) (e2 := fun x => .agg #[(el x.1).e0, (el x.1).e1]) (Kp := Keeps (fun i => i = b2 ∨ w2.heap.size ≤ i)) (S := fun xs => xs = bkl s.length s.length) (Sp := fun pre => ∃ k, k ≤ s.length ∧ pre = bkl s.length k) (N := s.length) ?seq (fun h k => h.trans k (fun _ _ h => h)) (fun W l o o' h1 h2 _ _ => (keeps_putObj0 W l o o' h1 h2).mono (fun _ _ h => .inr h))
    (fun pre W => En s w2.heap.size w2 pre W) (fun pre W => Ex s b2 w2.heap.size w2 pre W) en_own (ex_own HN.out) ?h0 4 72 (fun x => [(el x.1).e0, (el x.1).e1]) ?assign ?body (fun pre W h => h.keeps.size) ?done ?stop
  case seq =>
    intro l J Jx W1 hW1 _ _ hY h0
    obtain ⟨g, off, hA, hgl, hcs⟩ := HCells.out
    refine (back_in 3 l bs g off s.length cc A hA hln el (Keeps (fun i => i = b2 ∨ w2.heap.size ≤ i)) (fun W => Keeps.refl _ W) (fun h k => h.trans k (fun _ _ h => h)) J Jx hY W1 (fun W' hk => ?_) h0).mono (fun e W' h => h)
    have hz2 := HZ2.out
    have hbl := HB2.out.lt
    have hbs := HBS.out
    refine ⟨hk.cell ((hW1.cell (p := ⟨bs, 0, none⟩) (show bs < w2.heap.size by omega)).trans (HBX.out.cell (i := 0) rfl)) (fun h => by rcases h with h | h <;> (simp only at h; omega)), fun k hkl => ?_⟩
    have hg := hgl (by omega)
    obtain ⟨d0, d1⟩ := hcs k hkl
    rw [HEL.out k hkl]
    exact ⟨hk.cell ((hW1.cell (p := ⟨g, off + k * 2, none⟩) (show g < w2.heap.size by omega)).trans (HK2.out.cell d0 (fun h => h))) (fun h => by rcases h with h | h <;> (simp only at h; omega)), hk.cell ((hW1.cell (p := ⟨g, off + k * 2 + 1, none⟩) (show g < w2.heap.size by omega)).trans (HK2.out.cell d1 (fun h => h))) (fun h => by rcases h with h | h <;> (simp only at h; omega))⟩
  case h0 => exact ⟨(fun x hx => by cases hx), Keeps.refl _ _⟩
  case assign =>
    intro l pre x W1 K hsz hI hK
    have he := HEL.out x.1 x.2
    have hK2 := hK W1.heap.size (W1.alloc (.cells #[.int .i64 (s[x.1]).col, .string (s[x.1]).op] 72)) ((KeepsOthers.alloc _ _).from _) ((Keeps.refl _ _).alloc _) (en_own.alloc _ hI) hsz (by rw [he]; exact Blk.new W1 _ [_, _])
    have HK2' := Lib.hid hK2
    clear hK hK2
    simp only [he] at HK2' ⊢
    clear he
    gi_wp2
    exact HK2'.out
  case body =>
    intro l pre x Bx W1 hI hBx hblk
    have he := HEL.out x.1 x.2
    simp only [he] at hblk ⊢
    obtain ⟨c, hc⟩ : ∃ c, s[x.1] = c := ⟨_, rfl⟩
    rw [hc] at hblk ⊢
    have HC := Lib.hid hc
    have hb2 := (HB2.out.keeps HK2.out (fun h => h)).keeps hI.keeps (fun h => by have := HN.out; omega)
    have x0 := hblk.cell (i := 0) rfl
    have y0 := hb2.cell (i := 0) rfl
    have f0 := hb2.free 0
    have hl2 := hb2.lt
    have hlx := hblk.lt
    have HI := Lib.hid hI
    have HB := Lib.hid hb2
    clear he hc hI hb2 hblk
    refine wpIn_block ?_
    simp only [List.setIfInBounds_toArray, List.set_cons_zero, List.set_cons_succ]
    by_cases hcol : 0 < c.col
    · gi_wp2
      exact ⟨(KeepsOthers.setCell _ _ _).from _, rfl, ⟨⟨pre, x, rfl, HI.out.none_, by rw [HC.out]; exact hcol, by rw [HC.out]; exact HB.out.set_ 0 _⟩, (HI.out.keeps.mono (fun i _ h => .inr h)).setCell (p := ⟨b2, 0, none⟩) (fun _ => .inl rfl) _⟩⟩
    · have HNc : Hid (¬ 0 < c.col) := hcol
      gi_wp2
      exact ⟨KeepsFrom.refl _ _, Keeps.refl _ _, ⟨fun y hy => (List.mem_append.1 hy).elim (HI.out.none_ y) (fun e => by rw [List.mem_singleton.1 e, HC.out]; have := HNc.out; omega), HI.out.keeps⟩⟩
  case done =>
    intro D xs W1 hD hxs hI hdf
    have hz := encl_none s (by intro x hx; exact hI.none_ x (by rw [hxs]; exact hx))
    have hb2 := (HB2.out.keeps HK2.out (fun h => h)).keeps hI.keeps (fun h => by have := HN.out; omega)
    have y0 := hb2.cell (i := 0) rfl
    have f0 := hb2.free 0
    have hl2 := hb2.lt
    have HI := Lib.hid hI
    have HB := Lib.hid (hb2.set_ 0 (.int .i64 0))
    have HD := Lib.hid ((KeepsOthers.setCell W1 ⟨b2, 0, none⟩ (.int .i64 0)).same D _ hdf rfl)
    have HZ := Lib.hid hz
    clear hz hI hb2 hdf
    go_wp2
    rw [HZ.out]
    refine ⟨by simp, .inl ⟨_, _, rfl, run_takeDeferred HD.out, ?_⟩⟩
    have hcell := (grownBy_putObj' (W1.setCell ⟨b2, 0, none⟩ (.int .i64 0)) D (.deferred none)).cell (HB.out.cell (i := 0) rfl) (fun e => by have h1 := HN.out; have e2 : b2 = D := (by simpa using e); omega)
    refine ⟨.int .i64 0, ?_, rfl, ?_⟩
    · simp [results, Tryz.f21, go_sem, hcell]
    · have h1 := HK0.out
      have h2 := HN.out
      have h3 := HBn.out
      have h4 := ((HI.out.keeps.mono (Y := fun i => i = b2 ∨ w2.heap.size ≤ i) (fun i _ h => .inr h)).setCell (p := ⟨b2, 0, none⟩) (fun _ => .inl rfl) (.int .i64 0)).grown (grownBy_putObj' _ D (.deferred none)) (fun i e _ => by cases e; exact .inr hD)
      have h5 := (h1.trans HK2.out (fun _ _ h => h)).size
      exact Keeps.of_below (X := fun _ => False) ((((h1.trans HK2.out (fun _ _ h => h)).mono (Y := fun i => i = b2 ∨ w2.heap.size ≤ i) (fun _ _ h => h.elim)).trans h4 (fun _ _ h => h)).below (fun i hi => by rcases hi with hi | hi <;> omega) (Nat.le_refl _))
  case stop =>
    intro D pre W1 hD hsp hI hdf
    obtain ⟨p, x, hpx, hno, hcol, hb⟩ := hI.found
    obtain ⟨k, hk, hpk⟩ := hsp
    have hz : enclP s = (s[x.1]).col := by
      obtain ⟨j, rfl⟩ : ∃ j, k = j + 1 := ⟨k - 1, by
        have : pre ≠ [] := by rw [hpx]; simp
        rcases Nat.eq_zero_or_pos k with h | h
        · rw [h] at hpk; exact absurd hpk this
        · omega⟩
      rw [hpx, bkl_succ (by omega)] at hpk
      have hp := List.append_inj_left' hpk rfl
      have hx := List.append_inj_right' hpk rfl
      simp only [List.cons.injEq, and_true] at hx
      rw [hx] at hcol ⊢
      exact encl_some s j (by omega) (by intro y hy; exact hno y (by rw [hp]; exact hy)) hcol
    have HI := Lib.hid hI
    have HB := Lib.hid hb
    have HD := Lib.hid hdf
    have HZ := Lib.hid hz
    clear hz hI hb hdf hpk hcol hno hpx
    go_wp2
    rw [HZ.out]
    refine ⟨by simp, .inl ⟨_, _, rfl, run_takeDeferred HD.out, ?_⟩⟩
    have hcell := (grownBy_putObj' W1 D (.deferred none)).cell (HB.out.cell (i := 0) rfl) (fun e => by have h1 := HN.out; have e2 : b2 = D := (by simpa using e); omega)
    refine ⟨.int .i64 (s[x.1]).col, ?_, rfl, ?_⟩
    · simp [results, Tryz.f21, go_sem, hcell]
    · have h1 := HK0.out
      have h2 := HN.out
      have h3 := HBn.out
      have h4 := HI.out.keeps.grown (grownBy_putObj' W1 D (.deferred none)) (fun i e _ => by cases e; exact .inr hD)
      have h5 := (h1.trans HK2.out (fun _ _ h => h)).size
      exact Keeps.of_below (X := fun _ => False) ((((h1.trans HK2.out (fun _ _ h => h)).mono (Y := fun i => i = b2 ∨ w2.heap.size ≤ i) (fun _ _ h => h.elim)).trans h4 (fun _ _ h => h)).below (fun i hi => by rcases hi with hi | hi <;> omega) (Nat.le_refl _))
end Go.Proofs.YtnkbpjmijeeddaaGreatDoor
