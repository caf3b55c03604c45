/- The marker of the layout in memory; top, pop. -/
import Derived.Test.YtnpgdeioaehahaaDoorLayHof
import Derived.Test.YtnpgdeioaehahaaDoorLayBal
import Derived.Test.YtnpgdeioaehahaaDoorTokSl
import Derived.Test.YtnpgdeioaehahaaDoorStepKept
import Derived.Test.YtnpgdeioaehahaaDoorTill
import Derived.Deep.RegionHeld3
import Derived.WalkSmall
namespace Go.Proofs.YtnpgdeioaehahaaDoor
open Go.RowKit Go.Shelf

def Ctx.cells (c : Ctx) : List Value := [.int .i64 c.col, .string c.op]
def CtxOk (c : Ctx) : Prop := (Lit.int .i64 c.col).wf = true ∧ c.op.size ≤ maxLen
theorem ctxs_rp {w : World} {F : Nat → Prop} : ∀ (l : List Ctx), (∀ x ∈ l, CtxOk x) → RpAll w F (l.map Ctx.d) (l.flatMap Ctx.cells)
  | [], _ => by simp [RpAll]
  | c :: l, h => by
    simp only [List.map_cons, rpAll_cons, List.flatMap_cons]
    have hc := h c List.mem_cons_self
    exact ⟨_, _, rfl, Ctx.rp.2 ⟨rfl, hc.1, hc.2⟩, ctxs_rp l (fun x hx => h x (List.mem_cons_of_mem _ hx))⟩
/-- The marker: its two rows are its own. -/
structure MkAt (W : World) (B bm : Nat) (sv ov : Value) (m : Mk) : Prop where
  box : Blk W bm 92 [sv, ov]
  stk : W.ownsRow B 97 2 sv m.st.length (m.st.flatMap Ctx.cells)
  out : W.ownsRow B 28 5 ov m.out.length (m.out.flatMap Tok.cells)
  okc : ∀ c ∈ m.st, CtxOk c
  oko : ∀ t ∈ m.out, TokOk t
/-- The blocks of the marker. -/
def Own3 (bm : Nat) (sv ov : Value) (i : Nat) : Prop := i = bm ∨ sv.ownBlock = some i ∨ ov.ownBlock = some i
section
variable {W W' : World} {B bm : Nat} {sv ov : Value} {m : Mk}
theorem MkAt.keeps {X : Nat → Prop} (h : MkAt W B bm sv ov m) (hk : Keeps X W W') (hX : ∀ i, Own3 bm sv ov i → ¬ X i) : MkAt W' B bm sv ov m :=
  ⟨h.box.keeps hk (hX bm (.inl rfl)), own_keeps h.stk hk (fun i hi => hX i (.inr (.inl hi))), own_keeps h.out hk (fun i hi => hX i (.inr (.inr hi))), h.okc, h.oko⟩
theorem MkAt.same (h : MkAt W B bm sv ov m) (hk : Keeps (fun _ => False) W W') : MkAt W' B bm sv ov m := h.keeps hk (fun _ _ h => h)
theorem MkAt.nS (h : MkAt W B bm sv ov m) : ¬ sv.ownBlock = some bm := own_ne_blk h.stk h.box (by decide)
theorem MkAt.nO (h : MkAt W B bm sv ov m) : ¬ ov.ownBlock = some bm := own_ne_blk h.out h.box (by decide)
theorem MkAt.nSO (h : MkAt W B bm sv ov m) (i : Nat) (hi : sv.ownBlock = some i) : ¬ ov.ownBlock = some i := by
  intro ho
  obtain ⟨_, h1⟩ := h.stk
  obtain ⟨_, h2⟩ := h.out
  rcases h1 with ⟨rfl, _⟩ | ⟨g, cap, cur, rfl, _, hg, _⟩
  · cases hi
  · rcases h2 with ⟨rfl, _⟩ | ⟨g2, cap2, cur2, rfl, _, hg2, _⟩
    · cases ho
    · have e1 : g = i := by simpa [Value.ownBlock] using hi
      have e2 : g2 = i := by simpa [Value.ownBlock] using ho
      subst e1; subst e2
      rw [hg] at hg2
      simp only [Option.some.injEq, Obj.cells.injEq] at hg2
      exact absurd hg2.2.1 (by decide)
theorem MkAt.lt (h : MkAt W B bm sv ov m) (i : Nat) (hi : Own3 bm sv ov i) : i < W.heap.size := by
  rcases hi with rfl | hi | hi
  · exact h.box.lt
  · exact (h.stk.lt i hi).2
  · exact (h.out.lt i hi).2
/-- What a method of the marker leaves. -/
def MkTo (B bm : Nat) (sv ov : Value) (W : World) (m' : Mk) (w' : World) : Prop := ∃ sv' ov', MkAt w' B bm sv' ov' m' ∧ Keeps (Own3 bm sv ov) W w' ∧ ∀ i, Own3 bm sv' ov' i → Own3 bm sv ov i ∨ W.heap.size ≤ i
theorem MkTo.same (h : MkAt W B bm sv ov m) (hk : Keeps (fun _ => False) W W') : MkTo B bm sv ov W m W' := ⟨sv, ov, h.same hk, hk.mono (fun _ _ h => h.elim), fun _ hi => .inl hi⟩
theorem MkTo.trans {w1 w2 : World} {sv1 ov1 : Value} {m2 : Mk} (hk : Keeps (Own3 bm sv ov) W w1) (hn : ∀ i, Own3 bm sv1 ov1 i → Own3 bm sv ov i ∨ W.heap.size ≤ i) (h2 : MkTo B bm sv1 ov1 w1 m2 w2) : MkTo B bm sv ov W m2 w2 := by
  obtain ⟨sv2, ov2, g1, g2, g3⟩ := h2
  have hs := hk.size
  refine ⟨sv2, ov2, g1, hk.trans g2 (fun i hi hx => ?_), fun i hi => ?_⟩
  · rcases hn i hx with h | h
    · exact h
    · omega
  · rcases g3 i hi with h | h
    · exact hn i h
    · exact .inr (by omega)
theorem MkAt.form (h : MkAt W B bm sv ov m) : ∃ A c A2 c2, sv = .slice A m.st.length c ∧ ov = .slice A2 m.out.length c2 ∧ m.st.length ≤ c ∧ c ≤ maxLen ∧ m.out.length ≤ c2 ∧ c2 ≤ maxLen := by
  obtain ⟨A, c, h1, h2, h3⟩ := own_form h.stk
  obtain ⟨A2, c2, g1, g2, g3⟩ := own_form h.out
  exact ⟨A, c, A2, c2, h1, g1, h2, h3, g2, g3⟩
/-- The innermost context's cells. -/
theorem MkAt.last (h : MkAt W B bm sv ov m) {s : List Ctx} {c : Ctx} (hs : m.st = s ++ [c]) : ∃ g cap, sv = .slice (some ⟨g, 0, none⟩) (s.length + 1) cap ∧ W.cell? ⟨g, s.length * 2, none⟩ = some (.int .i64 c.col) ∧ W.cell? ⟨g, s.length * 2 + 1, none⟩ = some (.string c.op) ∧ s.length + 1 ≤ cap ∧ cap ≤ maxLen := by
  have ho := h.stk
  rw [hs] at ho
  have hl : (s ++ [c]).length = s.length + 1 := by simp
  rw [hl] at ho
  obtain ⟨g, cap, h1, _, _⟩ := ho.form (by omega)
  obtain ⟨A, cc, e1, e2, e3⟩ := own_form ho
  rw [h1] at e1
  simp only [Value.slice.injEq, true_and] at e1
  obtain ⟨rfl, rfl⟩ := e1
  have hfl : ((s ++ [c]).flatMap Ctx.cells) = s.flatMap Ctx.cells ++ [.int .i64 c.col, .string c.op] := by simp [List.flatMap_append, Ctx.cells]
  have hlen : (s.flatMap Ctx.cells).length = s.length * 2 := by
    have : ∀ s : List Ctx, (s.flatMap Ctx.cells).length = s.length * 2 := by
      intro s
      induction s with
      | nil => rfl
      | cons x s ih => rw [List.flatMap_cons, List.length_append, ih, List.length_cons]; simp [Ctx.cells]; omega
    exact this s
  subst h1
  have k0 := ho.cellAt (s.length * 2) (by omega)
  have k1 := ho.cellAt (s.length * 2 + 1) (by omega)
  rw [hfl] at k0 k1
  refine ⟨g, cap, rfl, k0.trans ?_, k1.trans ?_, e2, e3⟩
  · rw [List.getElem?_append_right (by omega), hlen]; simp
  · rw [List.getElem?_append_right (by omega), hlen]; simp
end
set_option maxRecDepth 100000 in
set_option maxHeartbeats 4000000 in
theorem top_any (W : World) (B bm : Nat) (sv ov : Value) (m : Mk) (h : MkAt W B bm sv ov m) :
    Calls Tryd.prog 62 #[.pointer (some ⟨bm, 0, none⟩)] W (fun e w' => e = .returned (.agg #[.int .i64 (topP m.st).col, .string (topP m.st).op]) ∧ Keeps (fun _ => False) W w') := by
  obtain ⟨b2, hb2⟩ : ∃ b2, W.heap.size = b2 := ⟨_, rfl⟩
  obtain ⟨W0, hW0⟩ : ∃ W0, W.alloc (.cells #[.int .i64 0, .string ⟨#[]⟩] 97) = W0 := ⟨_, rfl⟩
  have hk0 : Keeps (fun _ => False) W W0 := by rw [← hW0]; exact (Keeps.refl _ _).alloc _
  have hB2 : Blk W0 b2 97 [.int .i64 0, .string ⟨#[]⟩] := by rw [← hW0, ← hb2]; exact Blk.new W _ [_, _]
  have h0 := h.same hk0
  have c0 := h0.box.cell (i := 0) rfl
  have r0 := hB2.cell (i := 0) rfl
  have r1 := hB2.cell (i := 1) rfl
  have f0 := hB2.free 0
  have f1 := hB2.free 1
  have hl2 := hB2.lt
  have hl3 := h0.box.lt
  have HB2 := Lib.hid hB2
  have HK0 := Lib.hid hk0
  have HW0 := Lib.hid hW0
  have HBn := Lib.hid hb2
  rcases List.eq_nil_or_concat m.st with hs | ⟨s, c, hs⟩
  · obtain ⟨A, q, A2, q2, rfl, rfl, _⟩ := h0.form
    rw [hs] at c0
    have hT : topP m.st = zCtx := by rw [hs]; rfl
    rw [hT]
    clear hT hs h h0 hB2 hk0 hW0 hb2
    go_enter Tryd.func62, Tryd.ntmps62
    go_upto_region 1 with (fail)
    rw [HW0.out, HBn.out]
    go_wp2_with fail
    refine ret_row Tryd.results62 rfl ((HB2.out.set_ 0 _).set_ 1 _) Tryd.underlying97 (by kernel_rfl) rfl ⟨rfl, ?_⟩
    have hb := HBn.out
    have hz := HK0.out.size
    exact Keeps.of_below (X := fun _ => False) (((HK0.out.mono (Y := (· = b2)) (fun _ _ h => h.elim)).trans (((Keeps.refl (· = b2) W0).setCell (p := ⟨b2, 0, none⟩) (fun _ => rfl) _).setCell (p := ⟨b2, 1, none⟩) (fun _ => rfl) _) (fun _ _ h => h)).below (fun i hi => by omega) (Nat.le_refl _))
  · have hT : topP m.st = c := by rw [hs, List.concat_eq_append, topP_app]
    rw [hT]
    rw [List.concat_eq_append] at hs
    obtain ⟨g, cap, rfl, l0, l1, hc1, hc2⟩ := h0.last hs
    obtain ⟨n, hn⟩ : ∃ n, s.length = n := ⟨_, rfl⟩
    rw [hn] at l0 l1 c0 hc1
    have hcm : n + 1 ≤ 9223372036854775807 := by unfold maxLen at hc2; omega
    have hw1 : (IntKind.i64.wrap ((n : Int) + 1 - 1)) = (n : Int) := by rw [IntKind.wrap_i64]; omega
    have hw2 : (IntKind.i64.wrap (n : Int)) = (n : Int) := by rw [IntKind.wrap_i64]; omega
    have hn0 : (0 : Int) ≤ (n : Int) := by omega
    have hn1 : (n : Int) < (n : Int) + 1 := by omega
    have hn2 : ¬ ((n : Int) + 1 = 0) := by omega
    have hn3 : 0 < n + 1 := by omega
    clear hT hs h h0 hB2 hk0 hW0 hb2 hn
    go_enter Tryd.func62, Tryd.ntmps62
    go_upto_region 1 with (fail)
    rw [HW0.out, HBn.out]
    go_upto_region 3 with (fail)
    go_region
    go_wp2_with fail
    refine ret_row Tryd.results62 rfl ((HB2.out.set_ 0 _).set_ 1 _).drew Tryd.underlying97 (by kernel_rfl) rfl ⟨rfl, ?_⟩
    have hb := HBn.out
    have hz := HK0.out.size
    exact Keeps.of_below (X := fun _ => False) (((HK0.out.mono (Y := (· = b2)) (fun _ _ h => h.elim)).trans ((((Keeps.refl (· = b2) W0).setCell (p := ⟨b2, 0, none⟩) (fun _ => rfl) _).setCell (p := ⟨b2, 1, none⟩) (fun _ => rfl) _).drew) (fun _ _ h => h)).below (fun i hi => by omega) (Nat.le_refl _))
theorem ctx_len (s : List Ctx) : (s.flatMap Ctx.cells).length = s.length * 2 := by
  induction s with
  | nil => rfl
  | cons x s ih => rw [List.flatMap_cons, List.length_append, ih, List.length_cons]; simp [Ctx.cells]; omega
/-- The marker behind a pop. -/
theorem MkAt.popped {W : World} {B bm : Nat} {ov : Value} {m : Mk} {s : List Ctx} {c : Ctx} {g cap : Nat} (h : MkAt W B bm (.slice (some ⟨g, 0, none⟩) (s.length + 1) cap) ov m) (hs : m.st = s ++ [c]) :
    MkTo B bm (.slice (some ⟨g, 0, none⟩) (s.length + 1) cap) ov W m.pop (W.setCell ⟨bm, 0, none⟩ (.slice (some ⟨g, 0, none⟩) s.length cap)).drew := by
  have hk : Keeps (· = bm) W (W.setCell ⟨bm, 0, none⟩ (.slice (some ⟨g, 0, none⟩) s.length cap)).drew := ((Keeps.refl (· = bm) W).setCell (p := ⟨bm, 0, none⟩) (fun _ => rfl) _).drew
  have hst : m.pop.st = s := by show m.st.dropLast = s; rw [hs, List.dropLast_concat]
  have ho := h.stk
  rw [hs] at ho
  have hl : (s ++ [c]).length = s.length + 1 := by simp
  have hfl : ((s ++ [c]).flatMap Ctx.cells) = s.flatMap Ctx.cells ++ [.int .i64 c.col, .string c.op] := by simp [List.flatMap_append, Ctx.cells]
  rw [hl, hfl] at ho
  have hp := ownsRow_pop (ctx_len s) ho
  refine ⟨.slice (some ⟨g, 0, none⟩) s.length cap, ov, ⟨(h.box.set_ 0 _).drew, ?_, own_keeps h.out hk (fun i hi e => h.nO (by rw [hi, e])), fun x hx => h.okc x (by rw [hs]; rw [hst] at hx; exact List.mem_append_left _ hx), h.oko⟩, hk.mono (fun i _ e => .inl e), fun i hi => .inl ?_⟩
  · rw [hst]
    exact own_keeps hp hk (fun i hi e => h.nS (by rw [← e, ← hi]; rfl))
  · rcases hi with e | e | e
    · exact .inl e
    · exact .inr (.inl (by rw [← e]; rfl))
    · exact .inr (.inr e)
set_option maxRecDepth 100000 in
set_option maxHeartbeats 4000000 in
theorem pop_any (W : World) (B bm : Nat) (sv ov : Value) (m : Mk) (h : MkAt W B bm sv ov m) (hne : m.st ≠ []) :
    Calls Tryd.prog 63 #[.pointer (some ⟨bm, 0, none⟩)] W (fun e w' => e = .returned (.tuple #[]) ∧ MkTo B bm sv ov W m.pop w') := by
  obtain ⟨s, c, hs⟩ := snoc_of_ne hne
  obtain ⟨g, cap, rfl, l0, l1, hc1, hc2⟩ := h.last hs
  have HP := Lib.hid (h.popped hs)
  have c0 := h.box.cell (i := 0) rfl
  have f0 := h.box.free 0
  have hl3 := h.box.lt
  obtain ⟨n, hn⟩ : ∃ n, s.length = n := ⟨_, rfl⟩
  rw [hn] at c0 hc1 HP ⊢
  have hcm : n + 1 ≤ 9223372036854775807 := by unfold maxLen at hc2; omega
  have hw1 : (IntKind.i64.wrap ((n : Int) + 1 - 1)) = (n : Int) := by rw [IntKind.wrap_i64]; omega
  have hw2 : (IntKind.i64.wrap (n : Int)) = (n : Int) := by rw [IntKind.wrap_i64]; omega
  have hn0 : (0 : Int) ≤ (n : Int) := by omega
  have hnc : (n : Int) ≤ (cap : Int) := by omega
  clear hs h hne hn l0 l1
  go_enter Tryd.func63, Tryd.ntmps63
  go_upto_region 0 with (fail)
  go_region
  go_wp2_with fail
  go_end0
  exact ⟨rfl, HP.out⟩
theorem info_tok : (Tryd.prog.info? 28).map (fun i => (i.zero, i.size, i.bytes)) = some (some (.agg #[.int .i64 0, .string ⟨#[]⟩, .int .i64 0, .int .i64 0, .int .i64 0]), 5, 48) := by kernel_rfl
theorem info_ctx : (Tryd.prog.info? 97).map (fun i => (i.zero, i.size, i.bytes)) = some (some (.agg #[.int .i64 0, .string ⟨#[]⟩]), 2, 24) := by kernel_rfl
end Go.Proofs.YtnpgdeioaehahaaDoor
