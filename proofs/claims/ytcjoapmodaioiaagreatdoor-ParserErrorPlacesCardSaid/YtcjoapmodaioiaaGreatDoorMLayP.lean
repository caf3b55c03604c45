/- The parser: LayM, LayP, LayS, LayI. -/
import Derived.Test.YtcjoapmodaioiaaGreatDoorMLayA
import Derived.Test.YtcjoapmodaioiaaGreatDoorMTok
import Derived.Test.YtcjoapmodaioiaaGreatDoorMKept
import Derived.Deep.RegionHeld3
import Derived.WalkSmall
section
namespace Go.Proofs.YtcjoapmodaioiaaGreatDoor
open Go.RowKit Go.Shelf

def Ctx.cells (c : Ctx) : List Value := [.int .i64 c.col, .string c.op]
def CtxOk (c : Ctx) : Prop := (Lit.int .i64 c.col).wf = true ∧ c.op.size ≤ maxLen
theorem ctxs_rp {w : World} {F : Nat → Prop} : ∀ (l : List Ctx), (∀ x ∈ l, CtxOk x) → RpAll w F (l.map Ctx.d) (l.flatMap Ctx.cells)
  | [], _ => by simp [RpAll]
  | c :: l, h => by
    simp only [List.map_cons, rpAll_cons, List.flatMap_cons]
    have hc := h c List.mem_cons_self
    exact ⟨_, _, rfl, Ctx.rp.2 ⟨rfl, hc.1, hc.2⟩, ctxs_rp l (fun x hx => h x (List.mem_cons_of_mem _ hx))⟩
structure MkAt (W : World) (B bm : Nat) (sv ov : Value) (m : Mk) : Prop where
  box : Blk W bm 90 [sv, ov]
  stk : W.ownsRow B 96 2 sv m.st.length (m.st.flatMap Ctx.cells)
  out : W.ownsRow B 59 5 ov m.out.length (m.out.flatMap Tok.cells)
  okc : ∀ c ∈ m.st, CtxOk c
  oko : ∀ t ∈ m.out, TokOk t
def Own3 (bm : Nat) (sv ov : Value) (i : Nat) : Prop := i = bm ∨ sv.ownBlock = some i ∨ ov.ownBlock = some i
section
variable {W W' : World} {B bm : Nat} {sv ov : Value} {m : Mk}
theorem MkAt.keeps {X : Nat → Prop} (h : MkAt W B bm sv ov m) (hk : Keeps X W W') (hX : ∀ i, Own3 bm sv ov i → ¬ X i) : MkAt W' B bm sv ov m :=
  ⟨h.box.keeps hk (hX bm (.inl rfl)), own_keeps h.stk hk (fun i hi => hX i (.inr (.inl hi))), own_keeps h.out hk (fun i hi => hX i (.inr (.inr hi))), h.okc, h.oko⟩
theorem MkAt.same (h : MkAt W B bm sv ov m) (hk : Keeps (fun _ => False) W W') : MkAt W' B bm sv ov m := h.keeps hk (fun _ _ h => h)
theorem MkAt.nS (h : MkAt W B bm sv ov m) : ¬ sv.ownBlock = some bm := own_ne_blk h.stk h.box (by decide)
theorem MkAt.nO (h : MkAt W B bm sv ov m) : ¬ ov.ownBlock = some bm := own_ne_blk h.out h.box (by decide)
theorem MkAt.nSO (h : MkAt W B bm sv ov m) (i : Nat) (hi : sv.ownBlock = some i) : ¬ ov.ownBlock = some i := by
  intro ho
  obtain ⟨_, h1⟩ := h.stk
  obtain ⟨_, h2⟩ := h.out
  rcases h1 with ⟨rfl, _⟩ | ⟨g, cap, cur, rfl, _, hg, _⟩
  · cases hi
  · rcases h2 with ⟨rfl, _⟩ | ⟨g2, cap2, cur2, rfl, _, hg2, _⟩
    · cases ho
    · have e1 : g = i := by simpa [Value.ownBlock] using hi
      have e2 : g2 = i := by simpa [Value.ownBlock] using ho
      subst e1; subst e2
      rw [hg] at hg2
      simp only [Option.some.injEq, Obj.cells.injEq] at hg2
      exact absurd hg2.2.1 (by decide)
theorem MkAt.lt (h : MkAt W B bm sv ov m) (i : Nat) (hi : Own3 bm sv ov i) : i < W.heap.size := by
  rcases hi with rfl | hi | hi
  · exact h.box.lt
  · exact (h.stk.lt i hi).2
  · exact (h.out.lt i hi).2
def MkTo (B bm : Nat) (sv ov : Value) (W : World) (m' : Mk) (w' : World) : Prop := ∃ sv' ov', MkAt w' B bm sv' ov' m' ∧ Keeps (Own3 bm sv ov) W w' ∧ ∀ i, Own3 bm sv' ov' i → Own3 bm sv ov i ∨ W.heap.size ≤ i
theorem MkTo.same (h : MkAt W B bm sv ov m) (hk : Keeps (fun _ => False) W W') : MkTo B bm sv ov W m W' := ⟨sv, ov, h.same hk, hk.mono (fun _ _ h => h.elim), fun _ hi => .inl hi⟩
theorem MkTo.trans {w1 w2 : World} {sv1 ov1 : Value} {m2 : Mk} (hk : Keeps (Own3 bm sv ov) W w1) (hn : ∀ i, Own3 bm sv1 ov1 i → Own3 bm sv ov i ∨ W.heap.size ≤ i) (h2 : MkTo B bm sv1 ov1 w1 m2 w2) : MkTo B bm sv ov W m2 w2 := by
  obtain ⟨sv2, ov2, g1, g2, g3⟩ := h2
  have hs := hk.size
  refine ⟨sv2, ov2, g1, hk.trans g2 (fun i hi hx => ?_), fun i hi => ?_⟩
  · rcases hn i hx with h | h
    · exact h
    · omega
  · rcases g3 i hi with h | h
    · exact hn i h
    · exact .inr (by omega)
theorem MkAt.form (h : MkAt W B bm sv ov m) : ∃ A c A2 c2, sv = .slice A m.st.length c ∧ ov = .slice A2 m.out.length c2 ∧ m.st.length ≤ c ∧ c ≤ maxLen ∧ m.out.length ≤ c2 ∧ c2 ≤ maxLen := by
  obtain ⟨A, c, h1, h2, h3⟩ := own_form h.stk
  obtain ⟨A2, c2, g1, g2, g3⟩ := own_form h.out
  exact ⟨A, c, A2, c2, h1, g1, h2, h3, g2, g3⟩
theorem MkAt.last (h : MkAt W B bm sv ov m) {s : List Ctx} {c : Ctx} (hs : m.st = s ++ [c]) : ∃ g cap, sv = .slice (some ⟨g, 0, none⟩) (s.length + 1) cap ∧ W.cell? ⟨g, s.length * 2, none⟩ = some (.int .i64 c.col) ∧ W.cell? ⟨g, s.length * 2 + 1, none⟩ = some (.string c.op) ∧ s.length + 1 ≤ cap ∧ cap ≤ maxLen := by
  have ho := h.stk
  rw [hs] at ho
  have hl : (s ++ [c]).length = s.length + 1 := by simp
  rw [hl] at ho
  obtain ⟨g, cap, h1, _, _⟩ := ho.form (by omega)
  obtain ⟨A, cc, e1, e2, e3⟩ := own_form ho
  rw [h1] at e1
  simp only [Value.slice.injEq, true_and] at e1
  obtain ⟨rfl, rfl⟩ := e1
  have hfl : ((s ++ [c]).flatMap Ctx.cells) = s.flatMap Ctx.cells ++ [.int .i64 c.col, .string c.op] := by simp [List.flatMap_append, Ctx.cells]
  have hlen : (s.flatMap Ctx.cells).length = s.length * 2 := by
    have : ∀ s : List Ctx, (s.flatMap Ctx.cells).length = s.length * 2 := by
      intro s
      induction s with
      | nil => rfl
      | cons x s ih => rw [List.flatMap_cons, List.length_append, ih, List.length_cons]; simp [Ctx.cells]; omega
    exact this s
  subst h1
  have k0 := ho.cellAt (s.length * 2) (by omega)
  have k1 := ho.cellAt (s.length * 2 + 1) (by omega)
  rw [hfl] at k0 k1
  refine ⟨g, cap, rfl, k0.trans ?_, k1.trans ?_, e2, e3⟩
  · rw [List.getElem?_append_right (by omega), hlen]; simp
  · rw [List.getElem?_append_right (by omega), hlen]; simp
end
set_option maxRecDepth 100000 in
set_option maxHeartbeats 4000000 in
theorem top_any (W : World) (B bm : Nat) (sv ov : Value) (m : Mk) (h : MkAt W B bm sv ov m) :
    Calls Tryz.prog 44 #[.pointer (some ⟨bm, 0, none⟩)] W (fun e w' => e = .returned (.agg #[.int .i64 (topP m.st).col, .string (topP m.st).op]) ∧ Keeps (fun _ => False) W w') := by
  obtain ⟨b2, hb2⟩ : ∃ b2, W.heap.size = b2 := ⟨_, rfl⟩
  obtain ⟨W0, hW0⟩ : ∃ W0, W.alloc (.cells #[.int .i64 0, .string ⟨#[]⟩] 96) = W0 := ⟨_, rfl⟩
  have hk0 : Keeps (fun _ => False) W W0 := by rw [← hW0]; exact (Keeps.refl _ _).alloc _
  have hB2 : Blk W0 b2 96 [.int .i64 0, .string ⟨#[]⟩] := by rw [← hW0, ← hb2]; exact Blk.new W _ [_, _]
  have h0 := h.same hk0
  have c0 := h0.box.cell (i := 0) rfl
  have r0 := hB2.cell (i := 0) rfl
  have r1 := hB2.cell (i := 1) rfl
  have f0 := hB2.free 0
  have f1 := hB2.free 1
  have hl2 := hB2.lt
  have hl3 := h0.box.lt
  have HB2 := Lib.hid hB2
  have HK0 := Lib.hid hk0
  have HW0 := Lib.hid hW0
  have HBn := Lib.hid hb2
  rcases List.eq_nil_or_concat m.st with hs | ⟨s, c, hs⟩
  · obtain ⟨A, q, A2, q2, rfl, rfl, _⟩ := h0.form
    rw [hs] at c0
    have hT : topP m.st = zCtx := by rw [hs]; rfl
    rw [hT]
    clear hT hs h h0 hB2 hk0 hW0 hb2
    go_enter Tryz.func44, Tryz.ntmps44
    go_upto_region 1 with (fail)
    rw [HW0.out, HBn.out]
    go_wp2_with fail
    refine ret_row Tryz.results44 rfl ((HB2.out.set_ 0 _).set_ 1 _) Tryz.underlying96 (by kernel_rfl) rfl ⟨rfl, ?_⟩
    have hb := HBn.out
    have hz := HK0.out.size
    exact Keeps.of_below (X := fun _ => False) (((HK0.out.mono (Y := (· = b2)) (fun _ _ h => h.elim)).trans (((Keeps.refl (· = b2) W0).setCell (p := ⟨b2, 0, none⟩) (fun _ => rfl) _).setCell (p := ⟨b2, 1, none⟩) (fun _ => rfl) _) (fun _ _ h => h)).below (fun i hi => by omega) (Nat.le_refl _))
  · have hT : topP m.st = c := by rw [hs, List.concat_eq_append, topP_app]
    rw [hT]
    rw [List.concat_eq_append] at hs
    obtain ⟨g, cap, rfl, l0, l1, hc1, hc2⟩ := h0.last hs
    obtain ⟨n, hn⟩ : ∃ n, s.length = n := ⟨_, rfl⟩
    rw [hn] at l0 l1 c0 hc1
    have hcm : n + 1 ≤ 9223372036854775807 := by unfold maxLen at hc2; omega
    have hw1 : (IntKind.i64.wrap ((n : Int) + 1 - 1)) = (n : Int) := by rw [IntKind.wrap_i64]; omega
    have hw2 : (IntKind.i64.wrap (n : Int)) = (n : Int) := by rw [IntKind.wrap_i64]; omega
    have hn0 : (0 : Int) ≤ (n : Int) := by omega
    have hn1 : (n : Int) < (n : Int) + 1 := by omega
    have hn2 : ¬ ((n : Int) + 1 = 0) := by omega
    have hn3 : 0 < n + 1 := by omega
    clear hT hs h h0 hB2 hk0 hW0 hb2 hn
    go_enter Tryz.func44, Tryz.ntmps44
    go_upto_region 1 with (fail)
    rw [HW0.out, HBn.out]
    go_upto_region 3 with (fail)
    go_region
    go_wp2_with fail
    refine ret_row Tryz.results44 rfl ((HB2.out.set_ 0 _).set_ 1 _).drew Tryz.underlying96 (by kernel_rfl) rfl ⟨rfl, ?_⟩
    have hb := HBn.out
    have hz := HK0.out.size
    exact Keeps.of_below (X := fun _ => False) (((HK0.out.mono (Y := (· = b2)) (fun _ _ h => h.elim)).trans ((((Keeps.refl (· = b2) W0).setCell (p := ⟨b2, 0, none⟩) (fun _ => rfl) _).setCell (p := ⟨b2, 1, none⟩) (fun _ => rfl) _).drew) (fun _ _ h => h)).below (fun i hi => by omega) (Nat.le_refl _))
theorem ctx_len (s : List Ctx) : (s.flatMap Ctx.cells).length = s.length * 2 := by
  induction s with
  | nil => rfl
  | cons x s ih => rw [List.flatMap_cons, List.length_append, ih, List.length_cons]; simp [Ctx.cells]; omega
theorem MkAt.popped {W : World} {B bm : Nat} {ov : Value} {m : Mk} {s : List Ctx} {c : Ctx} {g cap : Nat} (h : MkAt W B bm (.slice (some ⟨g, 0, none⟩) (s.length + 1) cap) ov m) (hs : m.st = s ++ [c]) :
    MkTo B bm (.slice (some ⟨g, 0, none⟩) (s.length + 1) cap) ov W m.pop (W.setCell ⟨bm, 0, none⟩ (.slice (some ⟨g, 0, none⟩) s.length cap)).drew := by
  have hk : Keeps (· = bm) W (W.setCell ⟨bm, 0, none⟩ (.slice (some ⟨g, 0, none⟩) s.length cap)).drew := ((Keeps.refl (· = bm) W).setCell (p := ⟨bm, 0, none⟩) (fun _ => rfl) _).drew
  have hst : m.pop.st = s := by show m.st.dropLast = s; rw [hs, List.dropLast_concat]
  have ho := h.stk
  rw [hs] at ho
  have hl : (s ++ [c]).length = s.length + 1 := by simp
  have hfl : ((s ++ [c]).flatMap Ctx.cells) = s.flatMap Ctx.cells ++ [.int .i64 c.col, .string c.op] := by simp [List.flatMap_append, Ctx.cells]
  rw [hl, hfl] at ho
  have hp := ownsRow_pop (ctx_len s) ho
  refine ⟨.slice (some ⟨g, 0, none⟩) s.length cap, ov, ⟨(h.box.set_ 0 _).drew, ?_, own_keeps h.out hk (fun i hi e => h.nO (by rw [hi, e])), fun x hx => h.okc x (by rw [hs]; rw [hst] at hx; exact List.mem_append_left _ hx), h.oko⟩, hk.mono (fun i _ e => .inl e), fun i hi => .inl ?_⟩
  · rw [hst]
    exact own_keeps hp hk (fun i hi e => h.nS (by rw [← e, ← hi]; rfl))
  · rcases hi with e | e | e
    · exact .inl e
    · exact .inr (.inl (by rw [← e]; rfl))
    · exact .inr (.inr e)
set_option maxRecDepth 100000 in
set_option maxHeartbeats 4000000 in
theorem pop_any (W : World) (B bm : Nat) (sv ov : Value) (m : Mk) (h : MkAt W B bm sv ov m) (hne : m.st ≠ []) :
    Calls Tryz.prog 45 #[.pointer (some ⟨bm, 0, none⟩)] W (fun e w' => e = .returned (.tuple #[]) ∧ MkTo B bm sv ov W m.pop w') := by
  obtain ⟨s, c, hs⟩ := snoc_of_ne hne
  obtain ⟨g, cap, rfl, l0, l1, hc1, hc2⟩ := h.last hs
  have HP := Lib.hid (h.popped hs)
  have c0 := h.box.cell (i := 0) rfl
  have f0 := h.box.free 0
  have hl3 := h.box.lt
  obtain ⟨n, hn⟩ : ∃ n, s.length = n := ⟨_, rfl⟩
  rw [hn] at c0 hc1 HP ⊢
  have hcm : n + 1 ≤ 9223372036854775807 := by unfold maxLen at hc2; omega
  have hw1 : (IntKind.i64.wrap ((n : Int) + 1 - 1)) = (n : Int) := by rw [IntKind.wrap_i64]; omega
  have hw2 : (IntKind.i64.wrap (n : Int)) = (n : Int) := by rw [IntKind.wrap_i64]; omega
  have hn0 : (0 : Int) ≤ (n : Int) := by omega
  have hnc : (n : Int) ≤ (cap : Int) := by omega
  clear hs h hne hn l0 l1
  go_enter Tryz.func45, Tryz.ntmps45
  go_upto_region 0 with (fail)
  go_region
  go_wp2_with fail
  go_end0
  exact ⟨rfl, HP.out⟩
theorem info_ctx : (Tryz.prog.info? 96).map (fun i => (i.zero, i.size, i.bytes)) = some (some (.agg #[.int .i64 0, .string ⟨#[]⟩]), 2, 24) := by kernel_rfl
end Go.Proofs.YtcjoapmodaioiaaGreatDoor
end

section
namespace Go.Proofs.YtcjoapmodaioiaaGreatDoor
open Go.RowKit Go.Shelf

section
variable {W w2 : World} {B bm : Nat} {sv ov : Value} {m : Mk}
theorem MkAt.outed (h : MkAt W B bm sv ov m) {x : Tok} (hx : TokOk x) {g1 cap1 : Nat} (hk1 : Keeps (fun k => ov.ownBlock = some k) W w2)
    (hown : w2.ownsRow B 59 5 (.slice (some ⟨g1, 0, none⟩) (m.out.length + 1) cap1) (m.out.length + 1) (m.out.flatMap Tok.cells ++ x.cells)) (hat : ov.ownBlock = some g1 ∨ W.heap.size ≤ g1) :
    MkTo B bm sv ov W ⟨m.st, m.out ++ [x]⟩ (w2.setCell ⟨bm, 1, none⟩ (.slice (some ⟨g1, 0, none⟩) (m.out.length + 1) cap1)) := by
  have hb2 := h.box.keeps hk1 h.nO
  have k2 : Keeps (· = bm) w2 (w2.setCell ⟨bm, 1, none⟩ (.slice (some ⟨g1, 0, none⟩) (m.out.length + 1) cap1)) := (Keeps.refl (· = bm) w2).setCell (p := ⟨bm, 1, none⟩) (fun _ => rfl) _
  have hs2 := own_keeps h.stk hk1 h.nSO
  refine ⟨sv, .slice (some ⟨g1, 0, none⟩) (m.out.length + 1) cap1, ⟨hb2.set_ 1 _, own_keeps hs2 k2 (fun i hi e => h.nS (by rw [hi, e])), ?_, h.okc, fun t ht => ?_⟩, (hk1.mono (Y := Own3 bm sv ov) (fun i _ hi => .inr (.inr hi))).trans k2 (fun i _ e => .inl e), fun i hi => ?_⟩
  · have := own_keeps hown k2 (fun i hi e => own_ne_blk hown hb2 (by decide) (by rw [hi, e]))
    simpa [List.length_append, List.flatMap_append] using this
  · rcases List.mem_append.1 ht with h1 | h1
    · exact h.oko t h1
    · rw [List.mem_singleton.1 h1]; exact hx
  · rcases hi with e | e | e
    · exact .inl (.inl e)
    · exact .inl (.inr (.inl e))
    · have e1 : g1 = i := by simpa [Value.ownBlock] using e
      subst e1
      rcases hat with h1 | h1
      · exact .inl (.inr (.inr h1))
      · exact .inr h1
theorem MkAt.pushed (h : MkAt W B bm sv ov m) {x : Ctx} (hx : CtxOk x) {g1 cap1 : Nat} (hk1 : Keeps (fun k => sv.ownBlock = some k) W w2)
    (hown : w2.ownsRow B 96 2 (.slice (some ⟨g1, 0, none⟩) (m.st.length + 1) cap1) (m.st.length + 1) (m.st.flatMap Ctx.cells ++ x.cells)) (hat : sv.ownBlock = some g1 ∨ W.heap.size ≤ g1) :
    MkTo B bm sv ov W (m.push x) (w2.setCell ⟨bm, 0, none⟩ (.slice (some ⟨g1, 0, none⟩) (m.st.length + 1) cap1)) := by
  have hb2 := h.box.keeps hk1 h.nS
  have k2 : Keeps (· = bm) w2 (w2.setCell ⟨bm, 0, none⟩ (.slice (some ⟨g1, 0, none⟩) (m.st.length + 1) cap1)) := (Keeps.refl (· = bm) w2).setCell (p := ⟨bm, 0, none⟩) (fun _ => rfl) _
  have ho2 := own_keeps h.out hk1 (fun i hi e => h.nSO i e hi)
  refine ⟨.slice (some ⟨g1, 0, none⟩) (m.st.length + 1) cap1, ov, ⟨hb2.set_ 0 _, ?_, own_keeps ho2 k2 (fun i hi e => h.nO (by rw [hi, e])), fun t ht => ?_, h.oko⟩, (hk1.mono (Y := Own3 bm sv ov) (fun i _ hi => .inr (.inl hi))).trans k2 (fun i _ e => .inl e), fun i hi => ?_⟩
  · have := own_keeps hown k2 (fun i hi e => own_ne_blk hown hb2 (by decide) (by rw [hi, e]))
    unfold Mk.push
    simpa [List.length_append, List.flatMap_append] using this
  · have ht : t ∈ m.st ++ [x] := ht
    rcases List.mem_append.1 ht with h1 | h1
    · exact h.okc t h1
    · rw [List.mem_singleton.1 h1]; exact hx
  · rcases hi with e | e | e
    · exact .inl (.inl e)
    · have e1 : g1 = i := by simpa [Value.ownBlock] using e
      subst e1
      rcases hat with h1 | h1
      · exact .inl (.inr (.inl h1))
      · exact .inr h1
    · exact .inl (.inr (.inr e))
end
set_option maxRecDepth 100000 in
set_option maxHeartbeats 8000000 in
theorem lput_any (W : World) (B bm : Nat) (sv ov : Value) (m : Mk) (h : MkAt W B bm sv ov m) (hB : B ≤ W.heap.size) (k : Int) (t : Tok) (hk : 0 ≤ k ∧ k ≤ 9) (ht : TokOk t) (hn : m.out.length ≤ 200000) :
    Calls Tryz.prog 41 #[.pointer (some ⟨bm, 0, none⟩), .int .i64 k, .agg #[.int .i64 t.kind, .string t.text, .int .i64 t.n, .int .i64 t.line, .int .i64 t.col]] W (fun e w' => e = .returned (.tuple #[]) ∧ MkTo B bm sv ov W (m.put k t) w') := by
  obtain ⟨i0, hi0, hz0, hz1, hz2⟩ := info_parts infoTok
  obtain ⟨b5, hb5⟩ : ∃ b5, W.heap.size = b5 := ⟨_, rfl⟩
  obtain ⟨W0, hW0⟩ : ∃ W0, W.alloc (.cells #[.int .i64 t.kind, .string t.text, .int .i64 t.n, .int .i64 t.line, .int .i64 t.col] 59) = W0 := ⟨_, rfl⟩
  have hk0 : Keeps (fun _ => False) W W0 := by rw [← hW0]; exact (Keeps.refl _ _).alloc _
  have hB5 : Blk W0 b5 59 [.int .i64 t.kind, .string t.text, .int .i64 t.n, .int .i64 t.line, .int .i64 t.col] := by rw [← hW0, ← hb5]; exact Blk.new W _ [_, _, _, _, _]
  have h0 := h.same hk0
  have hs0 := hk0.size
  have hx : TokOk (tokAt k t) := ⟨wf_small (n := k) hk.1 (by omega), by show (0 : Nat) ≤ maxLen; exact Nat.zero_le _, wf_small (n := 0) (by decide) (by decide), ht.2.2.2.1, ht.2.2.2.2⟩
  have HOut : Hid (∀ (w2 : World) (g1 cap1 : Nat), Keeps (fun k => ov.ownBlock = some k) W0 w2 → w2.ownsRow B 59 5 (.slice (some ⟨g1, 0, none⟩) (m.out.length + 1) cap1) (m.out.length + 1) (m.out.flatMap Tok.cells ++ (tokAt k t).cells) → (ov.ownBlock = some g1 ∨ W0.heap.size ≤ g1) → MkTo B bm sv ov W (m.put k t) (w2.setCell ⟨bm, 1, none⟩ (.slice (some ⟨g1, 0, none⟩) (m.out.length + 1) cap1))) := fun w2 g1 cap1 q1 q2 q3 =>
    MkTo.trans (hk0.mono (fun _ _ h => h.elim)) (fun i hi => .inl hi) (h0.outed hx q1 q2 q3)
  obtain ⟨n, hnl⟩ : ∃ n, m.out.length = n := ⟨_, rfl⟩
  have hown := h0.out
  rw [hnl] at hown hn HOut
  have HMq : Hid (n + 1 ≤ maxLen) := by show _ ≤ _; unfold maxLen; omega
  have HBq : Hid ((n + 1) * 48 ≤ 140737488355328) := by show _ ≤ _; omega
  have HBZ : Hid (B ≤ W0.heap.size) := by show _ ≤ _; omega
  have HNO := Lib.hid h0.nO
  have HBox := Lib.hid h0.box
  have HOwn := Lib.hid hown
  have hQ : Hid (∀ X, Keeps (fun i => ov.ownBlock = some i) W0 X → (X.cell? ⟨bm, 1, none⟩ = some ov ∧ X.cell? ⟨b5, 3, none⟩ = some (.int .i64 t.line) ∧ X.cell? ⟨b5, 4, none⟩ = some (.int .i64 t.col))) := fun X hk => by
    have hx := h0.box.keeps hk h0.nO
    have hy := hB5.keeps hk (fun e => by have := (h.out.lt _ e).2; omega)
    exact ⟨hx.cell (i := 1) rfl, hy.cell (i := 3) rfl, hy.cell (i := 4) rfl⟩
  have HW0 := Lib.hid hW0
  have HBn := Lib.hid hb5
  clear h h0 hB5 hk0 hW0 hb5 hx hown hnl hB hn hs0 ht
  go_enter Tryz.func41, Tryz.ntmps41
  go_upto_region 1 with (fail)
  rw [HW0.out, HBn.out]
  refine wp_region_noPanic ?_
  refine wp_region_till [15] (fun X => X.cell? ⟨bm, 1, none⟩ = some ov ∧ X.cell? ⟨b5, 3, none⟩ = some (.int .i64 t.line) ∧ X.cell? ⟨b5, 4, none⟩ = some (.int .i64 t.col)) (by kernel_rfl) ?_ (fun hE => ?_)
  · first | exact hQ.out _ hk1 | exact hQ.out _ (Keeps.mono (show Keeps (fun _ => False) W0 _ from (by repeat (first | (with_reducible exact Keeps.refl _ _) | (with_reducible refine Keeps.drew ?_) | (with_reducible refine Keeps.drewN ?_ _) | (with_reducible refine Keeps.alloc ?_ _) | (with_reducible refine Keeps.trans ?_ (by assumption) (fun _ _ h => h))))) (fun _ _ h => h.elim))
  have hS := hE (by kernel_rfl)
  refine wpAnyT_pure (i := 0) (v := ?v1_0_1) rfl (by kernel_rfl) (fun _ _ _ h => h) (Or.inl ⟨by rfl, ?y1_0_1⟩) (fun _ => hS) ?_
  case y1_0_1 => (intro w hSw; go_simp; try with_reducible rfl)
  try simp only [AP]
  refine wpAnyT_pure (i := 1) (v := ?v1_1_2) rfl (by kernel_rfl) (fun _ _ _ h => h) (Or.inl ⟨by rfl, ?y1_1_2⟩) (fun _ => hS) ?_
  case y1_1_2 => (intro w hSw; go_simp; try with_reducible rfl)
  try simp only [AP]
  refine wpAnyT_pure (i := 2) (v := ?v1_2_3) rfl (by kernel_rfl) (fun _ _ _ h => h) (Or.inl ⟨by rfl, ?y1_2_3⟩) (fun _ => hS) ?_
  case y1_2_3 => (intro w hSw; go_simp; try with_reducible rfl)
  try simp only [AP]
  refine wpAnyT_pure (i := 3) (v := ?v1_3_4) rfl (by kernel_rfl) (fun _ _ _ h => h) (Or.inl ⟨by rfl, ?y1_3_4⟩) (fun _ => hS) ?_
  case y1_3_4 => (intro w hSw; go_simp; try with_reducible rfl)
  try simp only [AP]
  refine wpAnyT_take (i := 4) (v := ?v1_4_5) rfl (by kernel_rfl) (fun _ _ _ h => h) (Or.inl ⟨by rfl, ?y1_4_5⟩) hS ?_
  case y1_4_5 => (intro w hSw; (try dsimp only at hSw); go_simp; try with_reducible rfl)
  try simp only [AP]
  refine wpAnyT_pure (i := 5) (v := ?v1_5_6) rfl (by kernel_rfl) (fun _ _ _ h => h) (Or.inl ⟨by rfl, ?y1_5_6⟩) (fun _ => hS) ?_
  case y1_5_6 => (intro w hSw; go_simp; try with_reducible rfl)
  try simp only [AP]
  refine wpAnyT_pure (i := 6) (v := ?v1_6_7) rfl (by kernel_rfl) (fun _ _ _ h => h) (Or.inl ⟨by rfl, ?y1_6_7⟩) (fun _ => hS) ?_
  case y1_6_7 => (intro w hSw; go_simp; try with_reducible rfl)
  try simp only [AP]
  refine wpAnyT_take (i := 7) (v := ?v1_7_8) rfl (by kernel_rfl) (fun _ _ _ h => h) (Or.inl ⟨by rfl, ?y1_7_8⟩) hS ?_
  case y1_7_8 => (intro w hSw; (try dsimp only at hSw); go_simp; try with_reducible rfl)
  try simp only [AP]
  refine wpAnyT_pure (i := 8) (v := ?v1_8_9) rfl (by kernel_rfl) (fun _ _ _ h => h) (Or.inl ⟨by rfl, ?y1_8_9⟩) (fun _ => hS) ?_
  case y1_8_9 => (intro w hSw; go_simp; try with_reducible rfl)
  try simp only [AP]
  refine wpAnyT_take (i := 9) (v := ?v1_9_10) rfl (by kernel_rfl) (fun _ _ _ h => h) (Or.inl ⟨by rfl, ?y1_9_10⟩) hS ?_
  case y1_9_10 => (intro w hSw; (try dsimp only at hSw); go_simp; try with_reducible rfl)
  try simp only [AP]
  refine wpAnyT_pure (i := 10) (v := ?v1_10_11) rfl (by kernel_rfl) (fun _ _ _ h => h) (Or.inl ⟨by rfl, ?y1_10_11⟩) (fun _ => hS) ?_
  case y1_10_11 => (intro w hSw; go_simp; try with_reducible rfl)
  try simp only [AP]
  refine wpAnyT_ready (rs := [11]) (by kernel_rfl) rfl ?_
  refine AllT.cons rfl (fun K hK => ?_) ?_
  · go_simp
    refine hK.out _ _ (fun _ => ?_) (fun hE => ?_)
    · first | exact hQ.out _ hk1 | exact hQ.out _ (Keeps.mono (show Keeps (fun _ => False) W0 _ from (by repeat (first | (with_reducible exact Keeps.refl _ _) | (with_reducible refine Keeps.drew ?_) | (with_reducible refine Keeps.drewN ?_ _) | (with_reducible refine Keeps.alloc ?_ _) | (with_reducible refine Keeps.trans ?_ (by assumption) (fun _ _ h => h))))) (fun _ _ h => h.elim))
    have hS := hE (by kernel_rfl)
    clear hK K hE
    try simp only [AP]
    refine wpAnyT_ready (rs := [12]) (by kernel_rfl) rfl ?_
    refine AllT.cons rfl (fun K hK => ?_) ?_
    · (refine step_append_kept2 (W0 := W0) rfl (.tmp 10) (.tmp 17) 45 rfl B 59 i0 _ 5 48 Tryz.underlying45 hi0 hz0 hz1 hz2 rfl (by decide) ov n (m.out.flatMap Tok.cells) rfl HOwn.out (by repeat (first | (with_reducible exact Keeps.refl _ _) | (with_reducible refine Keeps.drew ?_) | (with_reducible refine Keeps.drewN ?_ _) | (with_reducible refine Keeps.alloc ?_ _) | (with_reducible refine Keeps.trans ?_ (by assumption) (fun _ _ h => h)))) _ _ #[.int .i64 k, .string ⟨#[]⟩, .int .i64 0, .int .i64 t.line, .int .i64 t.col] rfl rfl (by first | exact heap_new_at (by simp) | exact heap_new_at (w := W0) (by simp)) (by simp [Value.oneCell']) HMq.out HBq.out HBZ.out ?_; intro g1 cap1 w2 hown1 hk1 hkp1 hat1; have hb2 := HBox.out.keeps hk1 HNO.out)
      refine hK.out _ _ (fun _ => ?_) (fun hE => ?_)
      · first | exact hQ.out _ hk1 | exact hQ.out _ (Keeps.mono (show Keeps (fun _ => False) W0 _ from (by repeat (first | (with_reducible exact Keeps.refl _ _) | (with_reducible refine Keeps.drew ?_) | (with_reducible refine Keeps.drewN ?_ _) | (with_reducible refine Keeps.alloc ?_ _) | (with_reducible refine Keeps.trans ?_ (by assumption) (fun _ _ h => h))))) (fun _ _ h => h.elim))
      have hS := hE (by kernel_rfl)
      clear hK K hE
      try simp only [AP]
      refine wpAnyT_pure (i := 13) (v := ?v1_13_12) rfl (by kernel_rfl) (fun _ _ _ h => h) (Or.inl ⟨by rfl, ?y1_13_12⟩) (fun _ => hS) ?_
      case y1_13_12 => (intro w hSw; go_simp; try with_reducible rfl)
      try simp only [AP]
      refine wpAnyT_pure (i := 14) (v := ?v1_14_13) rfl (by kernel_rfl) (fun _ _ _ h => h) (Or.inl ⟨by rfl, ?y1_14_13⟩) (fun _ => hS) ?_
      case y1_14_13 => (intro w hSw; go_simp; try with_reducible rfl)
      try simp only [AP]
      refine wpAnyT_ready (rs := [15]) (by kernel_rfl) rfl ?_
      refine AllT.cons rfl (fun K hK => ?_) ?_
      · (have z1 := hb2.cell (i := 1) rfl; have zf := hb2.free 1; have zl := hb2.lt; go_simp)
        refine hK.out _ _ (fun he => Bool.noConfusion (show false = true from he)) (fun hE => ?_)
        clear hK K hE
        try simp only [AP]
        refine wpAnyT_done (by kernel_rfl) ?_ _
        refine NoPanic.normal ?_
        have HTo := Lib.hid (HOut.out _ _ _ hk1 hown1 (hat1.imp id (fun h => Nat.le_trans (Keeps.size (show Keeps (fun _ => False) W0 _ from (by repeat (first | (with_reducible exact Keeps.refl _ _) | (with_reducible refine Keeps.drew ?_) | (with_reducible refine Keeps.drewN ?_ _) | (with_reducible refine Keeps.alloc ?_ _) | (with_reducible refine Keeps.trans ?_ (by assumption) (fun _ _ h => h)))))) h)))
        clear hown1 hk1 hkp1 hat1 hb2
        go_wp2_with fail
        go_end0
        exact ⟨rfl, HTo.out⟩
      exact AllT.nil
    exact AllT.nil
  exact AllT.nil
end Go.Proofs.YtcjoapmodaioiaaGreatDoor
end

section
namespace Go.Proofs.YtcjoapmodaioiaaGreatDoor
open Go.RowKit Go.Shelf

set_option maxHeartbeats 4000000 in
theorem is_any (t : Tok) (k : Int) (s : ByteArray) (W : World) :
    Calls Tryz.prog 39 #[.agg #[.int .i64 t.kind, .string t.text, .int .i64 t.n, .int .i64 t.line, .int .i64 t.col], .int .i64 k, .string s] W (fun e w' => e = .returned (.bool (isP t k s)) ∧ Keeps (fun _ => False) W w') := by
  unfold isP
  by_cases h1 : t.kind = k
  · by_cases h2 : t.text = s
    · have h3 := str_yes h2
      have hr : (decide (t.kind = k) && decide (t.text = s)) = true := by simp [h1, h2]
      have hk : (t.kind == k) = true := by simpa using h1
      rw [hr]
      clear hr h1 h2
      go_enter Tryz.func39, Tryz.ntmps39
      go_wp2_with fail
      go_ret
      exact ⟨rfl, (Keeps.refl _ _).alloc _⟩
    · have h3 := str_no h2
      have hr : (decide (t.kind = k) && decide (t.text = s)) = false := by simp [h1, h2]
      have hk : (t.kind == k) = true := by simpa using h1
      rw [hr]
      clear hr h1 h2
      go_enter Tryz.func39, Tryz.ntmps39
      go_wp2_with fail
      go_ret
      exact ⟨rfl, (Keeps.refl _ _).alloc _⟩
  · have hr : (decide (t.kind = k) && decide (t.text = s)) = false := by simp [h1]
    have hk : (t.kind == k) = false := by simpa using h1
    rw [hr]
    clear hr h1
    go_enter Tryz.func39, Tryz.ntmps39
    go_wp2_with fail
    go_ret
    exact ⟨rfl, (Keeps.refl _ _).alloc _⟩
theorem fld0 (x : Int) (y : ByteArray) (w : World) : (Instr.field 96 (.agg #[.int .i64 x, .string y]) 0).run Tryz.prog w = .ok (.int .i64 x) w := by kernel_rfl
theorem fld1 (x : Int) (y : ByteArray) (w : World) : (Instr.field 96 (.agg #[.int .i64 x, .string y]) 1).run Tryz.prog w = .ok (.string y) w := by kernel_rfl
theorem shutL_stop (t : Tok) {m : Mk} (h : ¬ 0 < (topP m.st).col) : ∀ n, shutL t n m = m
  | 0 => rfl
  | n + 1 => by rw [shutL, if_neg h]
theorem top_ne {m : Mk} {c : Int} (hc : 0 ≤ c) (h : c < (topP m.st).col) : m.st ≠ [] := fun e => by rw [e] at h; have h2 : c < 0 := h; omega
theorem close_len {m : Mk} (t : Tok) (h : m.st ≠ []) : (m.close t).st.length + 1 = m.st.length := by
  obtain ⟨s, c, hs⟩ := snoc_of_ne h
  show m.st.dropLast.length + 1 = _
  rw [hs]; simp
theorem shutL_go (t : Tok) {m : Mk} (h : 0 < (topP m.st).col) : shutL t m.st.length m = shutL t (m.close t).st.length (m.close t) := by
  have h1 := close_len t (top_ne (c := 0) (by omega) h)
  rw [← h1, shutL, if_pos h]
theorem lineL_stop (t : Tok) {m : Mk} (h : ¬ t.col < (topP m.st).col) : ∀ n, lineL t n m = m
  | 0 => rfl
  | n + 1 => by rw [lineL, if_neg h]
theorem lineL_go (t : Tok) (ht : 0 ≤ t.col) {m : Mk} (h : t.col < (topP m.st).col) : lineL t m.st.length m = lineL t (m.close t).st.length (m.close t) := by
  have h1 := close_len t (top_ne ht h)
  rw [← h1, lineL, if_pos h]
def phi (m : Mk) : Nat := m.out.length + m.st.length
theorem phi_close {m : Mk} (t : Tok) (h : m.st ≠ []) : phi (m.close t) = phi m := by
  have h1 := close_len t h
  show (m.out ++ [tokAt 7 t]).length + (m.close t).st.length = _
  rw [List.length_append]
  unfold phi
  simp only [List.length_cons, List.length_nil]
  omega
set_option maxRecDepth 100000 in
set_option maxHeartbeats 8000000 in
theorem shut_any (W : World) (B bm : Nat) (sv ov : Value) (m : Mk) (h : MkAt W B bm sv ov m) (hB : B ≤ W.heap.size) (t : Tok) (ht : TokOk t) (hn : phi m ≤ 200000) :
    Calls Tryz.prog 83 #[.pointer (some ⟨bm, 0, none⟩), .agg #[.int .i64 t.kind, .string t.text, .int .i64 t.n, .int .i64 t.line, .int .i64 t.col]] W (fun e w' => e = .returned (.tuple #[]) ∧ MkTo B bm sv ov W (shutP t m) w') := by
  obtain ⟨b3, hb3⟩ : ∃ b3, W.heap.size = b3 := ⟨_, rfl⟩
  obtain ⟨W0, hW0⟩ : ∃ W0, W.alloc (.cells #[.int .i64 t.kind, .string t.text, .int .i64 t.n, .int .i64 t.line, .int .i64 t.col] 59) = W0 := ⟨_, rfl⟩
  have hk0 : Keeps (fun _ => False) W W0 := by rw [← hW0]; exact (Keeps.refl _ _).alloc _
  have hB3 : Blk W0 b3 59 [.int .i64 t.kind, .string t.text, .int .i64 t.n, .int .i64 t.line, .int .i64 t.col] := by rw [← hW0, ← hb3]; exact Blk.new W _ [_, _, _, _, _]
  have hs0 := hk0.size
  have h0 := Lib.hid (h.same hk0)
  have hno : Hid (∀ i, Own3 bm sv ov i → i ≠ b3) := fun i hi e => by have := h.lt i hi; omega
  have HK0 := Lib.hid hk0
  have HB3 := Lib.hid hB3
  have HW0 := Lib.hid hW0
  have HBn := Lib.hid hb3
  have HT := Lib.hid ht
  have HBB : Hid (B ≤ W0.heap.size) := by show _ ≤ _; omega
  have hph := Lib.hid hn
  obtain ⟨R, hR⟩ : ∃ R, shutP t m = R := ⟨_, rfl⟩
  rw [hR]
  have HR := Lib.hid hR
  clear h hk0 hB3 hW0 hb3 ht hs0 hn hB hR
  go_enter Tryz.func83, Tryz.ntmps83
  go_upto_region 1 with (fail)
  rw [HW0.out, HBn.out]
  go_loopg [] m.st.length (fun gk wr => ∃ m', MkTo B bm sv ov W0 m' wr ∧ m'.st.length ≤ gk ∧ Hid (shutL t m'.st.length m' = R) ∧ Hid (phi m' ≤ 200000))
  case atStart => exact ⟨m, MkTo.same h0.out (Keeps.refl _ _), Nat.le_refl _, HR.out, hph.out⟩
  case round =>
    obtain ⟨m', ⟨sv1, ov1, hM, hk, hn⟩, hlen, hRes, hphi⟩ := hrel
    obtain ⟨wx, hwx⟩ : ∃ wx, wx = wr := ⟨_, rfl⟩
    rw [← hwx] at hM hk ⊢
    clear hwx
    have HM := Lib.hid hM
    have HKw := Lib.hid hk
    have HN := Lib.hid hn
    have HTop := Lib.hid (top_any wx B bm sv1 ov1 m' hM)
    have hBx : Hid (B ≤ wx.heap.size) := by have h1 := hk.size; have h2 := HBB.out; show _ ≤ _; omega
    obtain ⟨c, hc⟩ : ∃ c, topP m'.st = c := ⟨_, rfl⟩
    have hf0 := fld0 c.col c.op
    rw [hc] at HTop
    have HC := Lib.hid hc
    have hbx := HB3.out.keeps hk (fun e => hno.out b3 e rfl)
    have HBx := Lib.hid hbx
    clear hM hk hn hc hbx
    by_cases hcol : 0 < c.col
    · have hne : m'.st ≠ [] := top_ne (c := 0) (by omega) (by rw [HC.out]; exact hcol)
      have HNe := Lib.hid hne
      have hcl := close_len t hne
      go_wp2_with fail
      with_reducible refine HTop.out.mono ?_
      rintro e w1 ⟨rfl, hk1⟩
      have hb1 := HBx.out.keeps hk1 (fun h => h)
      have x0 := hb1.cell (i := 0) rfl
      have x1 := hb1.cell (i := 1) rfl
      have x2 := hb1.cell (i := 2) rfl
      have x3 := hb1.cell (i := 3) rfl
      have x4 := hb1.cell (i := 4) rfl
      have HPut := Lib.hid (lput_any w1 B bm sv1 ov1 m' (HM.out.same hk1) (by have := hk1.size; have := hBx.out; omega) 7 t (by decide) HT.out (by have h1 : m'.out.length + m'.st.length ≤ 200000 := hphi.out; omega))
      have HK1 := Lib.hid hk1
      clear hk1 hb1 HTop
      go_wp2_with fail
      clear x0 x1 x2 x3 x4
      with_reducible refine HPut.out.mono ?_
      rintro e w2 ⟨rfl, hT2⟩
      obtain ⟨sv2, ov2, hM2, hk2, hn2⟩ := hT2
      have HPop := Lib.hid (pop_any w2 B bm sv2 ov2 (m'.put 7 t) hM2 HNe.out)
      have HK2 := Lib.hid hk2
      have HN2 := Lib.hid hn2
      clear hM2 hk2 hn2 HPut
      go_wp2_with fail
      with_reducible refine HPop.out.mono ?_
      rintro e w3 ⟨rfl, hT3⟩
      have HT3 : Hid (MkTo B bm sv ov W0 (m'.close t) w3) := MkTo.trans HKw.out HN.out (MkTo.trans (HK1.out.mono (fun _ _ h => h.elim)) (fun i hi => .inl hi) (MkTo.trans HK2.out HN2.out hT3))
      clear hT3
      go_wp2_with fail
      go_roundg (gk - 1)
      case measure => omega
      case rel => exact ⟨m'.close t, HT3.out, by omega, (shutL_go t (by rw [HC.out]; exact hcol)).symm.trans hRes.out, by show phi _ ≤ _; rw [phi_close t HNe.out]; exact hphi.out⟩
    · have hcol2 := Lib.hid hcol
      go_wp2_with fail
      with_reducible refine HTop.out.mono ?_
      rintro e w1 ⟨rfl, hk1⟩
      have hres : m' = R := (shutL_stop t (by rw [HC.out]; have := hcol2.out; omega) _).symm.trans hRes.out
      have HF : Hid (MkTo B bm sv ov W R w1) := by
        rw [← hres]
        exact MkTo.trans (HK0.out.mono (fun _ _ h => h.elim)) (fun i hi => .inl hi) (MkTo.trans HKw.out HN.out (MkTo.same HM.out hk1))
      clear hk1 hres
      go_wp2_with fail
      go_end0
      exact ⟨rfl, HF.out⟩
set_option maxRecDepth 100000 in
set_option maxHeartbeats 8000000 in
theorem line_any (W : World) (B bm : Nat) (sv ov : Value) (m : Mk) (h : MkAt W B bm sv ov m) (hB : B ≤ W.heap.size) (t : Tok) (ht : TokOk t) (htc : 1 ≤ t.col) (hn : phi m ≤ 199999) :
    Calls Tryz.prog 42 #[.pointer (some ⟨bm, 0, none⟩), .agg #[.int .i64 t.kind, .string t.text, .int .i64 t.n, .int .i64 t.line, .int .i64 t.col]] W (fun e w' => e = .returned (.tuple #[]) ∧ MkTo B bm sv ov W (lineP t m) w') := by
  obtain ⟨b3, hb3⟩ : ∃ b3, W.heap.size = b3 := ⟨_, rfl⟩
  obtain ⟨W0, hW0⟩ : ∃ W0, W.alloc (.cells #[.int .i64 t.kind, .string t.text, .int .i64 t.n, .int .i64 t.line, .int .i64 t.col] 59) = W0 := ⟨_, rfl⟩
  have hk0 : Keeps (fun _ => False) W W0 := by rw [← hW0]; exact (Keeps.refl _ _).alloc _
  have hB3 : Blk W0 b3 59 [.int .i64 t.kind, .string t.text, .int .i64 t.n, .int .i64 t.line, .int .i64 t.col] := by rw [← hW0, ← hb3]; exact Blk.new W _ [_, _, _, _, _]
  have hs0 := hk0.size
  have h0 := Lib.hid (h.same hk0)
  have hno : Hid (∀ i, Own3 bm sv ov i → i ≠ b3) := fun i hi e => by have := h.lt i hi; omega
  have HK0 := Lib.hid hk0
  have HB3 := Lib.hid hB3
  have HW0 := Lib.hid hW0
  have HBn := Lib.hid hb3
  have HT := Lib.hid ht
  have HTc := Lib.hid htc
  have HBB : Hid (B ≤ W0.heap.size) := by show _ ≤ _; omega
  have hph := Lib.hid hn
  obtain ⟨R, hR⟩ : ∃ R, lineL t m.st.length m = R := ⟨_, rfl⟩
  have HR := Lib.hid hR
  clear h hk0 hB3 hW0 hb3 ht hs0 hn hB hR htc
  go_enter Tryz.func42, Tryz.ntmps42
  go_upto_region 1 with (fail)
  rw [HW0.out, HBn.out]
  go_loopg [] m.st.length (fun gk wr => ∃ m', MkTo B bm sv ov W0 m' wr ∧ m'.st.length ≤ gk ∧ Hid (lineL t m'.st.length m' = R) ∧ Hid (phi m' ≤ 199999))
  case atStart => exact ⟨m, MkTo.same h0.out (Keeps.refl _ _), Nat.le_refl _, HR.out, hph.out⟩
  case round =>
    obtain ⟨m', ⟨sv1, ov1, hM, hk, hn⟩, hlen, hRes, hphi⟩ := hrel
    obtain ⟨wx, hwx⟩ : ∃ wx, wx = wr := ⟨_, rfl⟩
    rw [← hwx] at hM hk ⊢
    clear hwx
    have HM := Lib.hid hM
    have HKw := Lib.hid hk
    have HN := Lib.hid hn
    have hBx : Hid (B ≤ wx.heap.size) := by have h1 := hk.size; have h2 := HBB.out; show _ ≤ _; omega
    obtain ⟨c, hc⟩ : ∃ c, topP m'.st = c := ⟨_, rfl⟩
    have HTop : Hid (∀ X, Keeps (fun _ => False) wx X → Calls Tryz.prog 44 #[.pointer (some ⟨bm, 0, none⟩)] X (fun e w' => e = .returned (.agg #[.int .i64 c.col, .string c.op]) ∧ Keeps (fun _ => False) X w')) := fun X hkX => by
      rw [← hc]; exact top_any X B bm sv1 ov1 m' (hM.same hkX)
    have hf0 := fld0 c.col c.op
    have HC := Lib.hid hc
    have hbx := HB3.out.keeps hk (fun e => hno.out b3 e rfl)
    have HBx := Lib.hid hbx
    have hQ : Hid (∀ X, Keeps (fun _ => False) wx X → (X.cell? ⟨b3, 4, none⟩ = some (.int .i64 t.col))) := fun X hkX => (hbx.keeps hkX (fun h => h)).cell (i := 4) rfl
    clear hM hk hn hc hbx
    by_cases hcol : t.col < c.col
    · have hne : m'.st ≠ [] := top_ne (c := t.col) (by have := HTc.out; omega) (by rw [HC.out]; exact hcol)
      have HNe := Lib.hid hne
      have hcl := close_len t hne
      have HCol := Lib.hid hcol
      go_upto_region 1 with (fail)
      go_region_held3 (fun X => X.cell? ⟨b3, 4, none⟩ = some (.int .i64 t.col))
        (exact hQ.out _ (by repeat (first | (with_reducible assumption) | (with_reducible exact Keeps.refl _ _) | (with_reducible refine Keeps.drewN ?_ _) | (with_reducible refine Keeps.drew ?_) | with_reducible refine Keeps.setCell ?_ (by first | (intro _; exact rfl) | (intro _; exact Or.inl rfl) | (intro _; exact Or.inr rfl) | (simp; done) | (simp; omega)) _ | (with_reducible refine Keeps.alloc ?_ _))))
        ((go_at_call 44; with_reducible refine (HTop.out _ (by repeat (first | (with_reducible assumption) | (with_reducible exact Keeps.refl _ _) | (with_reducible refine Keeps.drewN ?_ _) | (with_reducible refine Keeps.drew ?_) | with_reducible refine Keeps.setCell ?_ (by first | (intro _; exact rfl) | (intro _; exact Or.inl rfl) | (intro _; exact Or.inr rfl) | (simp; done) | (simp; omega)) _ | (with_reducible refine Keeps.alloc ?_ _)))).mono ?_; rintro e w1 ⟨rfl, hk1⟩; have hkQ := Keeps.trans (show Keeps (fun _ => False) wx _ from (by repeat (first | (with_reducible assumption) | (with_reducible exact Keeps.refl _ _) | (with_reducible refine Keeps.drewN ?_ _) | (with_reducible refine Keeps.drew ?_) | with_reducible refine Keeps.setCell ?_ (by first | (intro _; exact rfl) | (intro _; exact Or.inl rfl) | (intro _; exact Or.inr rfl) | (simp; done) | (simp; omega)) _ | (with_reducible refine Keeps.alloc ?_ _)))) hk1 (fun _ _ h => h)))
      have hb1 := HBx.out.keeps hkQ (fun h => h)
      have x0 := hb1.cell (i := 0) rfl
      have x1 := hb1.cell (i := 1) rfl
      have x2 := hb1.cell (i := 2) rfl
      have x3 := hb1.cell (i := 3) rfl
      have x4 := hb1.cell (i := 4) rfl
      have HPut := Lib.hid (lput_any w1 B bm sv1 ov1 m' (HM.out.same hkQ) (by have := hkQ.size; have := hBx.out; omega) 7 t (by decide) HT.out (by have h1 : m'.out.length + m'.st.length ≤ 199999 := hphi.out; omega))
      have HK1 := Lib.hid hkQ
      clear hk1 hkQ hb1 HTop hQ
      go_wp2_with fail
      clear x0 x1 x2 x3 x4
      with_reducible refine HPut.out.mono ?_
      rintro e w2 ⟨rfl, hT2⟩
      obtain ⟨sv2, ov2, hM2, hk2, hn2⟩ := hT2
      have HPop := Lib.hid (pop_any w2 B bm sv2 ov2 (m'.put 7 t) hM2 HNe.out)
      have HK2 := Lib.hid hk2
      have HN2 := Lib.hid hn2
      clear hM2 hk2 hn2 HPut
      go_wp2_with fail
      with_reducible refine HPop.out.mono ?_
      rintro e w3 ⟨rfl, hT3⟩
      have HT3 : Hid (MkTo B bm sv ov W0 (m'.close t) w3) := MkTo.trans HKw.out HN.out (MkTo.trans (HK1.out.mono (fun _ _ h => h.elim)) (fun i hi => .inl hi) (MkTo.trans HK2.out HN2.out hT3))
      clear hT3
      go_wp2_with fail
      go_roundg (gk - 1)
      case measure => omega
      case rel => exact ⟨m'.close t, HT3.out, by omega, (lineL_go t (by have := HTc.out; omega) (by rw [HC.out]; exact HCol.out)).symm.trans hRes.out, by show phi _ ≤ _; rw [phi_close t HNe.out]; exact hphi.out⟩
    · have HCol : Hid (¬ t.col < c.col) := hcol
      have hres : m' = R := (lineL_stop t (by rw [HC.out]; exact hcol) _).symm.trans hRes.out
      subst hres
      have HF : Hid (∀ R' w1, MkTo B bm sv1 ov1 wx R' w1 → MkTo B bm sv ov W R' w1) := fun R' w1 hR => MkTo.trans (HK0.out.mono (fun _ _ h => h.elim)) (fun i hi => .inl hi) (MkTo.trans HKw.out HN.out hR)
      go_upto_region 1 with (fail)
      go_region_held3 (fun X => X.cell? ⟨b3, 4, none⟩ = some (.int .i64 t.col))
        (exact hQ.out _ (by repeat (first | (with_reducible assumption) | (with_reducible exact Keeps.refl _ _) | (with_reducible refine Keeps.drewN ?_ _) | (with_reducible refine Keeps.drew ?_) | with_reducible refine Keeps.setCell ?_ (by first | (intro _; exact rfl) | (intro _; exact Or.inl rfl) | (intro _; exact Or.inr rfl) | (simp; done) | (simp; omega)) _ | (with_reducible refine Keeps.alloc ?_ _))))
        ((go_at_call 44; with_reducible refine (HTop.out _ (by repeat (first | (with_reducible assumption) | (with_reducible exact Keeps.refl _ _) | (with_reducible refine Keeps.drewN ?_ _) | (with_reducible refine Keeps.drew ?_) | with_reducible refine Keeps.setCell ?_ (by first | (intro _; exact rfl) | (intro _; exact Or.inl rfl) | (intro _; exact Or.inr rfl) | (simp; done) | (simp; omega)) _ | (with_reducible refine Keeps.alloc ?_ _)))).mono ?_; rintro e w1 ⟨rfl, hk1⟩; have hkQ := Keeps.trans (show Keeps (fun _ => False) wx _ from (by repeat (first | (with_reducible assumption) | (with_reducible exact Keeps.refl _ _) | (with_reducible refine Keeps.drewN ?_ _) | (with_reducible refine Keeps.drew ?_) | with_reducible refine Keeps.setCell ?_ (by first | (intro _; exact rfl) | (intro _; exact Or.inl rfl) | (intro _; exact Or.inr rfl) | (simp; done) | (simp; omega)) _ | (with_reducible refine Keeps.alloc ?_ _)))) hk1 (fun _ _ h => h)))
      go_upto_region 4 with (fail)
      obtain ⟨wz, hwz⟩ : ∃ wz, wz = w1 := ⟨_, rfl⟩
      rw [← hwz] at hkQ ⊢
      clear hwz hk1
      have HK1 := Lib.hid hkQ
      clear hkQ
      have HTop2 : Hid (∀ X, Keeps (fun _ => False) wz X → Calls Tryz.prog 44 #[.pointer (some ⟨bm, 0, none⟩)] X (fun e w' => e = .returned (.agg #[.int .i64 c.col, .string c.op]) ∧ Keeps (fun _ => False) X w')) := fun X hkX => HTop.out X (HK1.out.trans hkX (fun _ _ h => h))
      have hQ2 : Hid (∀ X, Keeps (fun _ => False) wz X → (X.cell? ⟨b3, 4, none⟩ = some (.int .i64 t.col))) := fun X hkX => hQ.out X (HK1.out.trans hkX (fun _ _ h => h))
      by_cases heq : c.col = t.col
      · have hbeq : (c.col == t.col) = true := by simpa using heq
        have HEq := Lib.hid heq
        clear heq
        go_region_held3 (fun X => X.cell? ⟨b3, 4, none⟩ = some (.int .i64 t.col))
          (exact hQ2.out _ (by repeat (first | (with_reducible assumption) | (with_reducible exact Keeps.refl _ _) | (with_reducible refine Keeps.drewN ?_ _) | (with_reducible refine Keeps.drew ?_) | with_reducible refine Keeps.setCell ?_ (by first | (intro _; exact rfl) | (intro _; exact Or.inl rfl) | (intro _; exact Or.inr rfl) | (simp; done) | (simp; omega)) _ | (with_reducible refine Keeps.alloc ?_ _))))
          ((go_at_call 44; with_reducible refine (HTop2.out _ (by repeat (first | (with_reducible assumption) | (with_reducible exact Keeps.refl _ _) | (with_reducible refine Keeps.drewN ?_ _) | (with_reducible refine Keeps.drew ?_) | with_reducible refine Keeps.setCell ?_ (by first | (intro _; exact rfl) | (intro _; exact Or.inl rfl) | (intro _; exact Or.inr rfl) | (simp; done) | (simp; omega)) _ | (with_reducible refine Keeps.alloc ?_ _)))).mono ?_; rintro e w2 ⟨rfl, hk2⟩; have hkP := Keeps.trans (show Keeps (fun _ => False) wz _ from (by repeat (first | (with_reducible assumption) | (with_reducible exact Keeps.refl _ _) | (with_reducible refine Keeps.drewN ?_ _) | (with_reducible refine Keeps.drew ?_) | with_reducible refine Keeps.setCell ?_ (by first | (intro _; exact rfl) | (intro _; exact Or.inl rfl) | (intro _; exact Or.inr rfl) | (simp; done) | (simp; omega)) _ | (with_reducible refine Keeps.alloc ?_ _)))) hk2 (fun _ _ h => h)))
        have hb1 := HBx.out.keeps (HK1.out.trans hkP (fun _ _ h => h)) (fun h => h)
        have x0 := hb1.cell (i := 0) rfl
        have x1 := hb1.cell (i := 1) rfl
        have x2 := hb1.cell (i := 2) rfl
        have x3 := hb1.cell (i := 3) rfl
        have x4 := hb1.cell (i := 4) rfl
        have HPut := Lib.hid (lput_any w2 B bm sv1 ov1 m' (HM.out.same (HK1.out.trans hkP (fun _ _ h => h))) (by have := hkP.size; have := HK1.out.size; have := hBx.out; omega) 8 t (by decide) HT.out (by have h1 : m'.out.length + m'.st.length ≤ 199999 := hphi.out; omega))
        have HK2 := Lib.hid (HK1.out.trans hkP (fun _ _ h => h))
        have hfin : lineP t m = m'.put 8 t := by
          unfold lineP
          dsimp only
          rw [HR.out, HC.out, if_pos HEq.out]
        have HFin := Lib.hid hfin
        clear hk2 hkP hb1 HTop hQ HTop2 hQ2 hfin
        go_wp2_with fail
        clear x0 x1 x2 x3 x4
        with_reducible refine HPut.out.mono ?_
        rintro e w3 ⟨rfl, hT2⟩
        have HF3 := Lib.hid (HF.out _ _ (MkTo.trans (HK2.out.mono (fun _ _ h => h.elim)) (fun i hi => .inl hi) hT2))
        clear hT2
        go_wp2_with fail
        go_end0
        rw [HFin.out]
        exact ⟨rfl, HF3.out⟩
      · have hbeq : (c.col == t.col) = false := by simpa using heq
        have HEq : Hid (¬ c.col = t.col) := heq
        clear heq
        go_region_held3 (fun X => X.cell? ⟨b3, 4, none⟩ = some (.int .i64 t.col))
          (exact hQ2.out _ (by repeat (first | (with_reducible assumption) | (with_reducible exact Keeps.refl _ _) | (with_reducible refine Keeps.drewN ?_ _) | (with_reducible refine Keeps.drew ?_) | with_reducible refine Keeps.setCell ?_ (by first | (intro _; exact rfl) | (intro _; exact Or.inl rfl) | (intro _; exact Or.inr rfl) | (simp; done) | (simp; omega)) _ | (with_reducible refine Keeps.alloc ?_ _))))
          ((go_at_call 44; with_reducible refine (HTop2.out _ (by repeat (first | (with_reducible assumption) | (with_reducible exact Keeps.refl _ _) | (with_reducible refine Keeps.drewN ?_ _) | (with_reducible refine Keeps.drew ?_) | with_reducible refine Keeps.setCell ?_ (by first | (intro _; exact rfl) | (intro _; exact Or.inl rfl) | (intro _; exact Or.inr rfl) | (simp; done) | (simp; omega)) _ | (with_reducible refine Keeps.alloc ?_ _)))).mono ?_; rintro e w2 ⟨rfl, hk2⟩; have hkP := Keeps.trans (show Keeps (fun _ => False) wz _ from (by repeat (first | (with_reducible assumption) | (with_reducible exact Keeps.refl _ _) | (with_reducible refine Keeps.drewN ?_ _) | (with_reducible refine Keeps.drew ?_) | with_reducible refine Keeps.setCell ?_ (by first | (intro _; exact rfl) | (intro _; exact Or.inl rfl) | (intro _; exact Or.inr rfl) | (simp; done) | (simp; omega)) _ | (with_reducible refine Keeps.alloc ?_ _)))) hk2 (fun _ _ h => h)))
        have hfin : lineP t m = m' := by
          unfold lineP
          dsimp only
          rw [HR.out, HC.out, if_neg HEq.out]
        have HFin := Lib.hid hfin
        have HF3 := Lib.hid (HF.out _ _ (MkTo.same HM.out (HK1.out.trans hkP (fun _ _ h => h))))
        clear hk2 hkP HTop hQ HTop2 hQ2 hfin
        go_wp2_with fail
        go_end0
        rw [HFin.out]
        exact ⟨rfl, HF3.out⟩
end Go.Proofs.YtcjoapmodaioiaaGreatDoor
end

section
namespace Go.Proofs.YtcjoapmodaioiaaGreatDoor
open Go.RowKit Go.Shelf

theorem sWhere_l : sWhere.toList = [119, 104, 101, 114, 101] := by decide +kernel
theorem sOf_l : sOf.toList = [111, 102] := by decide +kernel
theorem sLet_l : sLet.toList = [108, 101, 116] := by decide +kernel
theorem sWith_l : sWith.toList = [119, 105, 116, 104] := by decide +kernel
set_option maxHeartbeats 4000000 in
theorem opens_any (t : Tok) (W : World) :
    Calls Tryz.prog 38 #[.agg #[.int .i64 t.kind, .string t.text, .int .i64 t.n, .int .i64 t.line, .int .i64 t.col]] W (fun e w' => e = .returned (.bool (opensP t)) ∧ Keeps (fun _ => False) W w') := by
  by_cases h0 : t.kind = 4
  · have hk : (t.kind == 4) = true := by simpa using h0
    by_cases h1 : t.text = sWhere
    · have h1b : (t.text.toList == sWhere.toList) = true := str_yes h1
      have hr : opensP t = true := by unfold opensP; simp [h0, h1]
      rw [hr]
      clear hr h0 h1
      rw [sWhere_l] at h1b
      go_enter Tryz.func38, Tryz.ntmps38
      go_wp2_with fail
      go_ret
      exact ⟨rfl, (Keeps.refl _ _).alloc _⟩
    · have h1b : (t.text.toList == sWhere.toList) = false := str_no h1
      by_cases h2 : t.text = sOf
      · have h2b : (t.text.toList == sOf.toList) = true := str_yes h2
        have hr : opensP t = true := by unfold opensP; simp [h0, h2]
        rw [hr]
        clear hr h0 h1 h2
        rw [sWhere_l] at h1b
        rw [sOf_l] at h2b
        go_enter Tryz.func38, Tryz.ntmps38
        go_wp2_with fail
        go_ret
        exact ⟨rfl, (Keeps.refl _ _).alloc _⟩
      · have h2b : (t.text.toList == sOf.toList) = false := str_no h2
        by_cases h3 : t.text = sLet
        · have h3b : (t.text.toList == sLet.toList) = true := str_yes h3
          have hr : opensP t = true := by unfold opensP; simp [h0, h3]
          rw [hr]
          clear hr h0 h1 h2 h3
          rw [sWhere_l] at h1b
          rw [sOf_l] at h2b
          rw [sLet_l] at h3b
          go_enter Tryz.func38, Tryz.ntmps38
          go_wp2_with fail
          go_ret
          exact ⟨rfl, (Keeps.refl _ _).alloc _⟩
        · have h3b : (t.text.toList == sLet.toList) = false := str_no h3
          obtain ⟨q, hq⟩ : ∃ q : Bool, decide (t.text = sWith) = q := ⟨_, rfl⟩
          have h4b : (t.text.toList == sWith.toList) = q := by
            rw [← hq]
            by_cases h4 : t.text = sWith
            · rw [str_yes h4, decide_eq_true h4]
            · rw [str_no h4, decide_eq_false h4]
          have hr : opensP t = q := by unfold opensP; simp [h0, h1, h2, h3, hq]
          rw [hr]
          clear hr h0 h1 h2 h3 hq
          rw [sWhere_l] at h1b
          rw [sOf_l] at h2b
          rw [sLet_l] at h3b
          rw [sWith_l] at h4b
          go_enter Tryz.func38, Tryz.ntmps38
          go_wp2_with fail
          go_ret
          exact ⟨rfl, (Keeps.refl _ _).alloc _⟩
  · have hk : (t.kind == 4) = false := by simpa using h0
    have hr : opensP t = false := by unfold opensP; simp [h0]
    rw [hr]
    clear hr h0
    go_enter Tryz.func38, Tryz.ntmps38
    go_wp2_with fail
    go_ret
    exact ⟨rfl, (Keeps.refl _ _).alloc _⟩
theorem MkAt.sl {W : World} {B bm : Nat} {sv ov : Value} {m : Mk} (h : MkAt W B bm sv ov m) : Sl W (fun b => sv.ownBlock = some b) Ctx.d m.st sv :=
  Sl.of_own (F := fun _ => False) h.stk rfl (ctxs_rp m.st h.okc) (fun _ h => h.elim) (fun _ h => h)
set_option maxRecDepth 100000 in
set_option maxHeartbeats 4000000 in
theorem linner_any (W : World) (B bm : Nat) (sv ov : Value) (m : Mk) (h : MkAt W B bm sv ov m) :
    Calls Tryz.prog 86 #[.pointer (some ⟨bm, 0, none⟩)] W (fun e w' => Keeps (fun _ => False) W w' ∧ ∃ v, e = .returned v ∧ Sl w' (fun b => sv.ownBlock = some b) Ctx.d (innerP m.st) v) := by
  obtain ⟨A, cc, A2, c2, rfl, rfl, hc1, hc2, _, _⟩ := h.form
  have c0 := h.box.cell (i := 0) rfl
  have hl3 := h.box.lt
  have HM := Lib.hid h
  have HSl := Lib.hid h.sl
  obtain ⟨n, hn⟩ : ∃ n, m.st.length = n := ⟨_, rfl⟩
  rw [hn] at c0 hc1 HM HSl
  have HNn := Lib.hid hn
  have hcm : n ≤ 9223372036854775807 := by unfold maxLen at hc2; omega
  have hcc : cc ≤ 9223372036854775807 := by unfold maxLen at hc2; omega
  have hnc : (n : Int) ≤ (cc : Int) := by omega
  rw [hn]
  clear h hn hc2
  go_enter Tryz.func86, Tryz.ntmps86
  go_wp2_with fail
  go_loopw [3] (fun i wr => ∃ k : Nat, k ≤ n ∧ .int .i64 (k : Int) = i ∧ Hid (innerN m.st n = innerN m.st k) ∧ wr = W) (fun i _ => (intOf i).toNat)
  case atStart => exact ⟨n, Nat.le_refl _, rfl, rfl, rfl⟩
  case round =>
    obtain ⟨k, hk, rfl, hin, rfl⟩ := hrel
    have hfin : ∀ j : Nat, j ≤ n → innerN m.st n = j → Hid (∀ v, v = (Value.slice (if cc = j then A else A.map (·.add (j * 2))) (n - j) (cc - j)) → Sl wr (fun b => (Value.slice A n cc).ownBlock = some b) Ctx.d (innerP m.st) v) := fun j hj he v hv => by
      subst hv
      have := HSl.out.drop Ctx.wide (i := j) (by rw [HNn.out]; exact hj)
      unfold innerP
      rw [HNn.out, he]
      exact this
    by_cases hk0 : k = 0
    · subst hk0
      have hF := hfin 0 (Nat.zero_le _) hin.out
      clear hfin hin
      go_wp2_with fail
      go_ret
      refine ⟨Keeps.refl _ _, _, rfl, hF.out _ ?_⟩
      cases A <;> simp [Addr.add]
    · obtain ⟨j, rfl⟩ : ∃ j, k = j + 1 := ⟨k - 1, by omega⟩
      have hjl : j < m.st.length := by have := HNn.out; omega
      obtain ⟨g, off, hA, _, d0, d1, _, _⟩ := Ctx.get HSl.out hjl
      subst hA
      obtain ⟨c, hc⟩ : ∃ c, m.st[j] = c := ⟨_, rfl⟩
      rw [hc] at d0 d1
      have hstep : innerN m.st (j + 1) = if 0 < c.col then innerN m.st j else j + 1 := by
        rw [innerN, List.getElem?_eq_getElem hjl, hc]
      have hj0 : (0 : Int) < (j : Int) + 1 := by omega
      have hj1 : (j : Int) < (n : Int) := by omega
      have hj2 : (0 : Int) ≤ (j : Int) := by omega
      by_cases hcol : 0 < c.col
      · rw [if_pos hcol] at hstep
        have hin2 : Hid (innerN m.st n = innerN m.st j) := hin.out.trans hstep
        clear hstep hin hfin hc
        go_wp2_with fail
        go_roundw
        case rel => exact ⟨j, by omega, by go_num, hin2.out, trivial⟩
        case measure => simp [intOf]
      · rw [if_neg hcol] at hstep
        have hF := hfin (j + 1) hk (hin.out.trans hstep)
        clear hstep hin hfin hc hk0
        by_cases hcj : cc = j + 1
        · subst hcj
          go_wp2_with fail
          go_ret
          exact ⟨Keeps.refl _ _, _, rfl, (hF.out _ (by simp; omega)).mono (fun b hb => by simpa [Value.ownBlock] using hb)⟩
        · have hcj2 : ¬ j + 1 = cc := fun h => hcj h.symm
          go_wp2_with fail
          go_ret
          exact ⟨Keeps.refl _ _, _, rfl, (hF.out _ (by rw [if_neg hcj]; simp [Go.WideShapes.add_plain])).mono (fun b hb => by simpa [Value.ownBlock] using hb)⟩
theorem bclo1 (c : Ctx) (F : Nat → Prop) (W : World) (cs : List Value) (hr : Rp W F c.d cs) :
    Calls Tryz.prog 85 #[.agg cs.toArray] W fun e w' => e = .returned (.bool (decide (c.col = 0))) ∧ Below W.heap.size W w' := by
  rw [Ctx.rp] at hr
  obtain ⟨rfl, _, _⟩ := hr
  by_cases h : c.col = 0
  · have hb : (c.col == 0) = true := by simpa using h
    rw [decide_eq_true h]
    clear h
    go_enter Tryz.func85, Tryz.ntmps85
    go_wp2_with fail
    go_ret
    exact ⟨rfl, (Below.refl _ _).alloc (Nat.le_refl _) _⟩
  · have hb : (c.col == 0) = false := by simpa using h
    rw [decide_eq_false h]
    clear h
    go_enter Tryz.func85, Tryz.ntmps85
    go_wp2_with fail
    go_ret
    exact ⟨rfl, (Below.refl _ _).alloc (Nat.le_refl _) _⟩
theorem bclo2 (c : Ctx) (F : Nat → Prop) (W : World) (cs : List Value) (hr : Rp W F c.d cs) :
    Calls Tryz.prog 87 #[.agg cs.toArray] W fun e w' => e = .returned (.bool (decide (c.op = sLet))) ∧ Below W.heap.size W w' := by
  rw [Ctx.rp] at hr
  obtain ⟨rfl, _, _⟩ := hr
  by_cases h : c.op = sLet
  · have hb := str_yes h
    rw [decide_eq_true h]
    rw [sLet_l] at hb
    clear h
    go_enter Tryz.func87, Tryz.ntmps87
    go_wp2_with fail
    go_ret
    exact ⟨rfl, (Below.refl _ _).alloc (Nat.le_refl _) _⟩
  · have hb := str_no h
    rw [decide_eq_false h]
    rw [sLet_l] at hb
    clear h
    go_enter Tryz.func87, Tryz.ntmps87
    go_wp2_with fail
    go_ret
    exact ⟨rfl, (Below.refl _ _).alloc (Nat.le_refl _) _⟩
end Go.Proofs.YtcjoapmodaioiaaGreatDoor
end
