/- unify.Norm, walked. No conditions but a bound on the number of nodes. -/
import Derived.Test.YthchnabhbpdfgaaDoorBack
import Derived.Test.YthchnabhbpdfgaaDoorMKept
namespace Go.Proofs.YthchnabhbpdfgaaDoor
open Go.RowKit Go.Shelf Go.Sort Stab
attribute [local go_sem] Oper.semAt_some
def NormAt (t : Ty) : Prop := ∀ (W : World) (G : Nat → Prop) (av : Value), TyC W G t av → (∀ b, G b → b < W.heap.size) → t.Nok → nodes t ≤ 33554432 →
  Calls Tryd.prog 22 #[tyV t av] W (NormPost (normP t) W)
theorem infoTyN : (Tryd.prog.info? 24).map (fun i => (i.zero, i.size, i.bytes)) = some (some (.agg #[.int .i64 0, .string ⟨#[]⟩, .int .i64 0, .slice none 0 0]), 4, 56) := by kernel_rfl
/-- At the head of Norm's first loop: the rest of the row, the labels that were taken off it. -/
structure Lp (t : Ty) (W : World) (G : Nat → Prop) (b0 : Nat) (cur : Ty) (cv v3 : Value) (Q : List (Ty × Value)) (wr : World) : Prop where
  box : Blk wr b0 24 [.int .i64 cur.kind, .string cur.name, .int .i64 cur.var, cv]
  ty : TyC wr G cur cv
  own : wr.ownsRow (b0 + 2) 24 4 v3 Q.length ((Q.map pv4).flatMap V4.cells)
  each : ∀ p ∈ Q, TyC wr (fun b => (b0 + 2 ≤ b ∧ b < wr.heap.size) ∧ ¬ v3.ownBlock = some b) p.1 p.2
  res : Blk wr (b0 + 1) 24 [.int .i64 0, .string ⟨#[]⟩, .int .i64 0, .slice none 0 0]
  keeps : Keeps (fun i => b0 ≤ i) W wr
  row : ∃ L : List (ByteArray × Ty), Q.map Prod.fst = L.map labT ∧ rowP t = (L ++ (rowP cur).1, (rowP cur).2)
  nok : cur.Nok
  few : Q.length + nodes cur ≤ nodes t
section
variable {P : Program} {W0 w : World}
theorem step_append_kept2n {ops : Array Oper} {o : Oper} {a : Act} {K : Act → World → Prop} {Q : Exit → Act → World → Prop} {E : Prop} (hgd : o.guard = none) (s x : Operand) (t : TypeId)
    (ho : o.op = .call { callee := .builtin .append, args := #[s, x], argTypes := #[t, t] })
    (base : Nat) (e : TypeId) (i : TypeInfo) (z : Value) (size bytes : Nat) (ht : P.underlying t = some (.slice e)) (hi : P.info? e = some i) (hz : i.zero = some z)
    (hsize : i.size = size) (hby : i.bytes = bytes) (hzs : z.cells.size = size) (hsz : 0 < size)
    (v : Value) (n : Nat) (xs : List Value) (hs : a.eval s = v) (hown : W0.ownsRow base e size v n xs) (hk : Keeps (fun _ => False) W0 w)
    (g0 : Nat) (c : Nat) (news : Array Value) (hx : a.eval x = .slice (some ⟨g0, 0, none⟩) 1 c) (hl : news.size = size) (hnews : w.heap[g0]? = some (.cells news e (0, 0))) (h1 : ∀ u ∈ news.toList, u.oneCell' = true)
    (h63 : n + 1 ≤ maxLen) (hbytes : (n + 1) * bytes ≤ 140737488355328) (hbase : base ≤ W0.heap.size)
    (h : ∀ g cap w', w'.ownsRow base e size (.slice (some ⟨g, 0, none⟩) (n + 1) cap) (n + 1) (xs ++ news.toList) → Keeps (fun k => v.ownBlock = some k) W0 w' → (∀ k o, w.heap[k]? = some o → ¬ v.ownBlock = some k → w'.heap[k]? = some o) → (v.ownBlock = some g ∨ w.heap.size ≤ g) →
      K (a.put o.dst (.slice (some ⟨g, 0, none⟩) (n + 1) cap)) w') :
    if Region.wanted o (yielded ops a.tmps) = true then Oper.wp P o a w K Q else E := by
  have hw := own_keeps hown hk (fun _ _ h => h)
  refine step_append_lies _ hgd s x t ho base e i z size bytes ht hi hz hsize hby hzs hsz v n xs hs hw ⟨g0, 0, none⟩ 1 c news.toList hx (by rw [Array.length_toList, hl, Nat.one_mul]) (World.news_of_block (cs := news) (t := e) (fr := (0, 0)) hnews) h1 (by omega) h63 hbytes (Nat.le_trans hbase hk.size) _ rfl ?_
  intro g cap w' hown1 hgrow hat _
  exact h g cap w' hown1 ((hk.mono (fun _ _ h => h.elim)).grown hgrow (fun j hj _ => hj)) (fun k ob hko hne => (hgrow.block k (heap_lt hko) (fun e => hne e.symm)).trans hko) (hat.imp id fun e => by rw [e]; exact Nat.le_refl _)
end
theorem keeps_of_app {wq w6 wr : World} {o1 o2 : Obj} {v : Value} (hkq : Keeps (fun _ => False) wr wq) (hk1 : Keeps (fun k => v.ownBlock = some k) wr w6) (hv : ∀ k, v.ownBlock = some k → k < wr.heap.size)
    (hkp : ∀ k o, ((wq.alloc o1).alloc o2).heap[k]? = some o → ¬ v.ownBlock = some k → w6.heap[k]? = some o) : Keeps (fun k => v.ownBlock = some k) wq w6 := by
  have hn : ¬ v.ownBlock = some wq.heap.size := fun h => by have := hv _ h; have := hkq.size; omega
  refine ⟨hk1.os.trans hkq.os.symm, hk1.tape.trans hkq.tape.symm, hk1.output.trans hkq.output.symm, Nat.le_of_lt (heap_lt (hkp _ _ (heap_up (heap_new_at rfl) _) hn)), fun k hk hx => ?_⟩
  obtain ⟨o, ho⟩ : ∃ o, wq.heap[k]? = some o := ⟨_, Array.getElem?_eq_getElem hk⟩
  rw [ho]
  exact hkp k o (heap_up (heap_up ho _) _) hx
theorem size_le_of {w5 wq w6 : World} {X : Nat → Prop} (_ : Keeps X w5 w6) (h : Keeps (fun _ => False) w5 wq) : w5.heap.size ≤ wq.heap.size := h.size
theorem keeps_of_app2 {wq w6 w5 w : World} {v : Value} (hkq : Keeps (fun _ => False) w5 wq) (hk1 : Keeps (fun k => v.ownBlock = some k) w5 w6) (hv : ∀ k, v.ownBlock = some k → k < w5.heap.size)
    (hkp : ∀ k o, w.heap[k]? = some o → ¬ v.ownBlock = some k → w6.heap[k]? = some o) (hw : ∀ (k : Nat) (o : Obj), wq.heap[k]? = some o → w.heap[k]? = some o) : Keeps (fun k => v.ownBlock = some k) wq w6 := by
  have hs : wq.heap.size ≤ w6.heap.size := by
    rcases Nat.lt_or_ge w5.heap.size wq.heap.size with h | h
    · obtain ⟨o, ho⟩ : ∃ o, wq.heap[wq.heap.size - 1]? = some o := ⟨_, Array.getElem?_eq_getElem (by omega)⟩
      have := heap_lt (hkp _ o (hw _ o ho) (fun h' => by have := hv _ h'; omega))
      omega
    · exact Nat.le_trans h hk1.size
  refine ⟨hk1.os.trans hkq.os.symm, hk1.tape.trans hkq.tape.symm, hk1.output.trans hkq.output.symm, hs, fun k hk hx => ?_⟩
  obtain ⟨o, ho⟩ : ∃ o, wq.heap[k]? = some o := ⟨_, Array.getElem?_eq_getElem hk⟩
  rw [ho]
  exact hkp k o (hw k o ho) hx
/-- One more label. -/
theorem lp_next {t : Ty} {W : World} {G : Nat → Prop} {b0 : Nat} {cur a r : Ty} {cv vv : Value} {Q : List (Ty × Value)} {wr wq w6 w7 : World} {Ar Ar0 : Option Addr} {cr cr0 g1 cap1 : Nat} {news : Array Value}
    (hl : Lp t W G b0 cur cv vv Q wr) (hk : cur.kind = 5) (hargs : cur.args = [a, r]) (hG : ∀ b, G b → b < b0) (hTr0 : TyC wr G r (.slice Ar0 r.args.length cr0))
    (hkr : Keeps (fun i => b0 + 2 ≤ i) wr w6) (hk1 : Keeps (fun k => vv.ownBlock = some k) wr w6) (hown : w6.ownsRow (b0 + 2) 24 4 (.slice (some ⟨g1, 0, none⟩) (Q.length + 1) cap1) (Q.length + 1) ((Q.map pv4).flatMap V4.cells ++ news.toList))
    (hat : vv.ownBlock = some g1 ∨ wq.heap.size + 1 ≤ g1) (hkq : Keeps (fun _ => False) wr wq) (hTa : TyC wq (fun b => wr.heap.size ≤ b ∧ b < wq.heap.size) (normP a) (.slice Ar (normP a).args.length cr)) (hkq6 : Keeps (fun k => vv.ownBlock = some k) wq w6)
    (hbA : Blk w6 wq.heap.size 24 ((normP a).cells (.slice Ar (normP a).args.length cr))) (hB : Blk w7 b0 24 [.int .i64 r.kind, .string r.name, .int .i64 r.var, .slice Ar0 r.args.length cr0]) (hK : Keeps (· = b0) w6 w7)
    (hnews : news.toList = (lab cur.name (normP a)).cells (.slice (some ⟨wq.heap.size, 0, none⟩) 1 1)) :
    Lp t W G b0 r (.slice Ar0 r.args.length cr0) (.slice (some ⟨g1, 0, none⟩) (Q.length + 1) cap1) (Q ++ [(lab cur.name (normP a), .slice (some ⟨wq.heap.size, 0, none⟩) 1 1)]) w7 := by
  have hlow : ∀ i, vv.ownBlock = some i → b0 + 2 ≤ i ∧ i < wr.heap.size := fun i hi => hl.own.lt i hi
  have hg1 := hown.lt g1 rfl
  have hz7 := hK.size
  have hz6 := hkr.size
  have hzq := hkq.size
  have hz6q := hkq6.size
  have hAlt := hbA.lt
  have hb0 := hl.res.lt
  have hne : ∀ b, b < wr.heap.size → ¬ vv.ownBlock = some b → b ≠ g1 := fun b hb hn e => by
    subst e
    rcases hat with h | h
    · exact hn h
    · omega
  have hA1 : wq.heap.size ≠ g1 := fun e => by
    rcases hat with h | h
    · have := (hlow _ h).2; omega
    · omega
  refine ⟨hB, (hTr0.keeps hkr (fun i hi => by have := hG i hi; omega)).keeps hK (fun i hi e => by have := hG i hi; omega), ?_, fun p hp => ?_, (hl.res.keeps hkr (by omega)).keeps hK (by omega), ?_, ?_, hl.nok.arg (by rw [hargs]; simp), ?_⟩
  · have := own_keeps hown hK (fun i hi e => by have e2 : g1 = i := by simpa [Value.ownBlock] using hi
                                                omega)
    rw [List.length_append, List.map_append, List.flatMap_append]
    rw [hnews] at this
    exact this
  · rcases List.mem_append.1 hp with hp | hp
    · refine (((hl.each p hp).keeps hk1 (fun i hi => hi.2)).keeps hK (fun i hi e => by have := hi.1.1; omega)).mono (fun b hb => ⟨⟨hb.1.1, by have := hb.1.2; omega⟩, fun h => ?_⟩)
      exact hne b hb.1.2 hb.2 (by simpa [Value.ownBlock] using h.symm)
    · rw [List.mem_singleton] at hp
      subst hp
      have hT7 := (hTa.keeps hkq6 (fun i hi h => by have := (hlow i h).2; omega)).keeps hK (fun i hi e => by omega)
      have hA7 := hbA.keeps hK (show wq.heap.size ≠ b0 by omega)
      refine ⟨wf_small 0 (by decide) (by decide), hl.ty.name, wf_small 0 (by decide) (by decide), ?_⟩
      show Sl w7 _ tyD [normP a] _
      unfold Sl
      simp only [Rp]
      refine ⟨_, 1, rfl, Nat.le_refl _, by unfold maxLen; omega, (fun h => nomatch h), fun _ => ⟨wq.heap.size, 0, _, rfl, ⟨⟨by omega, by omega⟩, fun h => hA1 (by simpa [Value.ownBlock] using h.symm)⟩, ?_, fun j u hj => by rw [Nat.zero_add]; exact hA7.cell hj⟩⟩
      simp only [List.map_cons, List.map_nil]
      refine RpAll.one (tyD.rp.2 ⟨_, rfl, hT7.mono (fun b hb => ⟨⟨by omega, by omega⟩, fun h => ?_⟩)⟩)
      have e2 : g1 = b := by simpa [Value.ownBlock] using h
      rcases hat with h | h
      · have := (hlow _ h).2; omega
      · omega
  · exact (hl.keeps.trans hkr (fun i _ h => by omega)).trans hK (fun i _ e => by omega)
  · obtain ⟨L, h1, h2⟩ := hl.row
    refine ⟨L ++ [(cur.name, normP a)], by rw [List.map_append, List.map_append, h1]; rfl, ?_⟩
    rw [h2, rowP_ext hk hargs, List.append_assoc]; rfl
  · have := hl.few
    rw [nodes_eq cur, hargs] at this
    simp only [nodess] at this
    rw [List.length_append]
    simp only [List.length_cons, List.length_nil]
    omega
/-- Four stores into the last place of a row of the call's own. -/
theorem own_last {w : World} {base g n cap : Nat} {t : TypeId} {P : List V4} {z : V4} (y : V4) (h : w.ownsRow base t 4 (.slice (some ⟨g, 0, none⟩) (n + 1) cap) (n + 1) (P.flatMap V4.cells ++ z.cells)) (hP : P.length = n) :
    ((((w.setCell ⟨g, n * 4, none⟩ y.e0).setCell ⟨g, n * 4 + 1, none⟩ y.e1).setCell ⟨g, n * 4 + 2, none⟩ y.e2).setCell ⟨g, n * 4 + 3, none⟩ y.e3).ownsRow base t 4 (.slice (some ⟨g, 0, none⟩) (n + 1) cap) (n + 1) ((P ++ [y]).flatMap V4.cells) := by
  obtain ⟨h1, h2⟩ := h
  rcases h2 with ⟨h2, _⟩ | ⟨g', c, cur, e1, e2, e3, e4, e5, e6, e7⟩
  · simp at h2
  · simp only [Value.slice.injEq, Option.some.injEq, Addr.mk.injEq, true_and, and_true] at e1
    obtain ⟨rfl, rfl⟩ := e1
    have hb : Blk w g t cur.toList := by unfold Blk; rw [e3]
    have hb4 := (((hb.set_ (n * 4) y.e0).set_ (n * 4 + 1) y.e1).set_ (n * 4 + 2) y.e2).set_ (n * 4 + 3) y.e3
    refine ⟨by rw [flat4_len, List.length_append, hP]; rfl, .inr ⟨g, cap, _, rfl, e2, hb4, e4, e5, by simpa using e6, ?_⟩⟩
    rw [List.toList_toArray]
    have hz : P.flatMap V4.cells ++ z.cells = (P ++ [z]).flatMap V4.cells := by rw [List.flatMap_append, List.flatMap_cons, List.flatMap_nil, List.append_nil]
    rw [List.take_set, List.take_set, List.take_set, List.take_set, e7, hz, flat4_set _ n y (by rw [List.length_append, hP]; simp), List.set_append_right _ _ (by omega), hP, Nat.sub_self]
    rfl
theorem own_last_cell {w : World} {base g n cap : Nat} {t : TypeId} {P : List V4} {z : V4} (h : w.ownsRow base t 4 (.slice (some ⟨g, 0, none⟩) (n + 1) cap) (n + 1) (P.flatMap V4.cells ++ z.cells)) (hP : P.length = n) :
    (w.cell? ⟨g, n * 4, none⟩ = some z.e0 ∧ w.cell? ⟨g, n * 4 + 1, none⟩ = some z.e1 ∧ w.cell? ⟨g, n * 4 + 2, none⟩ = some z.e2 ∧ w.cell? ⟨g, n * 4 + 3, none⟩ = some z.e3) ∧ ∀ i, w.frozen? ⟨g, i, none⟩ = false := by
  obtain ⟨h1, h2⟩ := h
  rcases h2 with ⟨h2, _⟩ | ⟨g', c, cur, e1, e2, e3, e4, e5, e6, e7⟩
  · simp at h2
  · simp only [Value.slice.injEq, Option.some.injEq, Addr.mk.injEq, true_and, and_true] at e1
    obtain ⟨rfl, rfl⟩ := e1
    have hb : Blk w g t cur.toList := by unfold Blk; rw [e3]
    have hz : P.flatMap V4.cells ++ z.cells = (P ++ [z]).flatMap V4.cells := by rw [List.flatMap_append, List.flatMap_cons, List.flatMap_nil, List.append_nil]
    rw [hz] at e7
    have hg : ∀ j, j < 4 → cur.toList[n * 4 + j]? = some (z.cell j) := fun j hj => by
      have h3 := flat4_get (P ++ [z]) n z j (by rw [List.getElem?_append_right (by omega), hP, Nat.sub_self]; rfl) hj
      rw [← e7, List.getElem?_take_of_lt (by omega)] at h3
      exact h3
    exact ⟨⟨hb.cell (hg 0 (by omega)), hb.cell (hg 1 (by omega)), hb.cell (hg 2 (by omega)), hb.cell (hg 3 (by omega))⟩, fun i => hb.free i⟩
theorem own_slform {w : World} {base n size : Nat} {t : TypeId} {v : Value} {xs : List Value} (h : w.ownsRow base t size v n xs) : ∃ A c, v = .slice A n c := by
  rcases h.2 with ⟨rfl, rfl⟩ | ⟨g, c, cur, rfl, _⟩
  · exact ⟨_, _, rfl⟩
  · exact ⟨_, _, rfl⟩
def zV4 : V4 := ⟨.int .i64 0, .string ⟨#[]⟩, .int .i64 0, .slice none 0 0⟩
/-- At the head of Norm's second loop: the labels, the arguments so far. -/
structure Mp (t : Ty) (W : World) (G : Nat → Prop) (b0 : Nat) (cur : Ty) (cv vv : Value) (Q : List (Ty × Value)) (b4 : Nat) (ov : Value) (U : List (Ty × Value)) (wr : World) : Prop where
  out : Blk wr b4 24 [.int .i64 cur.kind, .string cur.name, .int .i64 cur.var, ov]
  ty : TyC wr G cur cv
  own : wr.ownsRow (b0 + 2) 24 4 vv Q.length ((Q.map pv4).flatMap V4.cells)
  low : ∀ i, vv.ownBlock = some i → i < b4
  each : ∀ p ∈ Q, TyC wr (fun b => (b0 + 2 ≤ b ∧ b < b4) ∧ ¬ vv.ownBlock = some b) p.1 p.2
  uown : wr.ownsRow (b4 + 1) 24 4 ov U.length ((U.map pv4).flatMap V4.cells)
  ueach : ∀ p ∈ U, TyC wr (fun b => (b4 + 1 ≤ b ∧ b < wr.heap.size) ∧ ¬ ov.ownBlock = some b) p.1 p.2
  res : Blk wr (b0 + 1) 24 [.int .i64 0, .string ⟨#[]⟩, .int .i64 0, .slice none 0 0]
  keeps : Keeps (fun i => b0 ≤ i) W wr
  bb : b0 + 2 ≤ b4
  few : U.length ≤ cur.args.length
  done_ : U.map Prod.fst = (cur.args.take U.length).map normP
/-- Behind the two stores of a round: the longer row, the box of the type that is made. -/
structure FinP (b4 g1 cap1 : Nat) (cur x : Ty) (U : List (Ty × Value)) (xv : Value) (w6 w7 : World) : Prop where
  own : w7.ownsRow (b4 + 1) 24 4 (.slice (some ⟨g1, 0, none⟩) (U.length + 1) cap1) (U.length + 1) ((U.map pv4 ++ [pv4 (normP x, xv)]).flatMap V4.cells)
  box : Blk w7 b4 24 [.int .i64 cur.kind, .string cur.name, .int .i64 cur.var, .slice (some ⟨g1, 0, none⟩) (U.length + 1) cap1]
  keeps : Keeps (fun i => i = g1 ∨ i = b4) w6 w7
theorem five_keeps {w6 : World} {b4 g1 : Nat} (p0 p1 p2 p3 p4 : Addr) (h0 : p0.block = g1 ∨ p0.block = b4) (h1 : p1.block = g1 ∨ p1.block = b4) (h2 : p2.block = g1 ∨ p2.block = b4) (h3 : p3.block = g1 ∨ p3.block = b4) (h4 : p4.block = g1 ∨ p4.block = b4) (u0 u1 u2 u3 u4 : Value) :
    Keeps (fun i => i = g1 ∨ i = b4) w6 (((((w6.setCell p0 u0).setCell p1 u1).setCell p2 u2).setCell p3 u3).setCell p4 u4) :=
  ((((((Keeps.refl _ w6).setCell (fun _ => h0) u0).setCell (fun _ => h1) u1).setCell (fun _ => h2) u2).setCell (fun _ => h3) u3).setCell (fun _ => h4) u4)
theorem fin_A {b4 g1 cap1 : Nat} {cur x : Ty} {U : List (Ty × Value)} {ov : Value} {A : Option Addr} {c : Nat} {w6 : World} (hown : w6.ownsRow (b4 + 1) 24 4 (.slice (some ⟨g1, 0, none⟩) (U.length + 1) cap1) (U.length + 1) ((U.map pv4).flatMap V4.cells ++ zV4.cells))
    (hb : Blk w6 b4 24 [.int .i64 cur.kind, .string cur.name, .int .i64 cur.var, ov]) (hne : g1 ≠ b4) :
    FinP b4 g1 cap1 cur x U (.slice A (normP x).args.length c) w6 (((((w6.setCell ⟨g1, U.length * 4, none⟩ (.int .i64 (normP x).kind)).setCell ⟨g1, U.length * 4 + 1, none⟩ (.string (normP x).name)).setCell ⟨g1, U.length * 4 + 2, none⟩ (.int .i64 (normP x).var)).setCell ⟨g1, U.length * 4 + 3, none⟩ (.slice A (normP x).args.length c)).setCell ⟨b4, 3, none⟩ (.slice (some ⟨g1, 0, none⟩) (U.length + 1) cap1)) := by
  have h1 := own_last (pv4 (normP x, .slice A (normP x).args.length c)) hown (List.length_map _)
  refine ⟨own_keeps h1 ((Keeps.refl (· = b4) _).setCell (p := ⟨b4, 3, none⟩) (fun _ => rfl) _) (fun i hi e => hne ((show g1 = i from by simpa [Value.ownBlock] using hi).trans e)), ?_, five_keeps ⟨g1, U.length * 4, none⟩ ⟨g1, U.length * 4 + 1, none⟩ ⟨g1, U.length * 4 + 2, none⟩ ⟨g1, U.length * 4 + 3, none⟩ ⟨b4, 3, none⟩ (.inl rfl) (.inl rfl) (.inl rfl) (.inl rfl) (.inr rfl) _ _ _ _ _⟩
  exact ((((hb.far (p := ⟨g1, U.length * 4, none⟩) (fun e => hne e.symm) _).far (p := ⟨g1, U.length * 4 + 1, none⟩) (fun e => hne e.symm) _).far (p := ⟨g1, U.length * 4 + 2, none⟩) (fun e => hne e.symm) _).far (p := ⟨g1, U.length * 4 + 3, none⟩) (fun e => hne e.symm) _).set_ 3 _
theorem fin_B {b4 g1 cap1 : Nat} {cur x : Ty} {U : List (Ty × Value)} {ov : Value} {A : Option Addr} {c : Nat} {w6 : World} (hown : w6.ownsRow (b4 + 1) 24 4 (.slice (some ⟨g1, 0, none⟩) (U.length + 1) cap1) (U.length + 1) ((U.map pv4).flatMap V4.cells ++ zV4.cells))
    (hb : Blk w6 b4 24 [.int .i64 cur.kind, .string cur.name, .int .i64 cur.var, ov]) (hne : g1 ≠ b4) :
    FinP b4 g1 cap1 cur x U (.slice A (normP x).args.length c) w6 (((((w6.setCell ⟨b4, 3, none⟩ (.slice (some ⟨g1, 0, none⟩) (U.length + 1) cap1)).setCell ⟨g1, U.length * 4, none⟩ (.int .i64 (normP x).kind)).setCell ⟨g1, U.length * 4 + 1, none⟩ (.string (normP x).name)).setCell ⟨g1, U.length * 4 + 2, none⟩ (.int .i64 (normP x).var)).setCell ⟨g1, U.length * 4 + 3, none⟩ (.slice A (normP x).args.length c)) := by
  have h0 := own_keeps hown ((Keeps.refl (· = b4) w6).setCell (p := ⟨b4, 3, none⟩) (fun _ => rfl) (.slice (some ⟨g1, 0, none⟩) (U.length + 1) cap1)) (fun i hi e => hne ((show g1 = i from by simpa [Value.ownBlock] using hi).trans e))
  refine ⟨own_last (pv4 (normP x, .slice A (normP x).args.length c)) h0 (List.length_map _), ?_, five_keeps ⟨b4, 3, none⟩ ⟨g1, U.length * 4, none⟩ ⟨g1, U.length * 4 + 1, none⟩ ⟨g1, U.length * 4 + 2, none⟩ ⟨g1, U.length * 4 + 3, none⟩ (.inr rfl) (.inl rfl) (.inl rfl) (.inl rfl) (.inl rfl) _ _ _ _ _⟩
  exact ((((hb.set_ 3 _).far (p := ⟨g1, U.length * 4, none⟩) (fun e => hne e.symm) _).far (p := ⟨g1, U.length * 4 + 1, none⟩) (fun e => hne e.symm) _).far (p := ⟨g1, U.length * 4 + 2, none⟩) (fun e => hne e.symm) _).far (p := ⟨g1, U.length * 4 + 3, none⟩) (fun e => hne e.symm) _
/-- One more argument. -/
theorem mp_next {t : Ty} {W : World} {G : Nat → Prop} {b0 b4 g1 cap1 co : Nat} {cur x : Ty} {cv vv : Value} {Ao Ar : Option Addr} {cr : Nat} {Q U : List (Ty × Value)} {wx w5 wq w6 w7 : World}
    (hm : Mp t W G b0 cur cv vv Q b4 (.slice Ao U.length co) U wx) (hG : ∀ b, G b → b < b0) (hlt : U.length < cur.args.length) (hx : cur.args[U.length] = x) (hk5 : Keeps (fun _ => False) wx w5) (hz5 : w5.heap.size = wx.heap.size + 1)
    (hk1 : Keeps (fun k => (Value.slice Ao U.length co).ownBlock = some k) w5 w6) (hkq : Keeps (fun _ => False) w5 wq) (hTr : TyC wq (fun b => w5.heap.size ≤ b ∧ b < wq.heap.size) (normP x) (.slice Ar (normP x).args.length cr))
    (hkq6 : Keeps (fun k => (Value.slice Ao U.length co).ownBlock = some k) wq w6) (hat : (Value.slice Ao U.length co).ownBlock = some g1 ∨ wq.heap.size ≤ g1) (hf : FinP b4 g1 cap1 cur x U (.slice Ar (normP x).args.length cr) w6 w7) :
    Mp t W G b0 cur cv vv Q b4 (.slice (some ⟨g1, 0, none⟩) (U.length + 1) cap1) (U ++ [(normP x, .slice Ar (normP x).args.length cr)]) w7 := by
  have hul : ∀ i, (Value.slice Ao U.length co).ownBlock = some i → b4 + 1 ≤ i ∧ i < wx.heap.size := fun i hi => hm.uown.lt i hi
  have hbl := hm.out.lt
  have hg1 : b4 + 1 ≤ g1 := (hf.own.lt g1 rfl).1
  have hzq := hkq.size
  have hz6 := hkq6.size
  have hz7 := hf.keeps.size
  have hK6 : Keeps (fun i => b4 + 1 ≤ i) wx w6 := (hk5.mono (fun _ _ h => h.elim)).trans hk1 (fun i _ h => (hul i h).1)
  have hK7 : Keeps (fun i => b4 ≤ i) wx w7 := (hK6.mono (fun i _ h => by omega)).trans hf.keeps (fun i _ h => by rcases h with h | h <;> omega)
  refine ⟨hf.box, hm.ty.keeps hK7 (fun i hi => by have := hG i hi; have := hm.bb; omega), own_keeps hm.own hK7 (fun i hi h => by have := hm.low i hi; omega), hm.low, fun p hp => (hm.each p hp).keeps hK7 (fun i hi h => by have := hi.1.2; omega), ?_, fun p hp => ?_,
    hm.res.keeps hK7 (by have := hm.bb; omega), hm.keeps.trans hK7 (fun i _ h => by have := hm.bb; omega), hm.bb, ?_, ?_⟩
  · have := hf.own
    rw [List.length_append, List.map_append]
    exact this
  · rcases List.mem_append.1 hp with hp | hp
    · refine ((((hm.ueach p hp).keeps hk5 (fun _ _ h => h)).keeps hk1 (fun i hi => hi.2)).mono (G := fun b => ((b4 + 1 ≤ b ∧ b < w7.heap.size) ∧ ¬ (Value.slice (some ⟨g1, 0, none⟩) (U.length + 1) cap1).ownBlock = some b)) (fun b hb => ⟨⟨hb.1.1, by have := hb.1.2; omega⟩, fun h => ?_⟩)).keeps hf.keeps (fun i hi h => ?_)
      · have e2 : g1 = b := by simpa [Value.ownBlock] using h
        subst e2
        rcases hat with h | h
        · exact hb.2 h
        · have := hb.1.2; omega
      · rcases h with h | h
        · exact hi.2 (by simp [Value.ownBlock, h])
        · have := hi.1.1; omega
    · rw [List.mem_singleton] at hp
      subst hp
      refine ((hTr.keeps hkq6 (fun i hi h => by have := (hul i h).2; omega)).mono (G := fun b => ((b4 + 1 ≤ b ∧ b < w7.heap.size) ∧ ¬ (Value.slice (some ⟨g1, 0, none⟩) (U.length + 1) cap1).ownBlock = some b)) (fun b hb => ⟨⟨by omega, by omega⟩, fun h => ?_⟩)).keeps hf.keeps (fun i hi h => ?_)
      · have e2 : g1 = b := by simpa [Value.ownBlock] using h
        subst e2
        rcases hat with h | h
        · have := (hul _ h).2; omega
        · omega
      · rcases h with h | h
        · exact hi.2 (by simp [Value.ownBlock, h])
        · have := hi.1.1; omega
  · rw [List.length_append]; simp only [List.length_cons, List.length_nil]; omega
  · rw [List.length_append, List.map_append, hm.done_]
    simp only [List.length_cons, List.length_nil, Nat.zero_add, List.map_cons, List.map_nil]
    rw [List.take_succ_eq_append_getElem hlt, List.map_append, hx]; rfl
def endT (cur : Ty) : Ty := .mk cur.kind cur.name cur.var (cur.args.map normP)
/-- Behind the sorting of the labels. -/
structure Sp (W : World) (b0 : Nat) (cur : Ty) (b4 : Nat) (ov : Value) (Av : Option Addr) (L : List (ByteArray × Ty)) (gv : Nat) (Q2 : List (Ty × Value)) (wc : World) : Prop where
  out : Blk wc b4 24 [.int .i64 cur.kind, .string cur.name, .int .i64 cur.var, ov]
  ety : TyC wc (fun b => b4 + 1 ≤ b ∧ b < wc.heap.size) (endT cur) ov
  res : Blk wc (b0 + 1) 24 [.int .i64 0, .string ⟨#[]⟩, .int .i64 0, .slice none 0 0]
  keeps : Keeps (fun i => b0 ≤ i) W wc
  bb : b0 + 2 ≤ b4
  adr : 0 < Q2.length → Av = some ⟨gv, 0, none⟩
  low : 0 < Q2.length → gv < b4
  cells : ∀ (k : Nat) (p : Ty × Value), Q2[k]? = some p → ∀ j, j < 4 → wc.cell? ⟨gv, k * 4 + j, none⟩ = some ((pv4 p).cell j)
  each : ∀ p ∈ Q2, TyC wc (fun b => b0 + 2 ≤ b ∧ b < b4) p.1 p.2
  row : Q2.map Prod.fst = (isort ltL L).map labT
theorem ety_of {t : Ty} {W : World} {G : Nat → Prop} {b0 b4 : Nat} {cur : Ty} {cv vv ov : Value} {Q U : List (Ty × Value)} {wx wc : World} {X : Nat → Prop} (hm : Mp t W G b0 cur cv vv Q b4 ov U wx) (hu : U.length = cur.args.length) (hk : Keeps X wx wc) (hX : ∀ i, X i → i < b4) :
    TyC wc (fun b => b4 + 1 ≤ b ∧ b < wc.heap.size) (endT cur) ov := by
  have hd := hm.done_
  rw [hu, List.take_of_length_le (Nat.le_refl _)] at hd
  have hz := hk.size
  have hul := hm.uown.lt
  refine ⟨hm.ty.kind, hm.ty.name, hm.ty.var, ?_⟩
  show Sl wc _ tyD (cur.args.map normP) ov
  rw [← hd]
  have h1 := Sl.of_own (f := tyD) (l := U.map Prod.fst) (F := fun b => (b4 + 1 ≤ b ∧ b < wx.heap.size) ∧ ¬ ov.ownBlock = some b) (G := fun b => b4 + 1 ≤ b ∧ b < wx.heap.size) hm.uown (List.length_map _).symm (prs_rp hm.ueach) (fun b hb => hb.1) (fun b hb => by have := hul b hb; omega)
  exact (h1.keeps hk (fun i hi h => by have := hX i h; omega)).mono (fun b hb => by omega)
theorem sp_nil {t : Ty} {W : World} {G : Nat → Prop} {b0 b4 : Nat} {cur : Ty} {cv vv ov : Value} {Q U : List (Ty × Value)} {wx : World} {Av : Option Addr} {L : List (ByteArray × Ty)} (hm : Mp t W G b0 cur cv vv Q b4 ov U wx) (hu : U.length = cur.args.length) (hQ : Q = []) (hL : Q.map Prod.fst = L.map labT) :
    Sp W b0 cur b4 ov Av L 0 [] wx := by
  refine ⟨hm.out, ety_of hm hu (Keeps.refl (fun _ => False) _) (fun _ h => h.elim), hm.res, hm.keeps, hm.bb, fun h => (by simp at h), fun h => (by simp at h), fun k p h => (by simp at h), fun p hp => (by cases hp), ?_⟩
  subst hQ
  cases L with
  | nil => rfl
  | cons x l => simp at hL
theorem sp_sorted {t : Ty} {W : World} {G : Nat → Prop} {b0 b4 g cap : Nat} {cur : Ty} {cv ov : Value} {Q U : List (Ty × Value)} {wx w1 : World} {L : List (ByteArray × Ty)} {tl : List Value} {d2 : Array V4} (hm : Mp t W G b0 cur cv (.slice (some ⟨g, 0, none⟩) Q.length cap) Q b4 ov U wx) (hu : U.length = cur.args.length) (hL : Q.map Prod.fst = L.map labT)
    (hr : Row FmTy wx w1 g 24 tl d2) (hs : d2.toList = (isort (fun p q => ltOf cfTy (pv4 p) (pv4 q)) Q).map pv4) :
    Sp W b0 cur b4 ov (some ⟨g, 0, none⟩) L g (isort (fun p q => ltOf cfTy (pv4 p) (pv4 q)) Q) w1 := by
  have hgb : g < b4 := hm.low g rfl
  have hg0 : b0 + 2 ≤ g := (hm.own.lt g rfl).1
  have hbb := hm.bb
  refine ⟨hm.out.keeps hr.keeps (by omega), ety_of hm hu hr.keeps (fun i h => by omega), hm.res.keeps hr.keeps (by omega), hm.keeps.trans hr.keeps (fun i _ h => by omega), hm.bb, fun _ => rfl, fun _ => hgb, fun k p hp j hj => ?_, fun p hp => ?_, sorted_pairs hL⟩
  · have h2 : d2.toList[k]? = some (pv4 p) := by rw [hs, List.getElem?_map, hp]; rfl
    have hk : k < d2.size := by have := (List.getElem?_eq_some_iff.1 h2).1; simpa using this
    rw [Stab.list_at hk] at h2
    obtain ⟨h0, h1, h2', h3⟩ := hr.at_ hk (Option.some.inj h2) (off := 0) rfl
    rw [Nat.zero_add] at h0 h1 h2' h3
    match j, hj with
    | 0, _ => exact h0
    | 1, _ => exact h1
    | 2, _ => exact h2'
    | 3, _ => exact h3
  · have := hm.each p ((mem_isort _).1 hp)
    exact (this.keeps hr.keeps (fun i hi h => hi.2 (by simp [Value.ownBlock, h]))).mono (fun b hb => hb.1)
/-- The end with the labels that have come ahead of it. -/
def lk (L2 : List (ByteArray × Ty)) (k : Nat) : ByteArray × Ty := L2[k]?.getD (⟨#[]⟩, .mk 0 ⟨#[]⟩ 0 [])
def outOf (L2 : List (ByteArray × Ty)) (e0 : Ty) {n : Nat} (pre : List { i : Nat // i < n }) : Ty := pre.foldl (fun out x => extT (lk L2 x.1).1 (lk L2 x.1).2 out) e0
theorem tyc_grown {W W' : World} {F : Nat → Prop} {t : Ty} {av : Value} {row : Option Nat} (h : TyC W F t av) (hg : W.grownBy W' row) (hr : ∀ r, row = some r → ∃ o : Obj, W.heap[r]? = some o ∧ o.isCells = false) : TyC W' F t av :=
  ⟨h.kind, h.name, h.var, Rp.frame (fun _ h => h) (fun _ _ _ _ hc => cell_kept hc hg hr) _ _ h.args⟩
/-- At the return. -/
theorem norm_last {W wc w2 W1 w7 : World} {b0 b4 D : Nat} {r : Ty} {A : Option Addr} {c : Nat} (k1 : Keeps (fun i => b0 ≤ i) W wc) (k2 : Keeps (fun _ => False) wc w2) (k3 : Keeps (fun i => i = b4 ∨ w2.heap.size ≤ i) w2 W1) (k4 : Keeps (· = b0 + 1) W1 w7)
    (hb : Blk w7 (b0 + 1) 24 [.int .i64 r.kind, .string r.name, .int .i64 r.var, .slice A r.args.length c]) (hD : w7.heap[D]? = some (.deferred (some []))) (hT : TyC w7 (fun b => (b0 + 2 ≤ b ∧ b ≠ b4) ∧ b < W1.heap.size) r (.slice A r.args.length c)) (h4 : b0 + 2 ≤ b4) (hD0 : b0 + 2 ≤ D) (hW : W.heap.size = b0) (hw2 : b0 ≤ w2.heap.size) :
    Blk (w7.putObj D (.deferred none)) (b0 + 1) 24 [.int .i64 r.kind, .string r.name, .int .i64 r.var, .slice A r.args.length c] ∧
      NormPost r W (.returned (.agg #[.int .i64 r.kind, .string r.name, .int .i64 r.var, .slice A r.args.length c])) (w7.putObj D (.deferred none)) := by
  have hg := grownBy_putObj' w7 D (.deferred none)
  have hr : ∀ r, some D = some r → ∃ o : Obj, w7.heap[r]? = some o ∧ o.isCells = false := fun r e => by cases e; exact ⟨_, hD, rfl⟩
  have hz := hg.size
  have hz4 := k4.size
  refine ⟨(hg.block _ hb.lt (fun e => by simp at e; omega)).trans hb, A, c, rfl, (tyc_grown hT hg hr).mono (fun b hb => ⟨by have := hb.1.1; omega, by have := hb.2; omega⟩), ?_⟩
  have h1 := ((k1.trans k2 (fun _ _ h => h.elim)).trans k3 (fun i _ h => by rcases h with h | h <;> omega)).trans k4 (fun i _ h => by omega)
  exact (h1.grown hg (fun i e _ => by simp at e; omega)).mono (fun i hi h => by omega)
/-- Between two rounds. -/
structure Ip (b0 b4 N0 : Nat) (L2 : List (ByteArray × Ty)) (e0 : Ty) {n : Nat} (w2 : World) (pre : List { i : Nat // i < n }) (W : World) : Prop where
  out : ∃ ov, Blk W b4 24 [.int .i64 (outOf L2 e0 pre).kind, .string (outOf L2 e0 pre).name, .int .i64 (outOf L2 e0 pre).var, ov] ∧ TyC W (fun b => (b0 + 2 ≤ b ∧ b ≠ b4) ∧ b < W.heap.size) (outOf L2 e0 pre) ov
  keeps : Keeps (fun i => i = b4 ∨ N0 ≤ i) w2 W
theorem ip_own {b0 b4 N0 : Nat} {L2 : List (ByteArray × Ty)} {e0 : Ty} {n : Nat} {w2 : World} (hb : b4 < N0) : OwnFrom N0 (fun (pre : List { i : Nat // i < n }) W => Ip b0 b4 N0 L2 e0 w2 pre W) := by
  intro pre W W' row h hg hr
  obtain ⟨⟨ov, h1, h2⟩, h3⟩ := h
  have hz := hg.size
  refine ⟨⟨ov, (hg.block b4 h1.lt (fun e => by have := (hr b4 e.symm).1; omega)).trans h1, (tyc_grown h2 hg (fun r e => (hr r e).2)).mono (fun b hb => ⟨hb.1, by have := hb.2; omega⟩)⟩, h3.grown hg (fun i e _ => .inr (hr i e).1)⟩
theorem lk_of {Q2 : List (Ty × Value)} {L2 : List (ByteArray × Ty)} (h : Q2.map Prod.fst = L2.map labT) {k : Nat} {p : Ty × Value} (hp : Q2[k]? = some p) : p.1 = labT (lk L2 k) := by
  have h1 : (Q2.map Prod.fst)[k]? = some p.1 := by rw [List.getElem?_map, hp]; rfl
  rw [h, List.getElem?_map] at h1
  unfold lk
  cases hl : L2[k]? with
  | none => rw [hl] at h1; cases h1
  | some y => rw [hl] at h1; exact (Option.some.inj h1).symm
set_option maxRecDepth 100000 in
set_option maxHeartbeats 16000000 in
theorem norm_step (t : Ty) (ih : ∀ a : Ty, nodes a < nodes t → NormAt a) : NormAt t := by
  intro W G av hT hG hok hN
  obtain ⟨i0, hi0, hz0, hz1, hz2⟩ := info_parts infoTyN
  obtain ⟨A0, c0, rfl, _⟩ := hT.form
  have HIH := Lib.hid ih
  have HT := Lib.hid hT
  have HG := Lib.hid hG
  have HOK := Lib.hid hok
  have HN := Lib.hid hN
  clear ih hT hG hok hN
  unfold tyV
  refine (callsIn_wide (n := 4)).1 ?_
  refine callsIn_of_wp_marks Tryd.func22 rfl trivial ?_ rfl
  refine wpIn_wide.2 ?_
  simp only [Tryd.ntmps22, List.size_toArray, List.length_cons, List.length_nil, Nat.reduceAdd, Nat.reduceSub, Array.replicate_succ, Array.replicate_zero, List.push_toArray, List.append_toArray, List.nil_append, List.cons_append]
  go_wp2
  obtain ⟨b0, hb0⟩ : ∃ b0, W.heap.size = b0 := ⟨_, rfl⟩
  obtain ⟨W0, hW0⟩ : ∃ W0, (W.alloc (.cells #[.int .i64 t.kind, .string t.name, .int .i64 t.var, .slice A0 t.args.length c0] 24)).alloc (.cells #[.int .i64 0, .string ⟨#[]⟩, .int .i64 0, .slice none 0 0] 24) = W0 := ⟨_, rfl⟩
  have hk0 : Keeps (fun _ => False) W W0 := by rw [← hW0]; exact ((Keeps.refl _ _).alloc _).alloc _
  have hx := (Blk.new W 24 [.int .i64 t.kind, .string t.name, .int .i64 t.var, .slice A0 t.args.length c0]).alloc (.cells #[.int .i64 0, .string ⟨#[]⟩, .int .i64 0, .slice none 0 0] 24)
  have hy := Blk.new (W.alloc (.cells #[.int .i64 t.kind, .string t.name, .int .i64 t.var, .slice A0 t.args.length c0] 24)) 24 [.int .i64 0, .string ⟨#[]⟩, .int .i64 0, .slice none 0 0]
  rw [hW0] at hx hy ⊢
  rw [World.size_alloc] at hy
  simp only [hb0] at hx hy ⊢
  have hz0' : W0.heap.size = b0 + 2 := by rw [← hW0, ← hb0]; simp
  have HL0 : Hid (Lp t W G b0 t (.slice A0 t.args.length c0) (.slice none 0 0) [] W0) :=
    ⟨hx, HT.out.keeps hk0 (fun _ _ h => h), World.ownsRow_nil _ _ _ _, (fun p hp => by cases hp), hy, hk0.mono (fun _ _ h => h.elim), ⟨[], rfl, rfl⟩, HOK.out, by simp⟩
  have HB0 := Lib.hid hb0
  clear hk0 hx hy hW0 hb0 hz0'
  go_loopg [3] (nodes t) (fun q v3 wr => ∃ (cur : Ty) (cv vv : Value) (Q : List (Ty × Value)), vv = v3 ∧ nodes cur ≤ q ∧ Lp t W G b0 cur cv vv Q wr)
  case atStart => exact ⟨t, _, _, [], rfl, Nat.le_refl _, HL0.out⟩
  case round =>
    clear HL0
    obtain ⟨cur, cv, vv, Q, rfl, hq, hl⟩ := hrel
    obtain ⟨A3, c3, rfl, _, _, _⟩ := hl.ty.form
    have d0 := hl.box.cell (i := 0) rfl
    have d1 := hl.box.cell (i := 1) rfl
    have d2 := hl.box.cell (i := 2) rfl
    have d3 := hl.box.cell (i := 3) rfl
    have hlt0 := hl.box.lt
    have hlt1 := hl.res.lt
    have hGw : ∀ b, G b → b < b0 := fun b hb => by have := HG.out b hb; have := HB0.out; omega
    have HGW := Lib.hid hGw
    have HLp := Lib.hid hl
    by_cases hk : cur.kind = 5
    · obtain ⟨a, r, hargs⟩ := hl.nok.two hk
      have hla : cur.args.length = 2 := by rw [hargs]; rfl
      have hna : nodes a < nodes cur := by
        rw [nodes_eq cur, hargs]
        simp only [nodess]; omega
      have hnr : nodes r < nodes cur := by
        rw [nodes_eq cur, hargs]
        simp only [nodess]; omega
      have hnn : nodes a + nodes r < nodes cur := by
        rw [nodes_eq cur, hargs]
        simp only [nodess]; omega
      obtain ⟨ga, offa, va, hadr, hga, a0, a1, a2, a3, hTa⟩ := tyD.get hl.ty.args (i := 0) (by omega)
      obtain ⟨gr, offr, vr, hadr', hgr, r0, r1, r2, r3, hTr0⟩ := tyD.get hl.ty.args (i := 1) (by omega)
      obtain rfl := hadr
      simp only [Option.some.injEq, Addr.mk.injEq, and_true] at hadr'
      obtain ⟨rfl, rfl⟩ := hadr'
      have ea : cur.args[0]'(by omega) = a := by simp [hargs]
      have er : cur.args[1]'(by omega) = r := by simp [hargs]
      rw [ea] at a0 a1 a2 hTa
      rw [er] at r0 r1 r2 hTr0
      rw [Nat.zero_mul, Nat.add_zero] at a0 a1 a2 a3
      rw [Nat.one_mul] at r0 r1 r2 r3
      obtain ⟨Aa, ca, rfl, _⟩ := hTa.form
      obtain ⟨Ar0, cr0, rfl, _⟩ := hTr0.form
      have hkb : (cur.kind == 5) = true := by rw [hk]; rfl
      have hga2 : ¬ b0 + 2 ≤ ga := by have := HGW.out ga hga; omega
      have hb02 : ¬ b0 + 2 ≤ b0 := by omega
      have hQ : Hid (∀ X, Keeps (fun i => b0 + 2 ≤ i) wr X → (X.cell? ⟨b0, 1, none⟩ = some (.string cur.name) ∧ X.cell? ⟨b0, 3, none⟩ = some (.slice (some ⟨ga, offa, none⟩) cur.args.length c3) ∧ X.cell? ⟨ga, offa, none⟩ = some (.int .i64 a.kind) ∧ X.cell? ⟨ga, offa + 1, none⟩ = some (.string a.name) ∧ X.cell? ⟨ga, offa + 2, none⟩ = some (.int .i64 a.var) ∧ X.cell? ⟨ga, offa + 3, none⟩ = some (.slice Aa a.args.length ca))) := fun X hb =>
        ⟨hb.cell d1 hb02, hb.cell d3 hb02, hb.cell a0 hga2, hb.cell a1 hga2, hb.cell a2 hga2, hb.cell a3 hga2⟩
      have HLow : Hid (∀ i, vv.ownBlock = some i → b0 + 2 ≤ i) := fun i hi => (hl.own.lt i hi).1
      have HNa : Hid (∀ X, Keeps (fun _ => False) wr X → Calls Tryd.prog 22 #[.agg #[.int .i64 a.kind, .string a.name, .int .i64 a.var, .slice Aa a.args.length ca]] X
          (fun e w' => ∃ A c, e = .returned (.agg #[.int .i64 (normP a).kind, .string (normP a).name, .int .i64 (normP a).var, .slice A (normP a).args.length c]) ∧ TyC w' (fun b => wr.heap.size ≤ b ∧ b < w'.heap.size) (normP a) (.slice A (normP a).args.length c) ∧ Keeps (fun _ => False) wr w')) := fun X hk =>
        (HIH.out a (by have := hl.few; omega) X G _ (hTa.keeps hk (fun _ _ h => h)) (fun b hb => by have := HGW.out b hb; have := hk.size; omega) (hl.nok.arg (by rw [hargs]; simp)) (by have := HN.out; have := hl.few; omega)).mono
          fun e w' ⟨A, c, he, hT, hkk⟩ => ⟨A, c, he, hT.mono (fun b hb => ⟨Nat.le_trans hk.size hb.1, hb.2⟩), hk.trans hkk (fun _ _ h => h)⟩
      have hfewN := hl.few
      have HOwn := Lib.hid hl.own
      have HMq : Hid (Q.length + 1 ≤ maxLen) := by show _ ≤ _; have := HN.out; have := nodes_eq cur; unfold maxLen; omega
      have HBq : Hid ((Q.length + 1) * 56 ≤ 140737488355328) := by show _ ≤ _; have := HN.out; have := nodes_eq cur; omega
      have HBZ : Hid (b0 + 2 ≤ wr.heap.size) := by show _ ≤ _; omega
      have HK := Lib.hid hk
      have HARGS := Lib.hid hargs
      have HTR := Lib.hid hTr0
      have hla2 : (1 : Int) < (cur.args.length : Int) := by omega
      have hla1 : (0 : Int) < (cur.args.length : Int) := by omega
      have HLA := Lib.hid hla
      have hla0 : 0 < cur.args.length := by omega
      have hla01 : 1 < cur.args.length := by omega
      clear hk hargs hTa hTr0 ea er a0 a1 a2 a3 hla hl hna hfewN
      go_wp2_with fail
      refine wp_region_noPanic ?_
      refine wp_region_till [] (fun X => X.cell? ⟨b0, 1, none⟩ = some (.string cur.name) ∧ X.cell? ⟨b0, 3, none⟩ = some (.slice (some ⟨ga, offa, none⟩) cur.args.length c3) ∧ X.cell? ⟨ga, offa, none⟩ = some (.int .i64 a.kind) ∧ X.cell? ⟨ga, offa + 1, none⟩ = some (.string a.name) ∧ X.cell? ⟨ga, offa + 2, none⟩ = some (.int .i64 a.var) ∧ X.cell? ⟨ga, offa + 3, none⟩ = some (.slice Aa a.args.length ca)) (by kernel_rfl) ?_ (fun hE => ?_)
      · first | exact hQ.out _ (Keeps.mono hk1 (fun i _ h => HLow.out i h)) | exact hQ.out _ (Keeps.mono (show Keeps (fun _ => False) wr _ from (by repeat (first | (with_reducible assumption) | (with_reducible exact Keeps.refl _ _) | (with_reducible refine Keeps.drewN ?_ _) | (with_reducible refine Keeps.drew ?_) | with_reducible refine Keeps.setCell ?_ (by first | (intro _; exact rfl) | (intro _; exact Or.inl rfl) | (intro _; exact Or.inr rfl) | (simp; done) | (simp; omega)) _ | (with_reducible refine Keeps.alloc ?_ _)))) (fun _ _ h => h.elim))
      have hS := hE (by kernel_rfl)
      refine wpAnyT_pure (i := 0) (oi := { dst := some 16, op := Op.move (Operand.tmp 3), type := 22, pos := "unify.go:325", after := #[], guard := none }) (v := ?v4_0_1) rfl (by kernel_rfl) (fun _ _ _ h => h) (Or.inl ⟨by rfl, ?y4_0_1⟩) (fun _ => hS) ?_
      case y4_0_1 => (intro w hSw; go_simp; try with_reducible rfl)
      try simp only [Act.put, List.setIfInBounds_toArray, List.set_cons_zero, List.set_cons_succ]
      refine wpAnyT_pure (i := 1) (oi := { dst := some 17, op := Op.fieldAddr 24 (Operand.tmp 1) 1, type := 0, pos := "unify.go:325", after := #[], guard := none }) (v := ?v4_1_2) rfl (by kernel_rfl) (fun _ _ _ h => h) (Or.inl ⟨by rfl, ?y4_1_2⟩) (fun _ => hS) ?_
      case y4_1_2 => (intro w hSw; go_simp; try with_reducible rfl)
      try simp only [Act.put, List.setIfInBounds_toArray, List.set_cons_zero, List.set_cons_succ]
      refine wpAnyT_take (i := 2) (oi := { dst := some 18, op := Op.load 9 (Operand.tmp 17), type := 9, pos := "unify.go:325", after := #[{ on := 1, ground := Ground.data }], guard := none }) (v := ?v4_2_3) rfl (by kernel_rfl) (fun _ _ _ h => h) (Or.inl ⟨by rfl, ?y4_2_3⟩) hS ?_
      case y4_2_3 => (intro w hSw; (try dsimp only at hSw); go_simp; try with_reducible rfl)
      try simp only [Act.put, List.setIfInBounds_toArray, List.set_cons_zero, List.set_cons_succ]
      refine wpAnyT_pure (i := 3) (oi := { dst := some 19, op := Op.fieldAddr 24 (Operand.tmp 1) 3, type := 0, pos := "unify.go:325", after := #[], guard := none }) (v := ?v4_3_4) rfl (by kernel_rfl) (fun _ _ _ h => h) (Or.inl ⟨by rfl, ?y4_3_4⟩) (fun _ => hS) ?_
      case y4_3_4 => (intro w hSw; go_simp; try with_reducible rfl)
      try simp only [Act.put, List.setIfInBounds_toArray, List.set_cons_zero, List.set_cons_succ]
      refine wpAnyT_take (i := 4) (oi := { dst := some 20, op := Op.load 22 (Operand.tmp 19), type := 22, pos := "unify.go:325", after := #[{ on := 3, ground := Ground.data }], guard := none }) (v := ?v4_4_5) rfl (by kernel_rfl) (fun _ _ _ h => h) (Or.inl ⟨by rfl, ?y4_4_5⟩) hS ?_
      case y4_4_5 => (intro w hSw; (try dsimp only at hSw); go_simp; try with_reducible rfl)
      try simp only [Act.put, List.setIfInBounds_toArray, List.set_cons_zero, List.set_cons_succ]
      refine wpAnyT_pure (i := 5) (oi := { dst := some 21, op := Op.indexAddr 22 (Operand.tmp 20) (Operand.const (Value.int IntKind.i64 0)), type := 0, pos := "unify.go:325", after := #[{ on := 4, ground := Ground.data }], guard := none }) (v := ?v4_5_6) rfl (by kernel_rfl) (fun _ _ _ h => h) (Or.inl ⟨by rfl, ?y4_5_6⟩) (fun _ => hS) ?_
      case y4_5_6 => (intro w hSw; go_simp; try with_reducible rfl)
      try simp only [Act.put, List.setIfInBounds_toArray, List.set_cons_zero, List.set_cons_succ]
      refine wpAnyT_take (i := 6) (oi := { dst := some 22, op := Op.load 24 (Operand.tmp 21), type := 24, pos := "unify.go:325", after := #[{ on := 5, ground := Ground.data }], guard := none }) (v := ?v4_6_7) rfl (by kernel_rfl) (fun _ _ _ h => h) (Or.inl ⟨by rfl, ?y4_6_7⟩) hS ?_
      case y4_6_7 => (intro w hSw; (try dsimp only at hSw); go_simp; try with_reducible rfl)
      try simp only [Act.put, List.setIfInBounds_toArray, List.set_cons_zero, List.set_cons_succ]
      refine wpAnyT_ready (rs := [7]) (by kernel_rfl) rfl ?_
      refine AllT.cons (o := { dst := some 23, op := Op.call { callee := Callee.value (Operand.func 22), args := #[Operand.tmp 22], argTypes := #[24] }, type := 24, pos := "unify.go:325", after := #[{ on := 6, ground := Ground.data }], guard := none }) rfl (fun K hK => ?_) ?_
      · (go_simp; go_at_call 22; with_reducible refine (HNa.out _ (by repeat (first | (with_reducible assumption) | (with_reducible exact Keeps.refl _ _) | (with_reducible refine Keeps.drewN ?_ _) | (with_reducible refine Keeps.drew ?_) | with_reducible refine Keeps.setCell ?_ (by first | (intro _; exact rfl) | (intro _; exact Or.inl rfl) | (intro _; exact Or.inr rfl) | (simp; done) | (simp; omega)) _ | (with_reducible refine Keeps.alloc ?_ _)))).mono ?_; rintro e wq ⟨Ar, cr, rfl, hTr, hkq⟩; go_wp2_with fail)
        refine hK.out _ _ (fun _ => ?_) (fun hE => ?_)
        · first | exact hQ.out _ (Keeps.mono hk1 (fun i _ h => HLow.out i h)) | exact hQ.out _ (Keeps.mono (show Keeps (fun _ => False) wr _ from (by repeat (first | (with_reducible assumption) | (with_reducible exact Keeps.refl _ _) | (with_reducible refine Keeps.drewN ?_ _) | (with_reducible refine Keeps.drew ?_) | with_reducible refine Keeps.setCell ?_ (by first | (intro _; exact rfl) | (intro _; exact Or.inl rfl) | (intro _; exact Or.inr rfl) | (simp; done) | (simp; omega)) _ | (with_reducible refine Keeps.alloc ?_ _)))) (fun _ _ h => h.elim))
        have hS := hE (by kernel_rfl)
        clear hK K hE
        try simp only [Act.put, List.setIfInBounds_toArray, List.set_cons_zero, List.set_cons_succ]
        refine wpAnyT_ready (rs := [8]) (by kernel_rfl) rfl ?_
        refine AllT.cons (o := { dst := some 24, op := Op.buildSlice 22 1 #[(0, Operand.tmp 23)], type := 22, pos := "unify.go:325", after := #[{ on := 7, ground := Ground.data }], guard := none }) rfl (fun K hK => ?_) ?_
        · go_simp
          refine hK.out _ _ (fun _ => ?_) (fun hE => ?_)
          · first | exact hQ.out _ (Keeps.mono hk1 (fun i _ h => HLow.out i h)) | exact hQ.out _ (Keeps.mono (show Keeps (fun _ => False) wr _ from (by repeat (first | (with_reducible assumption) | (with_reducible exact Keeps.refl _ _) | (with_reducible refine Keeps.drewN ?_ _) | (with_reducible refine Keeps.drew ?_) | with_reducible refine Keeps.setCell ?_ (by first | (intro _; exact rfl) | (intro _; exact Or.inl rfl) | (intro _; exact Or.inr rfl) | (simp; done) | (simp; omega)) _ | (with_reducible refine Keeps.alloc ?_ _)))) (fun _ _ h => h.elim))
          have hS := hE (by kernel_rfl)
          clear hK K hE
          try simp only [Act.put, List.setIfInBounds_toArray, List.set_cons_zero, List.set_cons_succ]
          refine wpAnyT_pure (i := 9) (oi := { dst := some 25, op := Op.build 24 #[(1, Operand.tmp 18), (3, Operand.tmp 24)], type := 24, pos := "unify.go:325", after := #[{ on := 2, ground := Ground.data }, { on := 8, ground := Ground.data }], guard := none }) (v := ?v4_9_8) rfl (by kernel_rfl) (fun _ _ _ h => h) (Or.inl ⟨by rfl, ?y4_9_8⟩) (fun _ => hS) ?_
          case y4_9_8 => (intro w hSw; go_simp; try with_reducible rfl)
          try simp only [Act.put, List.setIfInBounds_toArray, List.set_cons_zero, List.set_cons_succ]
          refine wpAnyT_ready (rs := [10]) (by kernel_rfl) rfl ?_
          refine AllT.cons (o := { dst := some 26, op := Op.buildSlice 22 1 #[(0, Operand.tmp 25)], type := 22, pos := "unify.go:325", after := #[{ on := 9, ground := Ground.data }], guard := none }) rfl (fun K hK => ?_) ?_
          · go_simp
            refine hK.out _ _ (fun _ => ?_) (fun hE => ?_)
            · first | exact hQ.out _ (Keeps.mono hk1 (fun i _ h => HLow.out i h)) | exact hQ.out _ (Keeps.mono (show Keeps (fun _ => False) wr _ from (by repeat (first | (with_reducible assumption) | (with_reducible exact Keeps.refl _ _) | (with_reducible refine Keeps.drewN ?_ _) | (with_reducible refine Keeps.drew ?_) | with_reducible refine Keeps.setCell ?_ (by first | (intro _; exact rfl) | (intro _; exact Or.inl rfl) | (intro _; exact Or.inr rfl) | (simp; done) | (simp; omega)) _ | (with_reducible refine Keeps.alloc ?_ _)))) (fun _ _ h => h.elim))
            have hS := hE (by kernel_rfl)
            clear hK K hE
            try simp only [Act.put, List.setIfInBounds_toArray, List.set_cons_zero, List.set_cons_succ]
            refine wpAnyT_ready (rs := [11]) (by kernel_rfl) rfl ?_
            refine AllT.cons (o := { dst := some 27, op := Op.call { callee := Callee.builtin Builtin.append, args := #[Operand.tmp 16, Operand.tmp 26], argTypes := #[22, 22] }, type := 22, pos := "unify.go:325", after := #[{ on := 0, ground := Ground.data }, { on := 10, ground := Ground.data }, { on := 7, ground := Ground.chain }], guard := none }) rfl (fun K hK => ?_) ?_
            · (refine step_append_kept2n (W0 := wr) rfl (.tmp 16) (.tmp 26) 22 rfl (b0 + 2) 24 i0 _ 4 56 Tryd.underlying22 hi0 hz0 hz1 hz2 rfl (by decide) vv Q.length ((Q.map pv4).flatMap V4.cells) rfl HOwn.out (by repeat (first | (with_reducible assumption) | with_reducible exact Keeps.refl _ _ | with_reducible refine Keeps.drew ?_ | with_reducible refine Keeps.alloc ?_ _)) _ _ #[.int .i64 0, .string cur.name, .int .i64 0, .slice (some ⟨wq.heap.size, 0, none⟩) 1 1] rfl rfl (by first | exact heap_new_at (by simp) | exact heap_up (heap_new_at (by simp)) _) (by simp [Value.oneCell']) HMq.out HBq.out HBZ.out ?_; intro g1 cap1 w6 hown1 hk1 hkp1 hat1)
              refine hK.out _ _ (fun _ => ?_) (fun hE => ?_)
              · first | exact hQ.out _ (Keeps.mono hk1 (fun i _ h => HLow.out i h)) | exact hQ.out _ (Keeps.mono (show Keeps (fun _ => False) wr _ from (by repeat (first | (with_reducible assumption) | (with_reducible exact Keeps.refl _ _) | (with_reducible refine Keeps.drewN ?_ _) | (with_reducible refine Keeps.drew ?_) | with_reducible refine Keeps.setCell ?_ (by first | (intro _; exact rfl) | (intro _; exact Or.inl rfl) | (intro _; exact Or.inr rfl) | (simp; done) | (simp; omega)) _ | (with_reducible refine Keeps.alloc ?_ _)))) (fun _ _ h => h.elim))
              have hS := hE (by kernel_rfl)
              clear hK K hE
              try simp only [Act.put, List.setIfInBounds_toArray, List.set_cons_zero, List.set_cons_succ]
              refine wpAnyT_ready (rs := [12]) (by kernel_rfl) rfl ?_
              refine AllT.cons (o := { dst := some 3, op := Op.assign (Operand.tmp 27), type := 22, pos := "unify.go:325", after := #[{ on := 11, ground := Ground.data }, { on := 11, ground := Ground.chain }, { on := 0, ground := Ground.phase }, { on := 1, ground := Ground.phase }, { on := 2, ground := Ground.phase }, { on := 3, ground := Ground.phase }, { on := 4, ground := Ground.phase }, { on := 5, ground := Ground.phase }, { on := 6, ground := Ground.phase }, { on := 7, ground := Ground.phase }, { on := 8, ground := Ground.phase }, { on := 9, ground := Ground.phase }, { on := 10, ground := Ground.phase }, { on := 11, ground := Ground.phase }], guard := none }) rfl (fun K hK => ?_) ?_
              · go_simp
                refine hK.out _ _ (fun _ => ?_) (fun hE => ?_)
                · first | exact hQ.out _ (Keeps.mono hk1 (fun i _ h => HLow.out i h)) | exact hQ.out _ (Keeps.mono (show Keeps (fun _ => False) wr _ from (by repeat (first | (with_reducible assumption) | (with_reducible exact Keeps.refl _ _) | (with_reducible refine Keeps.drewN ?_ _) | (with_reducible refine Keeps.drew ?_) | with_reducible refine Keeps.setCell ?_ (by first | (intro _; exact rfl) | (intro _; exact Or.inl rfl) | (intro _; exact Or.inr rfl) | (simp; done) | (simp; omega)) _ | (with_reducible refine Keeps.alloc ?_ _)))) (fun _ _ h => h.elim))
                have hS := hE (by kernel_rfl)
                clear hK K hE
                try simp only [Act.put, List.setIfInBounds_toArray, List.set_cons_zero, List.set_cons_succ]
                refine wpAnyT_done (by kernel_rfl) ?_ _
                refine NoPanic.normal ?_
                have hkr : Keeps (fun i => b0 + 2 ≤ i) wr w6 := hk1.mono (fun i _ h => HLow.out i h)
                have e3 := hkr.cell d3 hb02
                have s0 := hkr.cell r0 hga2
                have s1 := hkr.cell r1 hga2
                have s2 := hkr.cell r2 hga2
                have s3 := hkr.cell r3 hga2
                have hbx := HLp.out.box.keeps hkr hb02
                have x0 := hbx.cell (i := 0) rfl
                have x1 := hbx.cell (i := 1) rfl
                have x2 := hbx.cell (i := 2) rfl
                have f0 := hbx.free 0
                have f1 := hbx.free 1
                have f2 := hbx.free 2
                have f3 := hbx.free 3
                have hkq6 := keeps_of_app hkq hk1 (fun k hk => by have := (HLp.out.own.lt k hk).2; exact this) hkp1
                have hbA : Blk w6 wq.heap.size 24 ((normP a).cells (.slice Ar (normP a).args.length cr)) := hkp1 _ _ (heap_up (heap_new_at rfl) _) (fun h => by have := (HLp.out.own.lt _ h).2; have := hkq.size; omega)
                obtain ⟨hB4, hK4⟩ := four hbx (.int .i64 r.kind) (.string r.name) (.int .i64 r.var) (.slice Ar0 r.args.length cr0)
                have hg1 := (hown1.lt g1 rfl)
                have HL2 := Lib.hid (lp_next HLp.out HK.out HARGS.out HGW.out HTR.out hkr hk1 hown1 (hat1.imp id (fun h => by simp at h; omega)) hkq hTr hkq6 hbA hB4 hK4 (by simp [lab, Ty.cells, Ty.kind, Ty.name, Ty.var]))
                have HHQ := Lib.hid hq
                clear hkr hbx hkq6 hbA hB4 hK4 hg1 hown1 hk1 hkp1 hat1 hkq hTr hS
                go_wp2_with fail
                go_roundg (nodes r)
                case measure => have := HHQ.out; omega
                case rel => exact ⟨r, _, _, _, rfl, Nat.le_refl _, HL2.out⟩
              exact AllT.nil
            exact AllT.nil
          exact AllT.nil
        exact AllT.nil
      exact AllT.nil
    · have hkb : (cur.kind == 5) = false := by rw [beq_eq_false_iff_ne]; exact hk
      have HK := Lib.hid hk
      clear hk
      go_wp2
      obtain ⟨b4, hb4⟩ : ∃ b4, wr.heap.size = b4 := ⟨_, rfl⟩
      obtain ⟨W4, hW4⟩ : ∃ W4, wr.alloc (.cells #[.int .i64 cur.kind, .string cur.name, .int .i64 cur.var, .slice none 0 0] 24) = W4 := ⟨_, rfl⟩
      have hb4w := Blk.new wr 24 [.int .i64 cur.kind, .string cur.name, .int .i64 cur.var, .slice none 0 0]
      have hk4 : Keeps (fun _ => False) wr W4 := by rw [← hW4]; exact (Keeps.refl _ _).alloc _
      rw [hW4] at hb4w ⊢
      simp only [hb4] at hb4w ⊢
      have HM0 : Hid (Mp t W G b0 cur (.slice A3 cur.args.length c3) vv Q b4 (.slice none 0 0) [] W4) :=
        ⟨hb4w, hl.ty.keeps hk4 (fun _ _ h => h), own_keeps hl.own hk4 (fun _ _ h => h), (fun i hi => by have := (hl.own.lt i hi).2; omega), (fun p hp => ((hl.each p hp).keeps hk4 (fun _ _ h => h)).mono (fun b hb => ⟨⟨hb.1.1, by have := hb.1.2; omega⟩, hb.2⟩)),
          World.ownsRow_nil _ _ _ _, (fun p hp => by cases hp), hl.res.keeps hk4 (fun h => h), hl.keeps.trans hk4 (fun _ _ h => h.elim), by omega, Nat.zero_le _, rfl⟩
      have HB4 := Lib.hid hb4
      have HNok := Lib.hid hl.nok
      have HRow := Lib.hid hl.row
      have HFew := Lib.hid hl.few
      have hal : cur.args.length ≤ 33554432 := by have := nodess_len cur.args; have := nodes_eq cur; have := hl.few; have := HN.out; omega
      clear hl HLp hb4w hk4 hW4 hb4 d0 d1 d2 d3 hlt0 hlt1
      go_loopw [33] (fun s33 wx => ∃ (ov : Value) (U : List (Ty × Value)), s33 = .int .i64 (U.length : Int) ∧ Mp t W G b0 cur (.slice A3 cur.args.length c3) vv Q b4 ov U wx) (fun s33 _ => cur.args.length - (intOf s33).toNat)
      case atStart => exact ⟨_, [], rfl, HM0.out⟩
      case round =>
        clear HM0
        obtain ⟨ov, U, rfl, hm⟩ := hrel
        obtain ⟨Ao, co, rfl⟩ := own_slform hm.uown
        obtain ⟨wx, hwx⟩ : ∃ wx, wx = wr := ⟨_, rfl⟩
        rw [← hwx] at hm ⊢
        clear hwx
        by_cases hlt : U.length < cur.args.length
        · have kz : (U.length : Int) < (cur.args.length : Int) := by omega
          obtain ⟨gx, offx, vx, hadr, hgx, a0, a1, a2, a3, hTx⟩ := tyD.get hm.ty.args hlt
          obtain rfl := hadr
          obtain ⟨x, hx⟩ : ∃ x, cur.args[U.length] = x := ⟨_, rfl⟩
          rw [hx] at a0 a1 a2 hTx
          obtain ⟨Ax, cx, rfl, _⟩ := hTx.form
          have hxm : x ∈ cur.args := by rw [← hx]; exact List.getElem_mem hlt
          have HM := Lib.hid hm
          have HX := Lib.hid hx
          have HTX := Lib.hid hTx
          have HXM := Lib.hid hxm
          clear hm hx hTx hxm
          go_wp2_with fail
          obtain ⟨w5, hw5⟩ : ∃ w5, wx.alloc (.cells #[.int .i64 x.kind, .string x.name, .int .i64 x.var, .slice Ax x.args.length cx] 24) = w5 := ⟨_, rfl⟩
          have hb6w := Blk.new wx 24 [.int .i64 x.kind, .string x.name, .int .i64 x.var, .slice Ax x.args.length cx]
          have hk5 : Keeps (fun _ => False) wx w5 := by rw [← hw5]; exact (Keeps.refl _ _).alloc _
          have hz5 : w5.heap.size = wx.heap.size + 1 := by rw [← hw5]; simp
          obtain ⟨b6, hb6⟩ : ∃ b6, wx.heap.size = b6 := ⟨_, rfl⟩
          rw [hw5] at hb6w ⊢
          simp only [hb6] at hb6w hz5 ⊢
          have ho5 := HM.out.out.keeps hk5 (fun h => h)
          have hb4l : b4 < w5.heap.size := ho5.lt
          have d3 := ho5.cell (i := 3) rfl
          have f3 := ho5.free 3
          have x0 := hb6w.cell (i := 0) rfl
          have x1 := hb6w.cell (i := 1) rfl
          have x2 := hb6w.cell (i := 2) rfl
          have x3 := hb6w.cell (i := 3) rfl
          have hul : ∀ i, (Value.slice Ao U.length co).ownBlock = some i → b4 + 1 ≤ i ∧ i < b6 := fun i hi => by have := HM.out.uown.lt i hi; omega
          have HUL : Hid (∀ i, (Value.slice Ao U.length co).ownBlock = some i → b4 + 1 ≤ i ∧ i < b6) := hul
          have HOn : Hid (¬ (Value.slice Ao U.length co).ownBlock = some b4) := fun h => by have := hul _ h; omega
          have hQ : Hid (∀ X, Keeps (fun i => b4 + 1 ≤ i ∧ i < b6) w5 X → (X.cell? ⟨b4, 3, none⟩ = some (.slice Ao U.length co) ∧ X.cell? ⟨b6, 0, none⟩ = some (.int .i64 x.kind) ∧ X.cell? ⟨b6, 1, none⟩ = some (.string x.name) ∧ X.cell? ⟨b6, 2, none⟩ = some (.int .i64 x.var) ∧ X.cell? ⟨b6, 3, none⟩ = some (.slice Ax x.args.length cx))) := fun X hb =>
            ⟨hb.cell d3 (fun h => by have h1 : b4 + 1 ≤ b4 := h.1; omega), hb.cell x0 (fun h => by have h1 : b6 < b6 := h.2; omega), hb.cell x1 (fun h => by have h1 : b6 < b6 := h.2; omega), hb.cell x2 (fun h => by have h1 : b6 < b6 := h.2; omega), hb.cell x3 (fun h => by have h1 : b6 < b6 := h.2; omega)⟩
          have HG1 : Hid (∀ g1, ((Value.slice Ao U.length co).ownBlock = some g1 ∨ w5.heap.size ≤ g1) → g1 ≠ b4) := fun g1 h e => by
            subst e
            rcases h with h | h
            · have := hul _ h; omega
            · omega
          have HUOwn := Lib.hid (own_keeps HM.out.uown hk5 (fun _ _ h => h))
          have HMq : Hid (U.length + 1 ≤ maxLen) := by show _ ≤ _; unfold maxLen; omega
          have HBq : Hid ((U.length + 1) * 56 ≤ 140737488355328) := by show _ ≤ _; omega
          have HBZ : Hid (b4 + 1 ≤ w5.heap.size) := by show _ ≤ _; omega
          have HNa : Hid (∀ X, Keeps (fun _ => False) w5 X → Calls Tryd.prog 22 #[.agg #[.int .i64 x.kind, .string x.name, .int .i64 x.var, .slice Ax x.args.length cx]] X
              (fun e w' => ∃ A c, e = .returned (.agg #[.int .i64 (normP x).kind, .string (normP x).name, .int .i64 (normP x).var, .slice A (normP x).args.length c]) ∧ TyC w' (fun b => w5.heap.size ≤ b ∧ b < w'.heap.size) (normP x) (.slice A (normP x).args.length c) ∧ Keeps (fun _ => False) w5 w' ∧ ∀ k o, X.heap[k]? = some o → w'.heap[k]? = some o)) := fun X hk =>
            (HIH.out x (by have := nodess_mem cur.args x HXM.out; have := nodes_eq cur; have := HFew.out; omega) X G _ ((HTX.out.keeps hk5 (fun _ _ h => h)).keeps hk (fun _ _ h => h)) (fun b hb => by have := HGW.out b hb; have := hk.size; have := HM.out.bb; omega) (HNok.out.arg HXM.out) (by have := nodess_mem cur.args x HXM.out; have := nodes_eq cur; have := HFew.out; have := HN.out; omega)).mono
              fun e w' ⟨A, c, he, hT, hkk⟩ => ⟨A, c, he, hT.mono (fun b hb => ⟨Nat.le_trans hk.size hb.1, hb.2⟩), hk.trans hkk (fun _ _ h => h), fun k o h => hkk.heap h (fun h => h)⟩
          have HK5 := Lib.hid hk5
          have HB6 := Lib.hid hb6
          have HZ5 := Lib.hid hz5
          have hu0 : (0 : Int) ≤ (U.length : Int) := by omega
          have huu : (U.length : Int) < ((U.length : Int) + 1) := by omega
          clear hb6w hk5 ho5 hw5 x0 x1 x2 x3 hul a0 a1 a2 a3 hb6 hz5
          refine wp_region_noPanic ?_
          refine wp_region_till [8, 10] (fun X => X.cell? ⟨b4, 3, none⟩ = some (.slice Ao U.length co) ∧ X.cell? ⟨b6, 0, none⟩ = some (.int .i64 x.kind) ∧ X.cell? ⟨b6, 1, none⟩ = some (.string x.name) ∧ X.cell? ⟨b6, 2, none⟩ = some (.int .i64 x.var) ∧ X.cell? ⟨b6, 3, none⟩ = some (.slice Ax x.args.length cx)) (by kernel_rfl) ?_ (fun hE => ?_)
          · first | exact hQ.out _ (hk1.mono (fun i _ h => HUL.out i h)) | exact hQ.out _ (Keeps.mono (show Keeps (fun _ => False) w5 _ from (by repeat (first | (with_reducible assumption) | (with_reducible exact Keeps.refl _ _) | (with_reducible refine Keeps.drewN ?_ _) | (with_reducible refine Keeps.drew ?_) | with_reducible refine Keeps.setCell ?_ (by first | (intro _; exact rfl) | (intro _; exact Or.inl rfl) | (intro _; exact Or.inr rfl) | (simp; done) | (simp; omega)) _ | (with_reducible refine Keeps.alloc ?_ _)))) (fun _ _ h => h.elim))
          have hS := hE (by kernel_rfl)
          refine wpAnyT_pure (i := 0) (oi := { dst := some 37, op := Op.fieldAddr 24 (Operand.tmp 4) 3, type := 0, pos := "unify.go:330", after := #[], guard := none }) (v := ?v10_0_1) rfl (by kernel_rfl) (fun _ _ _ h => h) (Or.inl ⟨by rfl, ?y10_0_1⟩) (fun _ => hS) ?_
          case y10_0_1 => (intro w hSw; go_simp; try with_reducible rfl)
          try simp only [Act.put, List.setIfInBounds_toArray, List.set_cons_zero, List.set_cons_succ]
          refine wpAnyT_take (i := 1) (oi := { dst := some 38, op := Op.load 22 (Operand.tmp 37), type := 22, pos := "unify.go:330", after := #[{ on := 0, ground := Ground.data }], guard := none }) (v := ?v10_1_2) rfl (by kernel_rfl) (fun _ _ _ h => h) (Or.inl ⟨by rfl, ?y10_1_2⟩) hS ?_
          case y10_1_2 => (intro w hSw; (try dsimp only at hSw); go_simp; try with_reducible rfl)
          try simp only [Act.put, List.setIfInBounds_toArray, List.set_cons_zero, List.set_cons_succ]
          refine wpAnyT_take (i := 2) (oi := { dst := some 39, op := Op.load 24 (Operand.tmp 6), type := 24, pos := "unify.go:330", after := #[], guard := none }) (v := ?v10_2_3) rfl (by kernel_rfl) (fun _ _ _ h => h) (Or.inl ⟨by rfl, ?y10_2_3⟩) hS ?_
          case y10_2_3 => (intro w hSw; (try dsimp only at hSw); go_simp; try with_reducible rfl)
          try simp only [Act.put, List.setIfInBounds_toArray, List.set_cons_zero, List.set_cons_succ]
          refine wpAnyT_pure (i := 4) (oi := { dst := some 41, op := Op.call { callee := Callee.builtin Builtin.len, args := #[Operand.tmp 38], argTypes := #[22] }, type := 3, pos := "unify.go:330", after := #[{ on := 1, ground := Ground.data }], guard := none }) (v := ?v10_4_4) rfl (by kernel_rfl) (fun _ _ _ h => h) (Or.inl ⟨by rfl, ?y10_4_4⟩) (fun _ => hS) ?_
          case y10_4_4 => (intro w hSw; go_simp; try with_reducible rfl)
          try simp only [Act.put, List.setIfInBounds_toArray, List.set_cons_zero, List.set_cons_succ]
          refine wpAnyT_ready (rs := [3, 5]) (by kernel_rfl) rfl ?_
          refine AllT.cons (o := { dst := some 40, op := Op.call { callee := Callee.value (Operand.func 22), args := #[Operand.tmp 39], argTypes := #[24] }, type := 24, pos := "unify.go:330", after := #[{ on := 2, ground := Ground.data }], guard := none }) rfl (fun K hK => ?_) ?_
          · (go_simp; go_at_call 22; with_reducible refine (HNa.out _ (by repeat (first | (with_reducible assumption) | (with_reducible exact Keeps.refl _ _) | (with_reducible refine Keeps.drewN ?_ _) | (with_reducible refine Keeps.drew ?_) | with_reducible refine Keeps.setCell ?_ (by first | (intro _; exact rfl) | (intro _; exact Or.inl rfl) | (intro _; exact Or.inr rfl) | (simp; done) | (simp; omega)) _ | (with_reducible refine Keeps.alloc ?_ _)))).mono ?_; rintro e wq ⟨Ar, cr, rfl, hTr, hkq, hkx⟩; go_wp2_with fail)
            refine hK.out _ _ (fun _ => ?_) (fun hE => ?_)
            · first | exact hQ.out _ (hk1.mono (fun i _ h => HUL.out i h)) | exact hQ.out _ (Keeps.mono (show Keeps (fun _ => False) w5 _ from (by repeat (first | (with_reducible assumption) | (with_reducible exact Keeps.refl _ _) | (with_reducible refine Keeps.drewN ?_ _) | (with_reducible refine Keeps.drew ?_) | with_reducible refine Keeps.setCell ?_ (by first | (intro _; exact rfl) | (intro _; exact Or.inl rfl) | (intro _; exact Or.inr rfl) | (simp; done) | (simp; omega)) _ | (with_reducible refine Keeps.alloc ?_ _)))) (fun _ _ h => h.elim))
            have hS := hE (by kernel_rfl)
            clear hK K hE
            try simp only [Act.put, List.setIfInBounds_toArray, List.set_cons_zero, List.set_cons_succ]
            refine wpAnyT_ready (rs := [5]) (by kernel_rfl) rfl ?_
            refine AllT.cons (o := { dst := some 42, op := Op.buildSlice 22 1 #[(0, Operand.const (Value.agg #[Value.int IntKind.i64 0, Value.string { data := #[] }, Value.int IntKind.i64 0, Value.slice none 0 0]))], type := 22, pos := "unify.go:330", after := #[], guard := none }) rfl (fun K hK => ?_) ?_
            · go_simp
              refine hK.out _ _ (fun _ => ?_) (fun hE => ?_)
              · first | exact hQ.out _ (hk1.mono (fun i _ h => HUL.out i h)) | exact hQ.out _ (Keeps.mono (show Keeps (fun _ => False) w5 _ from (by repeat (first | (with_reducible assumption) | (with_reducible exact Keeps.refl _ _) | (with_reducible refine Keeps.drewN ?_ _) | (with_reducible refine Keeps.drew ?_) | with_reducible refine Keeps.setCell ?_ (by first | (intro _; exact rfl) | (intro _; exact Or.inl rfl) | (intro _; exact Or.inr rfl) | (simp; done) | (simp; omega)) _ | (with_reducible refine Keeps.alloc ?_ _)))) (fun _ _ h => h.elim))
              have hS := hE (by kernel_rfl)
              clear hK K hE
              try simp only [Act.put, List.setIfInBounds_toArray, List.set_cons_zero, List.set_cons_succ]
              refine wpAnyT_ready (rs := [6]) (by kernel_rfl) rfl ?_
              refine AllT.cons (o := { dst := some 43, op := Op.call { callee := Callee.builtin Builtin.append, args := #[Operand.tmp 38, Operand.tmp 42], argTypes := #[22, 22] }, type := 22, pos := "unify.go:330", after := #[{ on := 1, ground := Ground.data }, { on := 5, ground := Ground.data }, { on := 3, ground := Ground.chain }, { on := 0, ground := Ground.phase }, { on := 1, ground := Ground.phase }, { on := 2, ground := Ground.phase }, { on := 3, ground := Ground.phase }, { on := 4, ground := Ground.phase }, { on := 5, ground := Ground.phase }], guard := none }) rfl (fun K hK => ?_) ?_
              · (refine step_append_kept2n (W0 := w5) rfl (.tmp 38) (.tmp 42) 22 rfl (b4 + 1) 24 i0 _ 4 56 Tryd.underlying22 hi0 hz0 hz1 hz2 rfl (by decide) (.slice Ao U.length co) U.length ((U.map pv4).flatMap V4.cells) rfl HUOwn.out (by repeat (first | (with_reducible assumption) | with_reducible exact Keeps.refl _ _ | with_reducible refine Keeps.drew ?_ | with_reducible refine Keeps.alloc ?_ _)) _ _ #[.int .i64 0, .string ⟨#[]⟩, .int .i64 0, .slice none 0 0] rfl rfl (by first | exact heap_new_at (by simp) | exact hkx _ _ (heap_new_at (by simp))) (by simp [Value.oneCell']) HMq.out HBq.out HBZ.out ?_; intro g1 cap1 w6 hown1 hk1 hkp1 hat1; obtain ⟨⟨z0, z1, z2, z3⟩, zf⟩ := own_last_cell (P := U.map pv4) (z := zV4) hown1 (List.length_map _); have zf0 := zf (U.length * 4); have zf1 := zf (U.length * 4 + 1); have zf2 := zf (U.length * 4 + 2); have zf3 := zf (U.length * 4 + 3); clear zf; simp only [zV4] at z0 z1 z2 z3; have y3 := hk1.cell d3 HOn.out; have yf := hk1.frozen f3 hb4l HOn.out; have hg1 : g1 ≠ b4 := (HG1.out g1 (hat1.imp id (fun h => by have h2 := size_le_of hk1 hkq; (try simp at h); omega))); have hg1' : b4 ≠ g1 := fun e => hg1 e.symm)
                refine hK.out _ _ (fun _ => ?_) (fun hE => ?_)
                · first | exact hQ.out _ (hk1.mono (fun i _ h => HUL.out i h)) | exact hQ.out _ (Keeps.mono (show Keeps (fun _ => False) w5 _ from (by repeat (first | (with_reducible assumption) | (with_reducible exact Keeps.refl _ _) | (with_reducible refine Keeps.drewN ?_ _) | (with_reducible refine Keeps.drew ?_) | with_reducible refine Keeps.setCell ?_ (by first | (intro _; exact rfl) | (intro _; exact Or.inl rfl) | (intro _; exact Or.inr rfl) | (simp; done) | (simp; omega)) _ | (with_reducible refine Keeps.alloc ?_ _)))) (fun _ _ h => h.elim))
                have hS := hE (by kernel_rfl)
                clear hK K hE
                try simp only [Act.put, List.setIfInBounds_toArray, List.set_cons_zero, List.set_cons_succ]
                refine wpAnyT_pure (i := 7) (oi := { dst := some 44, op := Op.indexAddr 22 (Operand.tmp 43) (Operand.tmp 41), type := 0, pos := "unify.go:330", after := #[{ on := 6, ground := Ground.data }, { on := 4, ground := Ground.data }, { on := 0, ground := Ground.phase }, { on := 1, ground := Ground.phase }, { on := 2, ground := Ground.phase }, { on := 3, ground := Ground.phase }, { on := 4, ground := Ground.phase }, { on := 5, ground := Ground.phase }, { on := 6, ground := Ground.phase }, { on := 10, ground := Ground.gcOnly Departure.appendInPlace }], guard := none }) (v := ?v10_7_5) rfl (by kernel_rfl) (fun _ _ _ h => h) (Or.inl ⟨by rfl, ?y10_7_5⟩) (fun _ => hS) ?_
                case y10_7_5 => (intro w hSw; go_simp; try with_reducible rfl)
                try simp only [Act.put, List.setIfInBounds_toArray, List.set_cons_zero, List.set_cons_succ]
                refine wpAnyT_pure (i := 9) (oi := { dst := some 45, op := Op.fieldAddr 24 (Operand.tmp 4) 3, type := 0, pos := "unify.go:330", after := #[{ on := 0, ground := Ground.phase }, { on := 1, ground := Ground.phase }, { on := 2, ground := Ground.phase }, { on := 3, ground := Ground.phase }, { on := 4, ground := Ground.phase }, { on := 5, ground := Ground.phase }, { on := 6, ground := Ground.phase }, { on := 7, ground := Ground.textOnly Departure.appendInPlace }, { on := 8, ground := Ground.textOnly Departure.appendInPlace }], guard := none }) (v := ?v10_9_6) rfl (by kernel_rfl) (fun _ _ _ h => h) (Or.inl ⟨by rfl, ?y10_9_6⟩) (fun _ => hS) ?_
                case y10_9_6 => (intro w hSw; go_simp; try with_reducible rfl)
                try simp only [Act.put, List.setIfInBounds_toArray, List.set_cons_zero, List.set_cons_succ]
                refine wpAnyT_ready (rs := [8, 10]) (by kernel_rfl) rfl ?_
                refine AllT.cons (o := { dst := none, op := Op.store 24 (Operand.tmp 44) (Operand.tmp 40), type := 0, pos := "unify.go:330", after := #[{ on := 7, ground := Ground.data }, { on := 3, ground := Ground.data }, { on := 6, ground := Ground.chain }, { on := 0, ground := Ground.phase }, { on := 1, ground := Ground.phase }, { on := 2, ground := Ground.phase }, { on := 3, ground := Ground.phase }, { on := 4, ground := Ground.phase }, { on := 5, ground := Ground.phase }, { on := 6, ground := Ground.phase }, { on := 10, ground := Ground.gcOnly Departure.appendInPlace }], guard := none }) rfl (fun K hK => ?_) ?_
                · go_simp
                  refine hK.out _ _ (fun he => Bool.noConfusion (show false = true from he)) (fun hE => ?_)
                  clear hK K hE
                  try simp only [Act.put, List.setIfInBounds_toArray, List.set_cons_zero, List.set_cons_succ]
                  refine wpAnyT_ready (rs := [10]) (by kernel_rfl) rfl ?_
                  refine AllT.cons (o := { dst := none, op := Op.store 22 (Operand.tmp 45) (Operand.tmp 43), type := 0, pos := "unify.go:330", after := #[{ on := 9, ground := Ground.data }, { on := 6, ground := Ground.data }, { on := 6, ground := Ground.chain }, { on := 8, ground := Ground.textOnly Departure.appendInPlace }, { on := 0, ground := Ground.phase }, { on := 1, ground := Ground.phase }, { on := 2, ground := Ground.phase }, { on := 3, ground := Ground.phase }, { on := 4, ground := Ground.phase }, { on := 5, ground := Ground.phase }, { on := 6, ground := Ground.phase }, { on := 7, ground := Ground.textOnly Departure.appendInPlace }, { on := 8, ground := Ground.textOnly Departure.appendInPlace }], guard := none }) rfl (fun K hK => ?_) ?_
                  · go_simp
                    refine hK.out _ _ (fun he => Bool.noConfusion (show false = true from he)) (fun hE => ?_)
                    clear hK K hE
                    try simp only [Act.put, List.setIfInBounds_toArray, List.set_cons_zero, List.set_cons_succ]
                    refine wpAnyT_done (by kernel_rfl) ?_ _
                    refine NoPanic.normal ?_
                    have ho6 := (HM.out.out.keeps HK5.out (fun h => h)).keeps hk1 HOn.out
                    have hkq6 := keeps_of_app2 hkq hk1 (fun k hk => by have := HUL.out k hk; have := HZ5.out; have := HB6.out; omega) hkp1 (by first | exact fun k o h => heap_up h _ | exact fun k o h => h)
                    have HA := Lib.hid (fin_A (x := x) (A := Ar) (c := cr) hown1 ho6 hg1)
                    have HBB := Lib.hid (fin_B (x := x) (A := Ar) (c := cr) hown1 ho6 hg1)
                    have HNX : Hid (∀ w7, FinP b4 g1 cap1 cur x U (.slice Ar (normP x).args.length cr) w6 w7 → Mp t W G b0 cur (.slice (some ⟨gx, offx, none⟩) cur.args.length c3) vv Q b4 (.slice (some ⟨g1, 0, none⟩) (U.length + 1) cap1) (U ++ [(normP x, .slice Ar (normP x).args.length cr)]) w7) := fun w7 hf =>
                      mp_next HM.out HGW.out hlt HX.out HK5.out (by rw [HZ5.out, HB6.out]) hk1 hkq hTr hkq6 (hat1.imp id (fun h => by have h2 := size_le_of hk1 hkq; (try simp at h); omega)) hf
                    clear ho6 hkq6 hown1 hk1 hkp1 hat1 hkq hTr hkx z0 z1 z2 z3 zf0 zf1 zf2 zf3 y3 yf
                    go_wp2_with fail
                    go_roundw
                    case rel => exact ⟨_, U ++ [(normP x, .slice Ar (normP x).args.length cr)], by simp, by first | exact HNX.out _ HA.out | exact HNX.out _ HBB.out⟩
                    case measure => simp [intOf]; omega
                  exact AllT.nil
                refine AllT.cons (o := { dst := none, op := Op.store 22 (Operand.tmp 45) (Operand.tmp 43), type := 0, pos := "unify.go:330", after := #[{ on := 9, ground := Ground.data }, { on := 6, ground := Ground.data }, { on := 6, ground := Ground.chain }, { on := 8, ground := Ground.textOnly Departure.appendInPlace }, { on := 0, ground := Ground.phase }, { on := 1, ground := Ground.phase }, { on := 2, ground := Ground.phase }, { on := 3, ground := Ground.phase }, { on := 4, ground := Ground.phase }, { on := 5, ground := Ground.phase }, { on := 6, ground := Ground.phase }, { on := 7, ground := Ground.textOnly Departure.appendInPlace }, { on := 8, ground := Ground.textOnly Departure.appendInPlace }], guard := none }) rfl (fun K hK => ?_) ?_
                · go_simp
                  refine hK.out _ _ (fun he => Bool.noConfusion (show false = true from he)) (fun hE => ?_)
                  clear hK K hE
                  try simp only [Act.put, List.setIfInBounds_toArray, List.set_cons_zero, List.set_cons_succ]
                  refine wpAnyT_ready (rs := [8]) (by kernel_rfl) rfl ?_
                  refine AllT.cons (o := { dst := none, op := Op.store 24 (Operand.tmp 44) (Operand.tmp 40), type := 0, pos := "unify.go:330", after := #[{ on := 7, ground := Ground.data }, { on := 3, ground := Ground.data }, { on := 6, ground := Ground.chain }, { on := 0, ground := Ground.phase }, { on := 1, ground := Ground.phase }, { on := 2, ground := Ground.phase }, { on := 3, ground := Ground.phase }, { on := 4, ground := Ground.phase }, { on := 5, ground := Ground.phase }, { on := 6, ground := Ground.phase }, { on := 10, ground := Ground.gcOnly Departure.appendInPlace }], guard := none }) rfl (fun K hK => ?_) ?_
                  · go_simp
                    refine hK.out _ _ (fun he => Bool.noConfusion (show false = true from he)) (fun hE => ?_)
                    clear hK K hE
                    try simp only [Act.put, List.setIfInBounds_toArray, List.set_cons_zero, List.set_cons_succ]
                    refine wpAnyT_done (by kernel_rfl) ?_ _
                    refine NoPanic.normal ?_
                    have ho6 := (HM.out.out.keeps HK5.out (fun h => h)).keeps hk1 HOn.out
                    have hkq6 := keeps_of_app2 hkq hk1 (fun k hk => by have := HUL.out k hk; have := HZ5.out; have := HB6.out; omega) hkp1 (by first | exact fun k o h => heap_up h _ | exact fun k o h => h)
                    have HA := Lib.hid (fin_A (x := x) (A := Ar) (c := cr) hown1 ho6 hg1)
                    have HBB := Lib.hid (fin_B (x := x) (A := Ar) (c := cr) hown1 ho6 hg1)
                    have HNX : Hid (∀ w7, FinP b4 g1 cap1 cur x U (.slice Ar (normP x).args.length cr) w6 w7 → Mp t W G b0 cur (.slice (some ⟨gx, offx, none⟩) cur.args.length c3) vv Q b4 (.slice (some ⟨g1, 0, none⟩) (U.length + 1) cap1) (U ++ [(normP x, .slice Ar (normP x).args.length cr)]) w7) := fun w7 hf =>
                      mp_next HM.out HGW.out hlt HX.out HK5.out (by rw [HZ5.out, HB6.out]) hk1 hkq hTr hkq6 (hat1.imp id (fun h => by have h2 := size_le_of hk1 hkq; (try simp at h); omega)) hf
                    clear ho6 hkq6 hown1 hk1 hkp1 hat1 hkq hTr hkx z0 z1 z2 z3 zf0 zf1 zf2 zf3 y3 yf
                    go_wp2_with fail
                    go_roundw
                    case rel => exact ⟨_, U ++ [(normP x, .slice Ar (normP x).args.length cr)], by simp, by first | exact HNX.out _ HA.out | exact HNX.out _ HBB.out⟩
                    case measure => simp [intOf]; omega
                  exact AllT.nil
                exact AllT.nil
              exact AllT.nil
            exact AllT.nil
          refine AllT.cons (o := { dst := some 42, op := Op.buildSlice 22 1 #[(0, Operand.const (Value.agg #[Value.int IntKind.i64 0, Value.string { data := #[] }, Value.int IntKind.i64 0, Value.slice none 0 0]))], type := 22, pos := "unify.go:330", after := #[], guard := none }) rfl (fun K hK => ?_) ?_
          · go_simp
            refine hK.out _ _ (fun _ => ?_) (fun hE => ?_)
            · first | exact hQ.out _ (hk1.mono (fun i _ h => HUL.out i h)) | exact hQ.out _ (Keeps.mono (show Keeps (fun _ => False) w5 _ from (by repeat (first | (with_reducible assumption) | (with_reducible exact Keeps.refl _ _) | (with_reducible refine Keeps.drewN ?_ _) | (with_reducible refine Keeps.drew ?_) | with_reducible refine Keeps.setCell ?_ (by first | (intro _; exact rfl) | (intro _; exact Or.inl rfl) | (intro _; exact Or.inr rfl) | (simp; done) | (simp; omega)) _ | (with_reducible refine Keeps.alloc ?_ _)))) (fun _ _ h => h.elim))
            have hS := hE (by kernel_rfl)
            clear hK K hE
            try simp only [Act.put, List.setIfInBounds_toArray, List.set_cons_zero, List.set_cons_succ]
            refine wpAnyT_ready (rs := [3]) (by kernel_rfl) rfl ?_
            refine AllT.cons (o := { dst := some 40, op := Op.call { callee := Callee.value (Operand.func 22), args := #[Operand.tmp 39], argTypes := #[24] }, type := 24, pos := "unify.go:330", after := #[{ on := 2, ground := Ground.data }], guard := none }) rfl (fun K hK => ?_) ?_
            · (go_simp; go_at_call 22; with_reducible refine (HNa.out _ (by repeat (first | (with_reducible assumption) | (with_reducible exact Keeps.refl _ _) | (with_reducible refine Keeps.drewN ?_ _) | (with_reducible refine Keeps.drew ?_) | with_reducible refine Keeps.setCell ?_ (by first | (intro _; exact rfl) | (intro _; exact Or.inl rfl) | (intro _; exact Or.inr rfl) | (simp; done) | (simp; omega)) _ | (with_reducible refine Keeps.alloc ?_ _)))).mono ?_; rintro e wq ⟨Ar, cr, rfl, hTr, hkq, hkx⟩; go_wp2_with fail)
              refine hK.out _ _ (fun _ => ?_) (fun hE => ?_)
              · first | exact hQ.out _ (hk1.mono (fun i _ h => HUL.out i h)) | exact hQ.out _ (Keeps.mono (show Keeps (fun _ => False) w5 _ from (by repeat (first | (with_reducible assumption) | (with_reducible exact Keeps.refl _ _) | (with_reducible refine Keeps.drewN ?_ _) | (with_reducible refine Keeps.drew ?_) | with_reducible refine Keeps.setCell ?_ (by first | (intro _; exact rfl) | (intro _; exact Or.inl rfl) | (intro _; exact Or.inr rfl) | (simp; done) | (simp; omega)) _ | (with_reducible refine Keeps.alloc ?_ _)))) (fun _ _ h => h.elim))
              have hS := hE (by kernel_rfl)
              clear hK K hE
              try simp only [Act.put, List.setIfInBounds_toArray, List.set_cons_zero, List.set_cons_succ]
              refine wpAnyT_ready (rs := [6]) (by kernel_rfl) rfl ?_
              refine AllT.cons (o := { dst := some 43, op := Op.call { callee := Callee.builtin Builtin.append, args := #[Operand.tmp 38, Operand.tmp 42], argTypes := #[22, 22] }, type := 22, pos := "unify.go:330", after := #[{ on := 1, ground := Ground.data }, { on := 5, ground := Ground.data }, { on := 3, ground := Ground.chain }, { on := 0, ground := Ground.phase }, { on := 1, ground := Ground.phase }, { on := 2, ground := Ground.phase }, { on := 3, ground := Ground.phase }, { on := 4, ground := Ground.phase }, { on := 5, ground := Ground.phase }], guard := none }) rfl (fun K hK => ?_) ?_
              · (refine step_append_kept2n (W0 := w5) rfl (.tmp 38) (.tmp 42) 22 rfl (b4 + 1) 24 i0 _ 4 56 Tryd.underlying22 hi0 hz0 hz1 hz2 rfl (by decide) (.slice Ao U.length co) U.length ((U.map pv4).flatMap V4.cells) rfl HUOwn.out (by repeat (first | (with_reducible assumption) | with_reducible exact Keeps.refl _ _ | with_reducible refine Keeps.drew ?_ | with_reducible refine Keeps.alloc ?_ _)) _ _ #[.int .i64 0, .string ⟨#[]⟩, .int .i64 0, .slice none 0 0] rfl rfl (by first | exact heap_new_at (by simp) | exact hkx _ _ (heap_new_at (by simp))) (by simp [Value.oneCell']) HMq.out HBq.out HBZ.out ?_; intro g1 cap1 w6 hown1 hk1 hkp1 hat1; obtain ⟨⟨z0, z1, z2, z3⟩, zf⟩ := own_last_cell (P := U.map pv4) (z := zV4) hown1 (List.length_map _); have zf0 := zf (U.length * 4); have zf1 := zf (U.length * 4 + 1); have zf2 := zf (U.length * 4 + 2); have zf3 := zf (U.length * 4 + 3); clear zf; simp only [zV4] at z0 z1 z2 z3; have y3 := hk1.cell d3 HOn.out; have yf := hk1.frozen f3 hb4l HOn.out; have hg1 : g1 ≠ b4 := (HG1.out g1 (hat1.imp id (fun h => by have h2 := size_le_of hk1 hkq; (try simp at h); omega))); have hg1' : b4 ≠ g1 := fun e => hg1 e.symm)
                refine hK.out _ _ (fun _ => ?_) (fun hE => ?_)
                · first | exact hQ.out _ (hk1.mono (fun i _ h => HUL.out i h)) | exact hQ.out _ (Keeps.mono (show Keeps (fun _ => False) w5 _ from (by repeat (first | (with_reducible assumption) | (with_reducible exact Keeps.refl _ _) | (with_reducible refine Keeps.drewN ?_ _) | (with_reducible refine Keeps.drew ?_) | with_reducible refine Keeps.setCell ?_ (by first | (intro _; exact rfl) | (intro _; exact Or.inl rfl) | (intro _; exact Or.inr rfl) | (simp; done) | (simp; omega)) _ | (with_reducible refine Keeps.alloc ?_ _)))) (fun _ _ h => h.elim))
                have hS := hE (by kernel_rfl)
                clear hK K hE
                try simp only [Act.put, List.setIfInBounds_toArray, List.set_cons_zero, List.set_cons_succ]
                refine wpAnyT_pure (i := 7) (oi := { dst := some 44, op := Op.indexAddr 22 (Operand.tmp 43) (Operand.tmp 41), type := 0, pos := "unify.go:330", after := #[{ on := 6, ground := Ground.data }, { on := 4, ground := Ground.data }, { on := 0, ground := Ground.phase }, { on := 1, ground := Ground.phase }, { on := 2, ground := Ground.phase }, { on := 3, ground := Ground.phase }, { on := 4, ground := Ground.phase }, { on := 5, ground := Ground.phase }, { on := 6, ground := Ground.phase }, { on := 10, ground := Ground.gcOnly Departure.appendInPlace }], guard := none }) (v := ?v10_7_7) rfl (by kernel_rfl) (fun _ _ _ h => h) (Or.inl ⟨by rfl, ?y10_7_7⟩) (fun _ => hS) ?_
                case y10_7_7 => (intro w hSw; go_simp; try with_reducible rfl)
                try simp only [Act.put, List.setIfInBounds_toArray, List.set_cons_zero, List.set_cons_succ]
                refine wpAnyT_pure (i := 9) (oi := { dst := some 45, op := Op.fieldAddr 24 (Operand.tmp 4) 3, type := 0, pos := "unify.go:330", after := #[{ on := 0, ground := Ground.phase }, { on := 1, ground := Ground.phase }, { on := 2, ground := Ground.phase }, { on := 3, ground := Ground.phase }, { on := 4, ground := Ground.phase }, { on := 5, ground := Ground.phase }, { on := 6, ground := Ground.phase }, { on := 7, ground := Ground.textOnly Departure.appendInPlace }, { on := 8, ground := Ground.textOnly Departure.appendInPlace }], guard := none }) (v := ?v10_9_8) rfl (by kernel_rfl) (fun _ _ _ h => h) (Or.inl ⟨by rfl, ?y10_9_8⟩) (fun _ => hS) ?_
                case y10_9_8 => (intro w hSw; go_simp; try with_reducible rfl)
                try simp only [Act.put, List.setIfInBounds_toArray, List.set_cons_zero, List.set_cons_succ]
                refine wpAnyT_ready (rs := [8, 10]) (by kernel_rfl) rfl ?_
                refine AllT.cons (o := { dst := none, op := Op.store 24 (Operand.tmp 44) (Operand.tmp 40), type := 0, pos := "unify.go:330", after := #[{ on := 7, ground := Ground.data }, { on := 3, ground := Ground.data }, { on := 6, ground := Ground.chain }, { on := 0, ground := Ground.phase }, { on := 1, ground := Ground.phase }, { on := 2, ground := Ground.phase }, { on := 3, ground := Ground.phase }, { on := 4, ground := Ground.phase }, { on := 5, ground := Ground.phase }, { on := 6, ground := Ground.phase }, { on := 10, ground := Ground.gcOnly Departure.appendInPlace }], guard := none }) rfl (fun K hK => ?_) ?_
                · go_simp
                  refine hK.out _ _ (fun he => Bool.noConfusion (show false = true from he)) (fun hE => ?_)
                  clear hK K hE
                  try simp only [Act.put, List.setIfInBounds_toArray, List.set_cons_zero, List.set_cons_succ]
                  refine wpAnyT_ready (rs := [10]) (by kernel_rfl) rfl ?_
                  refine AllT.cons (o := { dst := none, op := Op.store 22 (Operand.tmp 45) (Operand.tmp 43), type := 0, pos := "unify.go:330", after := #[{ on := 9, ground := Ground.data }, { on := 6, ground := Ground.data }, { on := 6, ground := Ground.chain }, { on := 8, ground := Ground.textOnly Departure.appendInPlace }, { on := 0, ground := Ground.phase }, { on := 1, ground := Ground.phase }, { on := 2, ground := Ground.phase }, { on := 3, ground := Ground.phase }, { on := 4, ground := Ground.phase }, { on := 5, ground := Ground.phase }, { on := 6, ground := Ground.phase }, { on := 7, ground := Ground.textOnly Departure.appendInPlace }, { on := 8, ground := Ground.textOnly Departure.appendInPlace }], guard := none }) rfl (fun K hK => ?_) ?_
                  · go_simp
                    refine hK.out _ _ (fun he => Bool.noConfusion (show false = true from he)) (fun hE => ?_)
                    clear hK K hE
                    try simp only [Act.put, List.setIfInBounds_toArray, List.set_cons_zero, List.set_cons_succ]
                    refine wpAnyT_done (by kernel_rfl) ?_ _
                    refine NoPanic.normal ?_
                    have ho6 := (HM.out.out.keeps HK5.out (fun h => h)).keeps hk1 HOn.out
                    have hkq6 := keeps_of_app2 hkq hk1 (fun k hk => by have := HUL.out k hk; have := HZ5.out; have := HB6.out; omega) hkp1 (by first | exact fun k o h => heap_up h _ | exact fun k o h => h)
                    have HA := Lib.hid (fin_A (x := x) (A := Ar) (c := cr) hown1 ho6 hg1)
                    have HBB := Lib.hid (fin_B (x := x) (A := Ar) (c := cr) hown1 ho6 hg1)
                    have HNX : Hid (∀ w7, FinP b4 g1 cap1 cur x U (.slice Ar (normP x).args.length cr) w6 w7 → Mp t W G b0 cur (.slice (some ⟨gx, offx, none⟩) cur.args.length c3) vv Q b4 (.slice (some ⟨g1, 0, none⟩) (U.length + 1) cap1) (U ++ [(normP x, .slice Ar (normP x).args.length cr)]) w7) := fun w7 hf =>
                      mp_next HM.out HGW.out hlt HX.out HK5.out (by rw [HZ5.out, HB6.out]) hk1 hkq hTr hkq6 (hat1.imp id (fun h => by have h2 := size_le_of hk1 hkq; (try simp at h); omega)) hf
                    clear ho6 hkq6 hown1 hk1 hkp1 hat1 hkq hTr hkx z0 z1 z2 z3 zf0 zf1 zf2 zf3 y3 yf
                    go_wp2_with fail
                    go_roundw
                    case rel => exact ⟨_, U ++ [(normP x, .slice Ar (normP x).args.length cr)], by simp, by first | exact HNX.out _ HA.out | exact HNX.out _ HBB.out⟩
                    case measure => simp [intOf]; omega
                  exact AllT.nil
                refine AllT.cons (o := { dst := none, op := Op.store 22 (Operand.tmp 45) (Operand.tmp 43), type := 0, pos := "unify.go:330", after := #[{ on := 9, ground := Ground.data }, { on := 6, ground := Ground.data }, { on := 6, ground := Ground.chain }, { on := 8, ground := Ground.textOnly Departure.appendInPlace }, { on := 0, ground := Ground.phase }, { on := 1, ground := Ground.phase }, { on := 2, ground := Ground.phase }, { on := 3, ground := Ground.phase }, { on := 4, ground := Ground.phase }, { on := 5, ground := Ground.phase }, { on := 6, ground := Ground.phase }, { on := 7, ground := Ground.textOnly Departure.appendInPlace }, { on := 8, ground := Ground.textOnly Departure.appendInPlace }], guard := none }) rfl (fun K hK => ?_) ?_
                · go_simp
                  refine hK.out _ _ (fun he => Bool.noConfusion (show false = true from he)) (fun hE => ?_)
                  clear hK K hE
                  try simp only [Act.put, List.setIfInBounds_toArray, List.set_cons_zero, List.set_cons_succ]
                  refine wpAnyT_ready (rs := [8]) (by kernel_rfl) rfl ?_
                  refine AllT.cons (o := { dst := none, op := Op.store 24 (Operand.tmp 44) (Operand.tmp 40), type := 0, pos := "unify.go:330", after := #[{ on := 7, ground := Ground.data }, { on := 3, ground := Ground.data }, { on := 6, ground := Ground.chain }, { on := 0, ground := Ground.phase }, { on := 1, ground := Ground.phase }, { on := 2, ground := Ground.phase }, { on := 3, ground := Ground.phase }, { on := 4, ground := Ground.phase }, { on := 5, ground := Ground.phase }, { on := 6, ground := Ground.phase }, { on := 10, ground := Ground.gcOnly Departure.appendInPlace }], guard := none }) rfl (fun K hK => ?_) ?_
                  · go_simp
                    refine hK.out _ _ (fun he => Bool.noConfusion (show false = true from he)) (fun hE => ?_)
                    clear hK K hE
                    try simp only [Act.put, List.setIfInBounds_toArray, List.set_cons_zero, List.set_cons_succ]
                    refine wpAnyT_done (by kernel_rfl) ?_ _
                    refine NoPanic.normal ?_
                    have ho6 := (HM.out.out.keeps HK5.out (fun h => h)).keeps hk1 HOn.out
                    have hkq6 := keeps_of_app2 hkq hk1 (fun k hk => by have := HUL.out k hk; have := HZ5.out; have := HB6.out; omega) hkp1 (by first | exact fun k o h => heap_up h _ | exact fun k o h => h)
                    have HA := Lib.hid (fin_A (x := x) (A := Ar) (c := cr) hown1 ho6 hg1)
                    have HBB := Lib.hid (fin_B (x := x) (A := Ar) (c := cr) hown1 ho6 hg1)
                    have HNX : Hid (∀ w7, FinP b4 g1 cap1 cur x U (.slice Ar (normP x).args.length cr) w6 w7 → Mp t W G b0 cur (.slice (some ⟨gx, offx, none⟩) cur.args.length c3) vv Q b4 (.slice (some ⟨g1, 0, none⟩) (U.length + 1) cap1) (U ++ [(normP x, .slice Ar (normP x).args.length cr)]) w7) := fun w7 hf =>
                      mp_next HM.out HGW.out hlt HX.out HK5.out (by rw [HZ5.out, HB6.out]) hk1 hkq hTr hkq6 (hat1.imp id (fun h => by have h2 := size_le_of hk1 hkq; (try simp at h); omega)) hf
                    clear ho6 hkq6 hown1 hk1 hkp1 hat1 hkq hTr hkx z0 z1 z2 z3 zf0 zf1 zf2 zf3 y3 yf
                    go_wp2_with fail
                    go_roundw
                    case rel => exact ⟨_, U ++ [(normP x, .slice Ar (normP x).args.length cr)], by simp, by first | exact HNX.out _ HA.out | exact HNX.out _ HBB.out⟩
                    case measure => simp [intOf]; omega
                  exact AllT.nil
                exact AllT.nil
              exact AllT.nil
            exact AllT.nil
          exact AllT.nil
        · have kz : ¬ (U.length : Int) < (cur.args.length : Int) := by omega
          have hul : U.length = cur.args.length := by have := hm.few; omega
          obtain ⟨Av, cv2, rfl⟩ := own_slform hm.own
          obtain ⟨L, hL, hrow⟩ := HRow.out
          rw [rowP_not HK.out, List.append_nil] at hrow
          have hqn : Q.length < 33554433 := by have := HFew.out; have := HN.out; omega
          have HM := Lib.hid hm
          have HUL := Lib.hid hul
          have HL := Lib.hid hL
          have HROW : Hid (rowP t = (L, endT cur)) := hrow
          clear hm hul hL hrow
          go_upto_region 12 with fail
          go_cut [] from 47 to 48 (fun wc => ∃ (gv : Nat) (Q2 : List (Ty × Value)), Q2.length = Q.length ∧ Sp W b0 cur b4 (.slice Ao U.length co) Av L gv Q2 wc)
          case first =>
            by_cases hQ : Q = []
            · have HSP := Lib.hid (sp_nil (Av := Av) HM.out HUL.out hQ HL.out)
              have hQl : Q.length = 0 := by rw [hQ]; rfl
              have HQL := Lib.hid hQl
              have HC := Lib.hid (sortStableNilTy Av cv2 wx)
              rw [← hQl] at HC
              clear hQ hQl
              go_wp2_with ((go_at_call 32; with_reducible refine HC.out.mono ?_); rintro e w1 ⟨rfl, rfl⟩)
              go_meet
              case rel => exact ⟨0, [], HQL.out.symm, HSP.out⟩
            · obtain ⟨g, hgA, hgc⟩ : ∃ g, Av = some ⟨g, 0, none⟩ ∧ cv2 ≤ maxLen := by
                rcases HM.out.own.2 with ⟨_, h⟩ | ⟨g, c, cur', h, _, _, _, h2, _⟩
                · exact absurd (List.eq_nil_of_length_eq_zero h) hQ
                · simp only [Value.slice.injEq, true_and] at h
                  exact ⟨g, h.1, by rw [h.2]; exact h2⟩
              subst hgA
              obtain ⟨d, hd⟩ : ∃ d : Array V4, d = (Q.map pv4).toArray := ⟨_, rfl⟩
              have hdl : d.toList = Q.map pv4 := by rw [hd]
              have hdz : d.size = Q.length := by rw [hd]; simp
              obtain ⟨_, tl, hrw⟩ := Row.of_own (Fm := FmTy) (d := d) HM.out.own (by rw [hdl]) (fun i hi => by
                have h2 : d.toList[i]? = some (pv4 Q[i]) := by rw [hdl, List.getElem?_map, List.getElem?_eq_getElem (by omega)]; rfl
                rw [Stab.list_at hi] at h2
                rw [Option.some.inj h2]
                exact pv4_form (HM.out.each _ (List.getElem_mem (by omega))))
              have hsrt := sortStableTy (W := wx) (cap := cv2) (off := 0) wx cfTy (fun x y X h1 h2 => cmpTy x y X h1 h2) weakTy hrw rfl (by omega)
              rw [hdz] at hsrt
              have HS := Lib.hid hsrt
              have HDL := Lib.hid hdl
              clear hsrt hrw hd hdl hdz hQ
              go_wp2_with ((go_at_call 32; with_reducible refine HS.out.mono ?_); rintro e w1 ⟨rfl, d2, hr2, hz2, hs2⟩)
              rw [HDL.out, nisort_map] at hs2
              have HSP := Lib.hid (sp_sorted HM.out HUL.out HL.out hr2 hs2)
              clear hr2 hs2 hz2
              go_meet
              case rel => exact ⟨g, _, isort_length _, HSP.out⟩
          case rest =>
            clear HM
            obtain ⟨gv, Q2, hql, hs⟩ := hcut
            have HS := Lib.hid hs
            have HQL := Lib.hid hql
            have hwz := hs.out.lt
            have hbb := hs.bb
            clear hs hql
            go_wp2_with ((go_at_call 35; with_reducible refine (backward_any _ _ _ _).mono ?_); rintro e w1 ⟨rfl, rfl⟩)
            obtain ⟨w2, hw2⟩ : ∃ w2, wc.alloc (.cells #[.slice Av Q.length cv2] 22) = w2 := ⟨_, rfl⟩
            have hbx := Blk.new wc 22 [.slice Av Q.length cv2]
            have hk2 : Keeps (fun _ => False) wc w2 := by rw [← hw2]; exact (Keeps.refl _ _).alloc _
            have hz2 : w2.heap.size = wc.heap.size + 1 := by rw [← hw2]; simp
            rw [hw2] at hbx ⊢
            obtain ⟨bs, hbs⟩ : ∃ bs, wc.heap.size = bs := ⟨_, rfl⟩
            simp only [hbs] at hbx hz2 hwz ⊢
            have HBX := Lib.hid hbx
            have HK2 := Lib.hid hk2
            have HZ2 := Lib.hid hz2
            have HBS := Lib.hid hbs
            have HWZ := Lib.hid hwz
            clear hbx hk2 hw2 hz2 hbs hwz
            obtain ⟨vq, hvq⟩ : ∃ vq : Nat → Value, ∀ k p, Q2[k]? = some p → vq k = p.2 := ⟨fun k => ((Q2[k]?).map Prod.snd).getD (.bool false), fun k p h => by simp only [h]; rfl⟩
            obtain ⟨el, hel⟩ : ∃ el : Nat → V4, ∀ k, el k = ⟨.int .i64 0, .string (lk (isort ltL L) k).1, .int .i64 0, vq k⟩ := ⟨_, fun _ => rfl⟩
            have HVQ := Lib.hid hvq
            have HEL := Lib.hid hel
            have HELP : Hid (∀ k p, Q2[k]? = some p → el k = pv4 p) := fun k p hp => by
              have h1 := lk_of HS.out.row hp
              rw [HEL.out k, HVQ.out k p hp]
              unfold pv4
              rw [h1]; rfl
            clear hvq hel
            refine range_box (n := 4) (by omega) (gf := 43) (lb := #[.pointer (some ⟨bs, 0, none⟩)]) rfl (enters_of Tryd.func43 (by kernel_rfl) rfl)
              (e1 := fun x : { i : Nat // i < Q.length } => .int .i64 (x.1 : Int)) (e2 := fun x => .agg #[(el x.1).e0, (el x.1).e1, (el x.1).e2, (el x.1).e3]) (Kp := Keeps (fun i => i = b4 ∨ w2.heap.size ≤ i)) (S := fun xs => xs = bkl Q.length Q.length) (Sp := fun pre => ∃ k, k ≤ Q.length ∧ pre = bkl Q.length k) (N := Q.length) ?seq (fun h k => h.trans k (fun _ _ h => h)) (fun W l o o' h1 h2 _ _ => keeps_putObj W l o o' h1 h2)
              (fun pre W => Ip b0 b4 w2.heap.size (isort ltL L) (endT cur) w2 pre W) (ip_own (by have := HZ2.out; have := HWZ.out; omega)) ?h0 8 24 (fun x => (el x.1).cells) ?assign ?body (fun pre W h => h.keeps.size) ?done
            case seq =>
              intro l J Jx W1 hW1 _ _ hY h0
              refine (back_in 3 l bs gv 0 Q.length cv2 Av (fun h => HS.out.adr (by rw [HQL.out]; exact h)) (by omega) el (Keeps (fun i => i = b4 ∨ w2.heap.size ≤ i)) (fun W => Keeps.refl _ W) (fun h k => h.trans k (fun _ _ h => h)) J Jx hY W1 (fun W' hk => ?_) h0).mono (fun e W' h => h)
              have hz2 := HZ2.out
              have hwz := HWZ.out
              refine ⟨hk.cell ((hW1.cell (p := ⟨bs, 0, none⟩) (show bs < w2.heap.size by omega)).trans (HBX.out.cell (i := 0) rfl)) (fun h => by rcases h with h | h <;> (simp only at h; omega)), fun k hkl => ?_⟩
              have hq : Q2[k]? = some (Q2[k]'(by rw [HQL.out]; exact hkl)) := List.getElem?_eq_getElem _
              have hlow := HS.out.low (by rw [HQL.out]; omega)
              have hg : ∀ j, j < 4 → W'.cell? ⟨gv, k * 4 + j, none⟩ = some ((el k).cell j) := fun j hj => by
                rw [HELP.out k _ hq]
                exact hk.cell ((hW1.cell (p := ⟨gv, k * 4 + j, none⟩) (show gv < w2.heap.size by omega)).trans (HK2.out.cell (HS.out.cells k _ hq j hj) (fun h => h))) (fun h => by rcases h with h | h <;> (simp only at h; omega))
              rw [Nat.zero_add]
              exact ⟨hg 0 (by omega), hg 1 (by omega), hg 2 (by omega), hg 3 (by omega)⟩
            case h0 =>
              have hz2 := HZ2.out
              have hbsz := HBS.out
              exact ⟨⟨_, HS.out.out.keeps HK2.out (fun h => h), (HS.out.ety.keeps HK2.out (fun _ _ h => h)).mono (fun b hb => ⟨⟨by have := hb.1; omega, by have := hb.1; omega⟩, by have := hb.2; omega⟩)⟩, Keeps.refl _ _⟩
            case assign =>
              intro l pre x W1 K hsz hI hK
              have hxl : x.1 < Q2.length := by rw [HQL.out]; exact x.2
              have hq : Q2[x.1]? = some Q2[x.1] := List.getElem?_eq_getElem hxl
              have hT := HS.out.each _ (List.getElem_mem hxl)
              obtain ⟨Ap, cp, hform, _⟩ := hT.form
              have he : el x.1 = ⟨.int .i64 0, .string (lk (isort ltL L) x.1).1, .int .i64 0, .slice Ap Q2[x.1].1.args.length cp⟩ := by rw [HEL.out, HVQ.out _ _ hq, hform]
              have hK2 := hK W1.heap.size (W1.alloc (.cells #[.int .i64 0, .string (lk (isort ltL L) x.1).1, .int .i64 0, .slice Ap Q2[x.1].1.args.length cp] 24)) ((KeepsOthers.alloc _ _).from _) ((Keeps.refl _ _).alloc _) ((ip_own (by have := HZ2.out; have := HWZ.out; omega)).alloc _ hI) hsz (by rw [he]; exact Blk.new W1 _ [_, _, _, _])
              have HK2' := Lib.hid hK2
              clear hK hK2 hT hform hq
              simp only [he] at HK2' ⊢
              clear he
              gi_wp2
              exact HK2'.out
            case body =>
              intro l pre x Bx W1 hI hBx hblk
              have hxl : x.1 < Q2.length := by rw [HQL.out]; exact x.2
              have hq : Q2[x.1]? = some Q2[x.1] := List.getElem?_eq_getElem hxl
              have hT := HS.out.each _ (List.getElem_mem hxl)
              obtain ⟨Ap, cp, hform, _⟩ := hT.form
              have hlab := lk_of HS.out.row hq
              obtain ⟨nm, a, hna⟩ : ∃ nm a, lk (isort ltL L) x.1 = (nm, a) := ⟨_, _, rfl⟩
              have hpl : Q2[x.1].1.args.length = 1 := by rw [hlab, hna]; rfl
              have he : el x.1 = ⟨.int .i64 0, .string nm, .int .i64 0, .slice Ap 1 cp⟩ := by rw [HEL.out, HVQ.out _ _ hq, hform, hpl, hna]
              rw [hform, hpl] at hT
              have hnm : nm.size ≤ maxLen := by have := hT.name; rw [hlab, hna] at this; exact this
              have hTw : Sl W1 (fun b => b0 + 2 ≤ b ∧ b < b4) tyD [a] (.slice Ap 1 cp) := by
                have h1 := ((hT.args.keeps HK2.out (fun _ _ h => h)).keeps hI.keeps (fun i hi h => by have := HZ2.out; have := HWZ.out; omega))
                rw [hlab, hna] at h1
                exact h1
              obtain ⟨gp, offp, va, hadr, hgp, a0, a1, a2, a3, hTa⟩ := tyD.get hTw (i := 0) (by simp)
              obtain rfl := hadr
              simp only [List.getElem_cons_zero, Nat.zero_mul, Nat.add_zero] at a0 a1 a2 a3 hTa
              obtain ⟨Aa, ca, rfl, _⟩ := hTa.form
              obtain ⟨⟨ov', hob, hoT⟩, hIk⟩ := hI
              obtain ⟨r, hr⟩ : ∃ r, outOf (isort ltL L) (endT cur) pre = r := ⟨_, rfl⟩
              rw [hr] at hob hoT
              obtain ⟨Ao', co', rfl, _⟩ := hoT.form
              simp only [he, V4.cells] at hblk
              have x1 := hblk.cell (i := 1) rfl
              have x3 := hblk.cell (i := 3) rfl
              have t0 := hob.cell (i := 0) rfl
              have t1 := hob.cell (i := 1) rfl
              have t2 := hob.cell (i := 2) rfl
              have t3 := hob.cell (i := 3) rfl
              have f0 := hob.free 0
              have f1 := hob.free 1
              have f2 := hob.free 2
              have f3 := hob.free 3
              have hgp4 : gp < b4 := hgp.2
              have hbl := hob.lt
              have hQx : Hid (∀ X, Keeps (fun _ => False) W1 X → (X.cell? ⟨Bx, 1, none⟩ = some (.string nm) ∧ X.cell? ⟨Bx, 3, none⟩ = some (.slice (some ⟨gp, offp, none⟩) 1 cp) ∧ X.cell? ⟨gp, offp, none⟩ = some (.int .i64 a.kind) ∧ X.cell? ⟨gp, offp + 1, none⟩ = some (.string a.name) ∧ X.cell? ⟨gp, offp + 2, none⟩ = some (.int .i64 a.var) ∧ X.cell? ⟨gp, offp + 3, none⟩ = some (.slice Aa a.args.length ca) ∧ X.cell? ⟨b4, 0, none⟩ = some (.int .i64 r.kind) ∧ X.cell? ⟨b4, 1, none⟩ = some (.string r.name) ∧ X.cell? ⟨b4, 2, none⟩ = some (.int .i64 r.var) ∧ X.cell? ⟨b4, 3, none⟩ = some (.slice Ao' r.args.length co'))) := fun X hb =>
                ⟨hb.cell x1 (fun h => h), hb.cell x3 (fun h => h), hb.cell a0 (fun h => h), hb.cell a1 (fun h => h), hb.cell a2 (fun h => h), hb.cell a3 (fun h => h), hb.cell t0 (fun h => h), hb.cell t1 (fun h => h), hb.cell t2 (fun h => h), hb.cell t3 (fun h => h)⟩
              have HEx : Hid (∀ X, Keeps (fun _ => False) W1 X → Calls Tryd.prog 36 #[.string nm, .agg #[.int .i64 a.kind, .string a.name, .int .i64 a.var, .slice Aa a.args.length ca], .agg #[.int .i64 r.kind, .string r.name, .int .i64 r.var, .slice Ao' r.args.length co']] X
                  (fun e w' => ∃ A c, e = .returned (.agg #[.int .i64 5, .string nm, .int .i64 0, .slice A 2 c]) ∧ TyC w' (fun b => (b0 + 2 ≤ b ∧ b ≠ b4) ∧ b < w'.heap.size) (extT nm a r) (.slice A 2 c) ∧ Keeps (fun _ => False) W1 w')) := fun X hk => by
                have hkz := hk.size
                refine (ext_any nm hnm X (fun b => (b0 + 2 ≤ b ∧ b ≠ b4) ∧ b < W1.heap.size) a r _ _ ((hTa.keeps hk (fun _ _ h => h)).mono (fun b hb => ⟨⟨hb.1, by have := hb.2; omega⟩, by have := hb.2; omega⟩)) (hoT.keeps hk (fun _ _ h => h))).mono ?_
                rintro e w' ⟨av, he, hT, hb⟩
                obtain ⟨A, c, rfl, _⟩ := hT.form
                refine ⟨A, c, he, hT.mono (fun b hb' => ?_), hk.trans (Keeps.of_below hb) (fun _ _ h => h)⟩
                have hbz := hb.size
                rcases hb' with h | h
                · exact ⟨h.1, by have := h.2; omega⟩
                · exact ⟨⟨by have := h.1; omega, by have := h.1; omega⟩, h.2⟩
              have HNA := Lib.hid hna
              have HRR := Lib.hid hr
              have HIK := Lib.hid hIk
              have HOB := Lib.hid hob
              have hsx : W1.heap.size = W1.heap.size := rfl
              clear hna hr hIk hob hoT hTa hTw hblk hT hform hlab hpl hq x1 x3 t0 t1 t2 t3 a0 a1 a2 a3 hsx
              have hN4 : b4 < w2.heap.size := by have := HZ2.out; have := HWZ.out; omega
              simp only [he]
              clear he
              refine wpIn_block ?_
              simp only [List.setIfInBounds_toArray, List.set_cons_zero, List.set_cons_succ]
              refine wpIn_region_till [8] (fun X => X.cell? ⟨Bx, 1, none⟩ = some (.string nm) ∧ X.cell? ⟨Bx, 3, none⟩ = some (.slice (some ⟨gp, offp, none⟩) 1 cp) ∧ X.cell? ⟨gp, offp, none⟩ = some (.int .i64 a.kind) ∧ X.cell? ⟨gp, offp + 1, none⟩ = some (.string a.name) ∧ X.cell? ⟨gp, offp + 2, none⟩ = some (.int .i64 a.var) ∧ X.cell? ⟨gp, offp + 3, none⟩ = some (.slice Aa a.args.length ca) ∧ X.cell? ⟨b4, 0, none⟩ = some (.int .i64 r.kind) ∧ X.cell? ⟨b4, 1, none⟩ = some (.string r.name) ∧ X.cell? ⟨b4, 2, none⟩ = some (.int .i64 r.var) ∧ X.cell? ⟨b4, 3, none⟩ = some (.slice Ao' r.args.length co')) (by kernel_rfl) (by kernel_rfl) (fun ⟨_, _, h⟩ => h) ?_ (fun hE => ?_)
              · exact hQx.out _ (by repeat (first | (with_reducible assumption) | (with_reducible exact Keeps.refl _ _) | (with_reducible refine Keeps.drewN ?_ _) | (with_reducible refine Keeps.drew ?_) | with_reducible refine Keeps.setCell ?_ (by first | (intro _; exact rfl) | (intro _; exact Or.inl rfl) | (intro _; exact Or.inr rfl) | (simp; done) | (simp; omega)) _ | (with_reducible refine Keeps.alloc ?_ _)))
              have hS := hE (by kernel_rfl)
              refine wpAnyT_pure (i := 0) (oi := { dst := some 53, op := Op.fieldAddr 24 (Operand.tmp 8) 1, type := 0, pos := "unify.go:334", after := #[], guard := none }) (v := ?v15_0_1) rfl (by kernel_rfl) (fun _ _ _ h => h) (Or.inl ⟨by rfl, ?y15_0_1⟩) (fun _ => hS) ?_
              case y15_0_1 => (intro w hSw; go_simp; try with_reducible rfl)
              try simp only [Act.put, List.setIfInBounds_toArray, List.set_cons_zero, List.set_cons_succ]
              refine wpAnyT_take (i := 1) (oi := { dst := some 54, op := Op.load 9 (Operand.tmp 53), type := 9, pos := "unify.go:334", after := #[{ on := 0, ground := Ground.data }], guard := none }) (v := ?v15_1_2) rfl (by kernel_rfl) (fun _ _ _ h => h) (Or.inl ⟨by rfl, ?y15_1_2⟩) hS ?_
              case y15_1_2 => (intro w hSw; (try dsimp only at hSw); go_simp; try with_reducible rfl)
              try simp only [Act.put, List.setIfInBounds_toArray, List.set_cons_zero, List.set_cons_succ]
              refine wpAnyT_pure (i := 2) (oi := { dst := some 55, op := Op.fieldAddr 24 (Operand.tmp 8) 3, type := 0, pos := "unify.go:334", after := #[], guard := none }) (v := ?v15_2_3) rfl (by kernel_rfl) (fun _ _ _ h => h) (Or.inl ⟨by rfl, ?y15_2_3⟩) (fun _ => hS) ?_
              case y15_2_3 => (intro w hSw; go_simp; try with_reducible rfl)
              try simp only [Act.put, List.setIfInBounds_toArray, List.set_cons_zero, List.set_cons_succ]
              refine wpAnyT_take (i := 3) (oi := { dst := some 56, op := Op.load 22 (Operand.tmp 55), type := 22, pos := "unify.go:334", after := #[{ on := 2, ground := Ground.data }], guard := none }) (v := ?v15_3_4) rfl (by kernel_rfl) (fun _ _ _ h => h) (Or.inl ⟨by rfl, ?y15_3_4⟩) hS ?_
              case y15_3_4 => (intro w hSw; (try dsimp only at hSw); go_simp; try with_reducible rfl)
              try simp only [Act.put, List.setIfInBounds_toArray, List.set_cons_zero, List.set_cons_succ]
              refine wpAnyT_pure (i := 4) (oi := { dst := some 57, op := Op.indexAddr 22 (Operand.tmp 56) (Operand.const (Value.int IntKind.i64 0)), type := 0, pos := "unify.go:334", after := #[{ on := 3, ground := Ground.data }], guard := none }) (v := ?v15_4_5) rfl (by kernel_rfl) (fun _ _ _ h => h) (Or.inl ⟨by rfl, ?y15_4_5⟩) (fun _ => hS) ?_
              case y15_4_5 => (intro w hSw; go_simp; try with_reducible rfl)
              try simp only [Act.put, List.setIfInBounds_toArray, List.set_cons_zero, List.set_cons_succ]
              refine wpAnyT_take (i := 5) (oi := { dst := some 58, op := Op.load 24 (Operand.tmp 57), type := 24, pos := "unify.go:334", after := #[{ on := 4, ground := Ground.data }], guard := none }) (v := ?v15_5_6) rfl (by kernel_rfl) (fun _ _ _ h => h) (Or.inl ⟨by rfl, ?y15_5_6⟩) hS ?_
              case y15_5_6 => (intro w hSw; (try dsimp only at hSw); go_simp; try with_reducible rfl)
              try simp only [Act.put, List.setIfInBounds_toArray, List.set_cons_zero, List.set_cons_succ]
              refine wpAnyT_take (i := 6) (oi := { dst := some 59, op := Op.load 24 (Operand.tmp 4), type := 24, pos := "unify.go:334", after := #[], guard := none }) (v := ?v15_6_7) rfl (by kernel_rfl) (fun _ _ _ h => h) (Or.inl ⟨by rfl, ?y15_6_7⟩) hS ?_
              case y15_6_7 => (intro w hSw; (try dsimp only at hSw); go_simp; try with_reducible rfl)
              try simp only [Act.put, List.setIfInBounds_toArray, List.set_cons_zero, List.set_cons_succ]
              refine wpAnyT_ready (rs := [7]) (by kernel_rfl) rfl ?_
              refine AllT.cons (o := { dst := some 60, op := Op.call { callee := Callee.value (Operand.func 36), args := #[Operand.tmp 54, Operand.tmp 58, Operand.tmp 59], argTypes := #[9, 24, 24] }, type := 24, pos := "unify.go:334", after := #[{ on := 1, ground := Ground.data }, { on := 5, ground := Ground.data }, { on := 6, ground := Ground.data }], guard := none }) rfl (fun K hK => ?_) ?_
              · (go_simp; go_at_call 36; with_reducible refine (HEx.out _ (by repeat (first | (with_reducible assumption) | (with_reducible exact Keeps.refl _ _) | (with_reducible refine Keeps.drewN ?_ _) | (with_reducible refine Keeps.drew ?_) | with_reducible refine Keeps.setCell ?_ (by first | (intro _; exact rfl) | (intro _; exact Or.inl rfl) | (intro _; exact Or.inr rfl) | (simp; done) | (simp; omega)) _ | (with_reducible refine Keeps.alloc ?_ _)))).mono ?_; rintro e wq ⟨Ar, cr, rfl, hTr, hkq⟩; have qf0 := hkq.frozen f0 hbl (fun h => h); have qf1 := hkq.frozen f1 hbl (fun h => h); have qf2 := hkq.frozen f2 hbl (fun h => h); have qf3 := hkq.frozen f3 hbl (fun h => h); go_wp2_with fail)
                refine hK.out _ _ (fun _ => ?_) (fun hE => ?_)
                · exact hQx.out _ (by repeat (first | (with_reducible assumption) | (with_reducible exact Keeps.refl _ _) | (with_reducible refine Keeps.drewN ?_ _) | (with_reducible refine Keeps.drew ?_) | with_reducible refine Keeps.setCell ?_ (by first | (intro _; exact rfl) | (intro _; exact Or.inl rfl) | (intro _; exact Or.inr rfl) | (simp; done) | (simp; omega)) _ | (with_reducible refine Keeps.alloc ?_ _)))
                have hS := hE (by kernel_rfl)
                clear hK K hE
                try simp only [Act.put, List.setIfInBounds_toArray, List.set_cons_zero, List.set_cons_succ]
                refine wpAnyT_ready (rs := [8]) (by kernel_rfl) rfl ?_
                refine AllT.cons (o := { dst := none, op := Op.store 24 (Operand.tmp 4) (Operand.tmp 60), type := 0, pos := "unify.go:334", after := #[{ on := 7, ground := Ground.data }, { on := 7, ground := Ground.chain }, { on := 0, ground := Ground.phase }, { on := 1, ground := Ground.phase }, { on := 2, ground := Ground.phase }, { on := 3, ground := Ground.phase }, { on := 4, ground := Ground.phase }, { on := 5, ground := Ground.phase }, { on := 6, ground := Ground.phase }, { on := 7, ground := Ground.phase }], guard := none }) rfl (fun K hK => ?_) ?_
                · go_simp
                  refine hK.out _ _ (fun he => Bool.noConfusion (show false = true from he)) (fun hE => ?_)
                  clear hK K hE
                  try simp only [Act.put, List.setIfInBounds_toArray, List.set_cons_zero, List.set_cons_succ]
                  refine wpAnyT_done (by kernel_rfl) ?_ _
                  refine NoPanic.normal ?_
                  obtain ⟨hB4, hK4⟩ := four (HOB.out.keeps hkq (fun h => h)) (.int .i64 5) (.string nm) (.int .i64 0) (.slice Ar 2 cr)
                  have hz4 := hK4.size
                  have hzq := hkq.size
                  have hkf : KeepsFrom w2.heap.size W1 wq := ⟨hkq.size, fun k o _ h _ => hkq.heap h (fun h => h)⟩
                  have hout : outOf (isort ltL L) (endT cur) (pre ++ [x]) = extT nm a r := by
                    unfold outOf
                    rw [List.foldl_append]
                    show extT _ _ (outOf _ _ pre) = _
                    rw [HNA.out, HRR.out]
                  refine ⟨hkf.trans (((((KeepsOthers.setCell _ _ _).trans (KeepsOthers.setCell _ _ _)).trans (KeepsOthers.setCell _ _ _)).trans (KeepsOthers.setCell _ _ _)).from _), (hkq.mono (fun _ _ h => h.elim)).trans hK4 (fun i _ h => .inl h), ⟨⟨.slice Ar 2 cr, ?_, ?_⟩, HIK.out.trans ((hkq.mono (fun _ _ h => h.elim)).trans hK4 (Y := (· = b4)) (X := fun i => i = b4 ∨ w2.heap.size ≤ i) (fun i _ h => .inl h)) (fun i _ h => h)⟩⟩
                  · rw [hout]; exact hB4
                  · rw [hout]; exact (hTr.keeps hK4 (fun i hi h => hi.1.2 h)).mono (fun b hb => ⟨hb.1, by have := hb.2; omega⟩)
                exact AllT.nil
              exact AllT.nil
            case done =>
              intro D xs W1 hD hS1 hI hK
              subst hS1
              obtain ⟨⟨ov', hob, hoT⟩, hIk⟩ := hI
              have hfin : outOf (isort ltL L) (endT cur) (bkl Q.length Q.length) = normP t := by
                have hl2 : (isort ltL L).length = Q.length := by
                  have := congrArg List.length HS.out.row
                  rw [List.length_map, List.length_map, HQL.out] at this
                  exact this.symm
                unfold outOf lk
                rw [foldl_bkl hl2 (⟨#[]⟩, .mk 0 ⟨#[]⟩ 0 []) (fun x out => extT x.1 x.2 out) (endT cur) Q.length (Nat.le_refl _), Nat.sub_self, List.drop_zero]
                unfold normP
                rw [HROW.out]; rfl
              rw [hfin] at hob hoT
              obtain ⟨r, hr⟩ : ∃ r, normP t = r := ⟨_, rfl⟩
              rw [hr] at hob hoT
              obtain ⟨Ao', co', rfl, _⟩ := hoT.form
              have hz2 := HZ2.out
              have hwz := HWZ.out
              have hbr := (HS.out.res.keeps HK2.out (fun h => h)).keeps hIk (by omega)
              have t0 := hob.cell (i := 0) rfl
              have t1 := hob.cell (i := 1) rfl
              have t2 := hob.cell (i := 2) rfl
              have t3 := hob.cell (i := 3) rfl
              have r0 := hbr.cell (i := 0) rfl
              have r1 := hbr.cell (i := 1) rfl
              have r2 := hbr.cell (i := 2) rfl
              have r3 := hbr.cell (i := 3) rfl
              have f0 := hbr.free 0
              have f1 := hbr.free 1
              have f2 := hbr.free 2
              have f3 := hbr.free 3
              obtain ⟨hB4, hK4⟩ := four hbr (.int .i64 r.kind) (.string r.name) (.int .i64 r.var) (.slice Ao' r.args.length co')
              have hD4 := (((((KeepsOthers.setCell W1 ⟨b0 + 1, 0, none⟩ (.int .i64 r.kind)).trans (KeepsOthers.setCell _ ⟨b0 + 1, 1, none⟩ (.string r.name))).trans (KeepsOthers.setCell _ ⟨b0 + 1, 2, none⟩ (.int .i64 r.var))).trans (KeepsOthers.setCell _ ⟨b0 + 1, 3, none⟩ (.slice Ao' r.args.length co'))).same D _ hK rfl)
              have hlast := norm_last (HS.out.keeps) HK2.out hIk hK4 hB4 hD4 (hoT.keeps hK4 (fun i hi h => by have := hi.1.1; omega)) hbb (by omega) HB0.out (by omega)
              have HLAST := Lib.hid hlast
              have HD4 := Lib.hid hD4
              have HRR := Lib.hid hr
              clear hlast hD4 hr hB4 hK4 hbr hob hoT hIk hK hfin hz2 hwz
              go_wp2
              refine ⟨by simp, .inl ⟨_, _, rfl, run_takeDeferred HD4.out, ?_⟩⟩
              exact ⟨_, results_cell_row Tryd.results22 _ _ _ _ _ (0, 0) _ rfl HLAST.out.1 Tryd.underlying24 rfl (by kernel_rfl), by rw [HRR.out]; exact HLAST.out.2⟩
theorem norm_all (t : Ty) : NormAt t := by
  obtain ⟨n, hn⟩ : ∃ n, nodes t = n := ⟨_, rfl⟩
  induction n using Nat.strongRecOn generalizing t with
  | _ n ih => exact norm_step t (fun a ha => ih (nodes a) (by omega) a rfl)
end Go.Proofs.YthchnabhbpdfgaaDoor
