/- iface.types: all types of an interface. -/
import Derived.Test.YtcbkihplchdhhaaDoorIfY
namespace Go.Proofs.YtcbkihplchdhhaaDoor
open Go.RowKit Go.Shelf

section
variable {P : Program} {W0 w : World}
/-- As step_append_kept2, of m elements. -/
theorem step_append_kept_m {ops : Array Oper} {o : Oper} {a : Act} {K : Act → World → Prop} {Q : Exit → Act → World → Prop} {E : Prop} (hgd : o.guard = none) (s x : Operand) (t : TypeId)
    (ho : o.op = .call { callee := .builtin .append, args := #[s, x], argTypes := #[t, t] })
    (base : Nat) (e : TypeId) (i : TypeInfo) (z : Value) (size bytes : Nat) (ht : P.underlying t = some (.slice e)) (hi : P.info? e = some i) (hz : i.zero = some z)
    (hsize : i.size = size) (hby : i.bytes = bytes) (hzs : z.cells.size = size) (hsz : 0 < size)
    (v : Value) (n : Nat) (xs : List Value) (hs : a.eval s = v) (hown : W0.ownsRow base e size v n xs) (hk : Keeps (fun _ => False) W0 w)
    (g0 m c : Nat) (news : Array Value) (hx : a.eval x = .slice (some ⟨g0, 0, none⟩) m c) (hm : 0 < m) (hl : news.size = m * size) (hnews : w.heap[g0]? = some (.cells news e (0, 0))) (h1 : ∀ u ∈ news.toList, u.oneCell' = true)
    (h63 : n + m ≤ maxLen) (hbytes : (n + m) * bytes ≤ 140737488355328) (hbase : base ≤ W0.heap.size)
    (h : ∀ g cap w', w'.ownsRow base e size (.slice (some ⟨g, 0, none⟩) (n + m) cap) (n + m) (xs ++ news.toList) → Keeps (fun k => v.ownBlock = some k) W0 w' → (∀ k o, w.heap[k]? = some o → ¬ v.ownBlock = some k → w'.heap[k]? = some o) → (v.ownBlock = some g ∨ w.heap.size ≤ g) →
      K (a.put o.dst (.slice (some ⟨g, 0, none⟩) (n + m) cap)) w') :
    if Region.wanted o (yielded ops a.tmps) = true then Oper.wp P o a w K Q else E := by
  have hw := own_keeps hown hk (fun _ _ h => h)
  refine step_append_lies _ hgd s x t ho base e i z size bytes ht hi hz hsize hby hzs hsz v n xs hs hw ⟨g0, 0, none⟩ m c news.toList hx (by rw [Array.length_toList, hl]) (World.news_of_block (cs := news) (t := e) (fr := (0, 0)) hnews) h1 hm h63 hbytes (Nat.le_trans hbase hk.size) _ rfl ?_
  intro g cap w' hown1 hgrow hat _
  exact h g cap w' hown1 ((hk.mono (fun _ _ h => h.elim)).grown hgrow (fun j hj _ => hj)) (fun k ob hko hne => (hgrow.block k (heap_lt hko) (fun e => hne e.symm)).trans hko) (hat.imp id fun e => by rw [e]; exact Nat.le_refl _)
end
namespace If
theorem four_cellsM {W : World} {B : Nat} {te : TypeId} {g n m cap : Nat} {xs ys : List Value} {a b c d : Value} (h : W.ownsRow B te 4 (.slice (some ⟨g, 0, none⟩) n cap) n (xs ++ [a, b, c, d] ++ ys)) (hx : xs.length = m) :
    W.cell? ⟨g, m, none⟩ = some a ∧ W.cell? ⟨g, m + 1, none⟩ = some b ∧ W.cell? ⟨g, m + 2, none⟩ = some c ∧ W.cell? ⟨g, m + 3, none⟩ = some d ∧ True := by
  subst hx
  have hl : (xs ++ [a, b, c, d] ++ ys).length = n * 4 := h.1
  simp only [List.length_append, List.length_cons, List.length_nil] at hl
  have e : ∀ j, j < 4 → (xs ++ [a, b, c, d] ++ ys)[xs.length + j]? = [a, b, c, d][j]? := fun j hj => by
    rw [List.append_assoc, List.getElem?_append_right (by omega), List.getElem?_append_left (by simp only [List.length_cons, List.length_nil]; omega)]
    congr 1; omega
  refine ⟨?_, ?_, ?_, ?_, trivial⟩
  · have := e 0 (by omega); rw [h.cellAt _ (by omega)]; exact this
  · rw [h.cellAt _ (by omega), e 1 (by omega)]; rfl
  · rw [h.cellAt _ (by omega), e 2 (by omega)]; rfl
  · rw [h.cellAt _ (by omega), e 3 (by omega)]; rfl
section
variable {β γ : Type}
theorem fl_take (g : β → List γ) (l : List β) (j : Nat) (h : j < l.length) : (l.take (j + 1)).flatMap g = (l.take j).flatMap g ++ g l[j] := by
  rw [List.take_succ_eq_append_getElem h, List.flatMap_append]; simp
theorem fl_le (g : β → List γ) (l : List β) (j : Nat) (h : j < l.length) : ((l.take j).flatMap g).length + (g l[j]).length ≤ (l.flatMap g).length := by
  have h1 : l.flatMap g = (l.take (j + 1)).flatMap g ++ (l.drop (j + 1)).flatMap g := by rw [← List.flatMap_append, List.take_append_drop]
  rw [h1, fl_take g l j h]
  simp only [List.length_append]; omega
end
theorem tyc_back {F X : Nat → Prop} {W W' : World} {t : Ty} {av : Value} (h : TyC W' F t av) (hk : Keeps X W W') (hF : ∀ i, F i → i < W.heap.size ∧ ¬ X i) : TyC W F t av :=
  ⟨h.kind, h.name, h.var, Rp.frame (fun _ h => h) (fun g off u hg hc => by rw [← hc]; exact (World.cell?_of_block (hk.block g (hF g hg).1 (hF g hg).2)).symm) _ _ h.args⟩
/-- The list so far holds the types X. -/
def TS (F : Nat → Prop) (Wd : World) (B bo : Nat) (v : Value) (W : World) (X : List Ty) (w : World) : Prop := ∃ U, U.map Prod.fst = X ∧ Good Wd F U ∧ TTo B bo v W U w
theorem TS.keeps {F : Nat → Prop} {Wd : World} {B bo : Nat} {v : Value} {W w : World} {X : List Ty} (h : TS F Wd B bo v W X w) : Keeps (Own2 bo v) W w := by
  obtain ⟨U, _, _, h3⟩ := h; exact h3.keeps
theorem TS.rebase {F : Nat → Prop} {Wd : World} {B bo : Nat} {v : Value} {W w W1 : World} {X : List Ty} (h : TS F Wd B bo v W X w) (hk : Keeps (fun _ => False) w W1) (hB : B ≤ bo) :
    ∃ v1 U, U.map Prod.fst = X ∧ Good Wd F U ∧ TAt W1 B bo v1 U ∧ (∀ Y w', TS F Wd B bo v1 W1 Y w' → TS F Wd B bo v W Y w') ∧ (∀ i, Own2 bo v1 i → i < w.heap.size) ∧ (∀ i, Own2 bo v1 i → B ≤ i) := by
  obtain ⟨U, h1, h2, h3⟩ := h
  obtain ⟨v1, t1, g1, g2, g3⟩ := h3.rebase hk hB
  exact ⟨v1, U, h1, h2, t1, fun Y w' ⟨V, q1, q2, q3⟩ => ⟨V, q1, q2, g1 w' V q3⟩, g2, g3⟩
theorem TAt.ts {F : Nat → Prop} {Wd W : World} {B bo : Nat} {v : Value} {U : List (Ty × Value)} (h : TAt W B bo v U) (hg : Good Wd F U) : TS F Wd B bo v W (U.map Prod.fst) W := ⟨U, rfl, hg, h.to⟩
theorem Good.app {F : Nat → Prop} {W : World} {U V : List (Ty × Value)} (h : Good W F U) (h' : Good W F V) : Good W F (U ++ V) := fun p hp => by
  rcases List.mem_append.1 hp with hp | hp
  · exact h p hp
  · exact h' p hp
theorem good_one {F : Nat → Prop} {W : World} {t : Ty} {v : Value} (h : TyC W F t v) : Good W F [(t, v)] := fun p hp => by
  rw [List.mem_singleton] at hp; subst hp; exact h
theorem good_two {F : Nat → Prop} {W : World} {t s : Ty} {v u : Value} (h : TyC W F t v) (h' : TyC W F s u) : Good W F [(t, v), (s, u)] := fun p hp => by
  rcases List.mem_cons.1 hp with hp | hp
  · subst hp; exact h
  · rw [List.mem_singleton] at hp; subst hp; exact h'
theorem news_pairs {F : Nat → Prop} {W : World} : ∀ (l : List Ty) (news : List Value), RpAll W F (l.map tyD) news → ∃ V, V.map Prod.fst = l ∧ Good W F V ∧ news = flatU V
  | [], news, h => ⟨[], rfl, (fun p hp => by cases hp), by simpa [RpAll, flatU] using h⟩
  | t :: l, news, h => by
    rw [List.map_cons, rpAll_cons] at h
    obtain ⟨a, b, rfl, h1, h2⟩ := h
    obtain ⟨av, rfl, hT⟩ := tyD.rp.1 h1
    obtain ⟨V, q1, q2, rfl⟩ := news_pairs l b h2
    refine ⟨(t, av) :: V, by rw [List.map_cons, q1], fun p hp => ?_, by simp [flatU]⟩
    rcases List.mem_cons.1 hp with hp | hp
    · subst hp; exact hT
    · exact q2 p hp
/-- The types of an interface, in the order of the walk. -/
def dataT (d : DataSig) : List Ty := d.cons.flatMap ConSig.args
def valT (o : ValSig) : List Ty := schemeP o.ty o.preds
def classT (c : ClassSig) : List Ty := c.ops.flatMap valT
def opT (o : OpSig) : List Ty := [o.arg, o.res]
def instT (x : InstSig) : List Ty := x.head :: x.preds.map Pred.ty
def typesP (f : Iface) : List Ty := f.datas.flatMap dataT ++ f.classes.flatMap classT ++ f.ops.flatMap opT ++ f.vals.flatMap valT ++ f.insts.flatMap instT
theorem rpAll_flatU {w : World} {F : Nat → Prop} : ∀ {U : List (Ty × Value)}, Good w F U → RpAll w F ((U.map Prod.fst).map tyD) (flatU U)
  | [], _ => by simp [RpAll, flatU]
  | p :: U, h => by
    have h1 : flatU (p :: U) = p.1.cells p.2 ++ flatU U := by simp [flatU]
    rw [h1, List.map_cons, List.map_cons, rpAll_cons]
    exact ⟨_, _, rfl, tyD.rp.2 ⟨p.2, rfl, h p List.mem_cons_self⟩, rpAll_flatU (fun q hq => h q (List.mem_cons_of_mem _ hq))⟩
set_option maxRecDepth 100000 in
set_option maxHeartbeats 64000000 in
theorem types_any (W : World) (f : Iface) (F : Nat → Prop) (cs : List Value) (h : Rp W F f.d cs) (hF : ∀ b, F b → b < W.heap.size) (hn : (typesP f).length ≤ 4194304) :
    Calls Tryd.prog 27 #[.agg cs.toArray] W (fun e w' => ∃ v, e = .returned v ∧ Sl w' (fun b => b < w'.heap.size) tyD (typesP f) v ∧ Keeps (fun _ => False) W w') := by
  obtain ⟨it, hi0, hz0, hz1, hz2⟩ := info_parts infoTyU
  obtain ⟨v1, v2, v3, v4, v5, v6, v7, rfl, -, s1, s2, s3, s4, s5, s6, s7⟩ := Iface.rp.1 h
  obtain ⟨A1, q1, rfl, hq, hm, -⟩ := s1.form
  have l1 : f.imports.length ≤ 9223372036854775807 := by unfold maxLen at hm; omega
  clear hm hq
  obtain ⟨A2, q2, rfl, hq, hm, -⟩ := s2.form
  have l2 : f.fixes.length ≤ 9223372036854775807 := by unfold maxLen at hm; omega
  clear hm hq
  obtain ⟨A3, q3, rfl, hq, hm, -⟩ := s3.form
  have l3 : f.datas.length ≤ 9223372036854775807 := by unfold maxLen at hm; omega
  clear hm hq
  obtain ⟨A4, q4, rfl, hq, hm, -⟩ := s4.form
  have l4 : f.classes.length ≤ 9223372036854775807 := by unfold maxLen at hm; omega
  clear hm hq
  obtain ⟨A5, q5, rfl, hq, hm, -⟩ := s5.form
  have l5 : f.insts.length ≤ 9223372036854775807 := by unfold maxLen at hm; omega
  clear hm hq
  obtain ⟨A6, q6, rfl, hq, hm, -⟩ := s6.form
  have l6 : f.ops.length ≤ 9223372036854775807 := by unfold maxLen at hm; omega
  clear hm hq
  obtain ⟨A7, q7, rfl, hq, hm, -⟩ := s7.form
  have l7 : f.vals.length ≤ 9223372036854775807 := by unfold maxLen at hm; omega
  clear hm hq
  obtain ⟨B, hB⟩ : ∃ B, W.heap.size = B := ⟨_, rfl⟩
  obtain ⟨bo, hbo⟩ : ∃ bo, B + 1 = bo := ⟨_, rfl⟩
  obtain ⟨W0, hW0⟩ : ∃ W0, (W.alloc (.cells #[.string f.module, .slice A1 f.imports.length q1, .slice A2 f.fixes.length q2, .slice A3 f.datas.length q3, .slice A4 f.classes.length q4, .slice A5 f.insts.length q5, .slice A6 f.ops.length q6, .slice A7 f.vals.length q7] 33)).alloc (.cells #[.slice none 0 0] 45) = W0 := ⟨_, rfl⟩
  have hkw : Keeps (fun _ => False) W W0 := by rw [← hW0]; exact ((Keeps.refl _ _).alloc _).alloc _
  have hbx : Blk W0 B 33 [.string f.module, .slice A1 f.imports.length q1, .slice A2 f.fixes.length q2, .slice A3 f.datas.length q3, .slice A4 f.classes.length q4, .slice A5 f.insts.length q5, .slice A6 f.ops.length q6, .slice A7 f.vals.length q7] := by rw [← hW0, ← hB]; exact (Blk.new W _ [_, _, _, _, _, _, _, _]).alloc _
  have hbb : Blk W0 bo 45 [.slice none 0 0] := by
    rw [← hW0, ← hbo, ← hB]
    have := Blk.new (W.alloc (.cells #[.string f.module, .slice A1 f.imports.length q1, .slice A2 f.fixes.length q2, .slice A3 f.datas.length q3, .slice A4 f.classes.length q4, .slice A5 f.insts.length q5, .slice A6 f.ops.length q6, .slice A7 f.vals.length q7] 33)) 45 [.slice none 0 0]
    simpa using this
  have hz0' : W0.heap.size = B + 2 := by rw [← hW0, ← hB]; simp
  have hOw : ∀ i, Own2 bo (.slice none 0 0) i → i = bo := fun i hi => by
    rcases hi with h | h
    · exact h
    · cases h
  have t0 : TAt W0 B bo (.slice none 0 0) [] := ⟨hbb, ⟨rfl, .inl ⟨rfl, rfl⟩⟩⟩
  have HS : Hid (TS F W0 B bo (.slice none 0 0) W0 [] W0) := t0.ts (fun p hp => by cases hp)
  have HBx : Hid (∀ X w, TS F W0 B bo (.slice none 0 0) W0 X w → Blk w B 33 [.string f.module, .slice A1 f.imports.length q1, .slice A2 f.fixes.length q2, .slice A3 f.datas.length q3, .slice A4 f.classes.length q4, .slice A5 f.insts.length q5, .slice A6 f.ops.length q6, .slice A7 f.vals.length q7]) := fun X w hX => hbx.keeps hX.keeps (fun h => by have := hOw B h; omega)
  have HF : Hid (∀ i, F i → i < B) := fun i hi => by have := hF i hi; omega
  have HFar : Hid (∀ i, F i → ¬ Own2 bo (.slice none 0 0) i) := fun i hi h => by have := hF i hi; have := hOw i h; omega
  have HFb : Hid (∀ i, F i → i < W0.heap.size ∧ ¬ Own2 bo (.slice none 0 0) i) := fun i hi => ⟨by have := hF i hi; omega, HFar.out i hi⟩
  have HB : Hid (B ≤ bo) := by show _ ≤ _; omega
  have HEnd : Hid (∀ w, Keeps (Own2 bo (.slice none 0 0)) W0 w → Keeps (fun _ => False) W w) := fun w hk => hkw.trans hk (fun i hi h => by have := hOw i h; omega)
  have HDa := Lib.hid (s3.keeps hkw (fun _ _ h => h))
  have HCl := Lib.hid (s4.keeps hkw (fun _ _ h => h))
  have HIn := Lib.hid (s5.keeps hkw (fun _ _ h => h))
  have HOp := Lib.hid (s6.keeps hkw (fun _ _ h => h))
  have HVa := Lib.hid (s7.keeps hkw (fun _ _ h => h))
  obtain ⟨XD, hXD⟩ : ∃ X, f.datas.flatMap dataT = X := ⟨_, rfl⟩
  obtain ⟨XC, hXC⟩ : ∃ X, f.classes.flatMap classT = X := ⟨_, rfl⟩
  obtain ⟨XO, hXO⟩ : ∃ X, f.ops.flatMap opT = X := ⟨_, rfl⟩
  obtain ⟨XV, hXV⟩ : ∃ X, f.vals.flatMap valT = X := ⟨_, rfl⟩
  obtain ⟨XI, hXI⟩ : ∃ X, f.insts.flatMap instT = X := ⟨_, rfl⟩
  have HX : Hid (typesP f = XD ++ XC ++ XO ++ XV ++ XI) := by show _ = _; rw [← hXD, ← hXC, ← hXO, ← hXV, ← hXI]; rfl
  rw [HX.out] at hn
  simp only [List.length_append] at hn
  have HN := Lib.hid hn
  have HXD := Lib.hid hXD
  have HXC := Lib.hid hXC
  have HXO := Lib.hid hXO
  have HXV := Lib.hid hXV
  have HXI := Lib.hid hXI
  have HW0 := Lib.hid hW0
  have HBe := Lib.hid hB
  have HBo := Lib.hid hbo
  clear h hF hn s1 s2 s3 s4 s5 s6 s7 hB hbo hW0 hkw hbx hbb hz0' hOw t0 hXD hXC hXO hXV hXI
  have x3 := (HBx.out _ _ HS.out).cell (i := 3) rfl
  go_enter Tryd.func27, Tryd.ntmps27
  go_upto_region 2 with (fail)
  rw [HW0.out, HBe.out, HBo.out]
  go_wp2_with fail
  go_loopw [25] (fun i wr => ∃ j : Nat, j ≤ f.datas.length ∧ .int .i64 (j : Int) = i ∧ Hid (TS F W0 B bo (.slice none 0 0) W0 ((f.datas.take j).flatMap dataT) wr)) (fun i _ => f.datas.length - (intOf i).toNat)
  case atStart => exact ⟨0, Nat.zero_le _, rfl, by exact HS.out⟩
  case round =>
    obtain ⟨j, hj, rfl, hT⟩ := hrel
    by_cases hlt : j < f.datas.length
    · have hft := fl_take dataT f.datas j hlt
      have hfl := fl_le dataT f.datas j hlt
      obtain ⟨gg, off, va2, hA, hgF, da0, da1, da2, sa0, sa1, sa2⟩ := DataSig.get HDa.out hlt
      obtain ⟨x, hxa⟩ : ∃ y, f.datas[j] = y := ⟨_, rfl⟩
      rw [hxa] at hft hfl da0 da1 sa2
      obtain ⟨Aa2, qa2, rfl, hqa2, hma2, -⟩ := sa2.form
      have hla2 : x.cons.length ≤ 9223372036854775807 := by unfold maxLen at hma2; omega
      clear hma2 hqa2
      subst hA
      have hfar : ¬ Own2 bo (.slice none 0 0) gg := HFar.out gg hgF
      have ca0 := (hT.out).keeps.cell da0 hfar
      have ca1 := (hT.out).keeps.cell da1 hfar
      have ca2 := (hT.out).keeps.cell da2 hfar
      clear da0 da1 da2 sa0 sa1 hfar hgF
      obtain ⟨ba, hba⟩ : ∃ b, wr.heap.size = b := ⟨_, rfl⟩
      obtain ⟨Wa, hWa⟩ : ∃ w, wr.alloc (.cells #[.string x.name, .int .i64 x.params, .slice Aa2 x.cons.length qa2] 54) = w := ⟨_, rfl⟩
      have hkw : Keeps (fun _ => False) wr Wa := by rw [← hWa]; exact (Keeps.refl _ _).alloc _
      have hbxa : Blk Wa ba 54 [.string x.name, .int .i64 x.params, .slice Aa2 x.cons.length qa2] := by rw [← hWa, ← hba]; exact Blk.new wr _ [_, _, _]
      obtain ⟨va, Ua, hUa, hGa, ta, hupa, hlta, hloa⟩ := hT.out.rebase hkw HB.out
      have hnta : ¬ Own2 bo va ba := fun h => by have := hlta ba h; omega
      have hKda : Keeps (Own2 bo (.slice none 0 0)) W0 Wa := (hT.out).keeps.trans hkw (fun _ _ h => h.elim)
      have HKda := Lib.hid hKda
      have hBW : B ≤ Wa.heap.size := Nat.le_trans HB.out (Nat.le_of_lt (ta.lt bo (.inl rfl)))
      have HUpa := Lib.hid hupa
      have HLoa := Lib.hid hloa
      have hUla : Ua.length = ((f.datas.take j).flatMap dataT).length := by rw [← hUa, List.length_map]
      have HWa := Lib.hid hWa
      have HBba := Lib.hid hba
      clear hkw hupa hlta hloa hKda hWa hba
      have Hsa2 := Lib.hid sa2
      clear sa2
      have k0 : (0 : Int) ≤ (j : Int) := by omega
      have k1 : (j : Int) < (f.datas.length : Int) := by omega
      have HBxa : Hid (∀ Y w', TS F W0 B bo va Wa Y w' → Blk w' ba 54 [.string x.name, .int .i64 x.params, .slice Aa2 x.cons.length qa2]) := fun Y w' hX => hbxa.keeps hX.keeps hnta
      have HTa : Hid (TS F W0 B bo va Wa ((f.datas.take j).flatMap dataT) Wa) := by have h := ta.ts hGa; rw [hUa] at h; exact h
      clear hbxa hnta ta hGa hUa hUla hBW
      rw [HXD.out] at hfl
      have HFt := Lib.hid hft
      have HFl1 := Lib.hid hfl
      clear hft hfl hxa
      go_upto_region 6 with (fail)
      rw [HWa.out, HBba.out]
      clear ca0 ca1 ca2
      have y2 := (HBxa.out _ _ HTa.out).cell (i := 2) rfl
      clear k0 k1
      go_wp2_with fail
      go_loopw [32] (fun i wr => ∃ k : Nat, k ≤ x.cons.length ∧ .int .i64 (k : Int) = i ∧ Hid (TS F W0 B bo va Wa ((f.datas.take j).flatMap dataT ++ (x.cons.take k).flatMap ConSig.args) wr)) (fun i _ => x.cons.length - (intOf i).toNat)
      case atStart => exact ⟨0, Nat.zero_le _, rfl, by rw [List.take_zero, List.flatMap_nil, List.append_nil]; exact HTa.out⟩
      case round =>
        obtain ⟨k, hj2, rfl, hT⟩ := hrel
        by_cases hlt : k < x.cons.length
        · have hft := fl_take ConSig.args x.cons k hlt
          have hfl := fl_le ConSig.args x.cons k hlt
          obtain ⟨gg, off, vb1, hA, hgF, db0, db1, sb0, sb1⟩ := ConSig.get Hsa2.out hlt
          obtain ⟨y, hxb⟩ : ∃ y, x.cons[k] = y := ⟨_, rfl⟩
          rw [hxb] at hft hfl db0 sb1
          obtain ⟨Ab1, qb1, rfl, hqb1, hmb1, -⟩ := sb1.form
          have hlb1 : y.args.length ≤ 9223372036854775807 := by unfold maxLen at hmb1; omega
          clear hmb1 hqb1
          subst hA
          have hfar : ¬ Own2 bo (.slice none 0 0) gg := HFar.out gg hgF
          have cb0 := ((HUpa.out _ _ hT.out)).keeps.cell db0 hfar
          have cb1 := ((HUpa.out _ _ hT.out)).keeps.cell db1 hfar
          clear db0 db1 sb0 hfar hgF
          obtain ⟨bb, hbb⟩ : ∃ b, wr.heap.size = b := ⟨_, rfl⟩
          obtain ⟨Wb, hWb⟩ : ∃ w, wr.alloc (.cells #[.string y.name, .slice Ab1 y.args.length qb1] 56) = w := ⟨_, rfl⟩
          have hkw : Keeps (fun _ => False) wr Wb := by rw [← hWb]; exact (Keeps.refl _ _).alloc _
          have hbxb : Blk Wb bb 56 [.string y.name, .slice Ab1 y.args.length qb1] := by rw [← hWb, ← hbb]; exact Blk.new wr _ [_, _]
          obtain ⟨vb, Ub, hUb, hGb, tb, hupb, hltb, hlob⟩ := hT.out.rebase hkw HB.out
          have hntb : ¬ Own2 bo vb bb := fun h => by have := hltb bb h; omega
          have hKdb : Keeps (Own2 bo (.slice none 0 0)) W0 Wb := ((HUpa.out _ _ hT.out)).keeps.trans hkw (fun _ _ h => h.elim)
          have HKdb := Lib.hid hKdb
          have hBW : B ≤ Wb.heap.size := Nat.le_trans HB.out (Nat.le_of_lt (tb.lt bo (.inl rfl)))
          have HUpb := Lib.hid hupb
          have HLob := Lib.hid hlob
          have hUlb : Ub.length = ((f.datas.take j).flatMap dataT ++ (x.cons.take k).flatMap ConSig.args).length := by rw [← hUb, List.length_map]
          have HWb := Lib.hid hWb
          have HBbb := Lib.hid hbb
          clear hkw hupb hltb hlob hKdb hWb hbb
          have Hsb1 := Lib.hid sb1
          clear sb1
          have k0 : (0 : Int) ≤ (k : Int) := by omega
          have k1 : (k : Int) < (x.cons.length : Int) := by omega
          have hub : Ub.length + y.args.length ≤ 4194304 := by
            have h1 := HFl1.out
            have h2 := HN.out
            rw [show dataT x = x.cons.flatMap ConSig.args from rfl] at h1
            rw [hUlb, List.length_append]; omega
          obtain ⟨nU, hnU⟩ : ∃ nU, Ub.length = nU := ⟨_, rfl⟩
          have hown := tb.row
          rw [hnU] at hown
          rw [hnU] at hub
          obtain ⟨A0, c0, rfl⟩ := row_form hown
          have z1 := tb.box.cell (i := 0) rfl
          have z2 := hbxb.cell (i := 1) rfl
          have hargs := Hsb1.out.keeps HKdb.out HFar.out
          have HOwn := Lib.hid hown
          have HAr := Lib.hid hargs
          have HBW := Lib.hid hBW
          have HPut : Hid (∀ (v3 : Value) (w3 : World) (news : List Value), RpAll Wb F (y.args.map tyD) news → w3.ownsRow B 47 4 v3 (nU + y.args.length) (flatU Ub ++ news) → Wb.grownBy w3 (Value.slice A0 nU c0).ownBlock → (v3.ownBlock = (Value.slice A0 nU c0).ownBlock ∨ v3.ownBlock = some Wb.heap.size) → Blk w3 bo 45 [.slice A0 nU c0] ∧ TS F W0 B bo va Wa ((f.datas.take j).flatMap dataT ++ (x.cons.take (k + 1)).flatMap ConSig.args) (w3.setCell ⟨bo, 0, none⟩ v3)) := fun v3 w3 news q1 q2 q3 q4 => by
            have hk3 : Keeps (fun i => (Value.slice A0 nU c0).ownBlock = some i) Wb w3 := (Keeps.refl _ _).grown q3 (fun i hi _ => hi)
            have hb3 := tb.box.keeps hk3 tb.nV
            have hk4 : Keeps (· = bo) w3 (w3.setCell ⟨bo, 0, none⟩ v3) := (Keeps.refl (· = bo) w3).setCell (p := ⟨bo, 0, none⟩) (fun _ => rfl) _
            obtain ⟨V, g1, g2, rfl⟩ := news_pairs _ _ q1
            have hVl : V.length = y.args.length := by rw [← g1, List.length_map]
            refine ⟨hb3, HUpb.out _ _ ⟨Ub ++ V, ?_, hGb.app (fun p hp => tyc_back (g2 p hp) HKdb.out HFb.out), v3, ⟨hb3.set_ 0 _, ?_⟩, (hk3.mono (Y := Own2 bo (.slice A0 nU c0)) (fun i _ hi => .inr hi)).trans hk4 (fun i _ e => .inl e), fun i hi => ?_⟩⟩
            · rw [List.map_append, hUb, g1, hft, List.append_assoc]
            · rw [List.length_append, hnU, hVl, flatU_app]
              exact own_keeps q2 hk4 (fun i hi e => own_ne_blk q2 hb3 (by decide) (by rw [hi, e]))
            · rcases hi with e | e
              · exact .inl (.inl e)
              · rcases q4 with h1 | h1
                · exact .inl (.inr (by rw [← h1]; exact e))
                · rw [h1] at e
                  cases e
                  exact .inr (Nat.le_refl _)
          have kq : nU + y.args.length ≤ 4194304 := hub
          have HQ1 : Hid (nU + y.args.length ≤ maxLen) := by show _ ≤ _; unfold maxLen; omega
          have HQ2 : Hid ((nU + y.args.length) * 56 ≤ 140737488355328) := by show _ ≤ _; omega
          clear hown hargs tb hGb hUb hUlb hntb hbxb hft hfl hub hBW hxb hnU
          go_upto_region 9 with (fail)
          rw [HWb.out, HBbb.out]
          clear cb0 cb1
          clear k0 k1
          go_wp2_with (at_builtin; go_loud (refine wpList_append_sl _ rfl _ _ 45 rfl B 47 it _ 4 56 Tryd.underlying45 hi0 hz0 hz1 hz2 rfl (by decide) (.slice A0 nU c0) nU (flatU Ub) rfl HOwn.out tyD tyD.wide F y.args _ _ _ rfl HAr.out HQ1.out HQ2.out HBW.out ?_; intro v3 w3 news q1 q2 q3 q4; obtain ⟨A3, c3, rfl⟩ := row_form q2; obtain ⟨hb3, hts⟩ := HPut.out _ _ _ q1 q2 q3 q4; have z3 := hb3.cell (i := 0) rfl; have z4 := hb3.free 0; have HTS := Lib.hid hts; clear q1 q2 q3 q4 hb3 hts))
          go_roundw
          case rel => exact ⟨k + 1, by omega, by go_num, HTS.out⟩
          case measure => simp [intOf]; omega
        · obtain rfl : k = x.cons.length := by omega
          have k1 : ¬ ((x.cons.length : Nat) : Int) < (x.cons.length : Int) := by omega
          rw [List.take_of_length_le (Nat.le_refl _)] at hT
          have HTS : Hid (TS F W0 B bo (.slice none 0 0) W0 ((f.datas.take (j + 1)).flatMap dataT) wr) := by
            have h := HUpa.out _ _ hT.out
            show TS _ _ _ _ _ _ _ _
            rw [HFt.out]
            exact h
          clear hT
          go_wp2_with fail
          go_roundw
          case rel => exact ⟨j + 1, by omega, by go_num, HTS.out⟩
          case measure => simp [intOf]; omega
    · obtain rfl : j = f.datas.length := by omega
      have k1 : ¬ ((f.datas.length : Nat) : Int) < (f.datas.length : Int) := by omega
      rw [List.take_of_length_le (Nat.le_refl _), HXD.out] at hT
      have HS1 := Lib.hid hT.out
      have x4 := (HBx.out _ _ hT.out).cell (i := 4) rfl
      clear hT hlt hj
      go_wp2_with fail
      go_loopw [45] (fun i wr => ∃ j : Nat, j ≤ f.classes.length ∧ .int .i64 (j : Int) = i ∧ Hid (TS F W0 B bo (.slice none 0 0) W0 (XD ++ (f.classes.take j).flatMap classT) wr)) (fun i _ => f.classes.length - (intOf i).toNat)
      case atStart => exact ⟨0, Nat.zero_le _, rfl, by rw [List.take_zero, List.flatMap_nil, List.append_nil]; exact HS1.out⟩
      case round =>
        obtain ⟨j, hj, rfl, hT⟩ := hrel
        by_cases hlt : j < f.classes.length
        · have hft := fl_take classT f.classes j hlt
          have hfl := fl_le classT f.classes j hlt
          obtain ⟨gg, off, va1, va2, hA, hgF, da0, da1, da2, sa0, sa1, sa2⟩ := ClassSig.get HCl.out hlt
          obtain ⟨x, hxa⟩ : ∃ y, f.classes[j] = y := ⟨_, rfl⟩
          rw [hxa] at hft hfl da0 sa1 sa2
          obtain ⟨Aa1, qa1, rfl, hqa1, hma1, -⟩ := sa1.form
          have hla1 : x.super.length ≤ 9223372036854775807 := by unfold maxLen at hma1; omega
          clear hma1 hqa1
          obtain ⟨Aa2, qa2, rfl, hqa2, hma2, -⟩ := sa2.form
          have hla2 : x.ops.length ≤ 9223372036854775807 := by unfold maxLen at hma2; omega
          clear hma2 hqa2
          subst hA
          have hfar : ¬ Own2 bo (.slice none 0 0) gg := HFar.out gg hgF
          have ca0 := (hT.out).keeps.cell da0 hfar
          have ca1 := (hT.out).keeps.cell da1 hfar
          have ca2 := (hT.out).keeps.cell da2 hfar
          clear da0 da1 da2 sa0 hfar hgF
          obtain ⟨ba, hba⟩ : ∃ b, wr.heap.size = b := ⟨_, rfl⟩
          obtain ⟨Wa, hWa⟩ : ∃ w, wr.alloc (.cells #[.string x.name, .slice Aa1 x.super.length qa1, .slice Aa2 x.ops.length qa2] 74) = w := ⟨_, rfl⟩
          have hkw : Keeps (fun _ => False) wr Wa := by rw [← hWa]; exact (Keeps.refl _ _).alloc _
          have hbxa : Blk Wa ba 74 [.string x.name, .slice Aa1 x.super.length qa1, .slice Aa2 x.ops.length qa2] := by rw [← hWa, ← hba]; exact Blk.new wr _ [_, _, _]
          obtain ⟨va, Ua, hUa, hGa, ta, hupa, hlta, hloa⟩ := hT.out.rebase hkw HB.out
          have hnta : ¬ Own2 bo va ba := fun h => by have := hlta ba h; omega
          have hKda : Keeps (Own2 bo (.slice none 0 0)) W0 Wa := (hT.out).keeps.trans hkw (fun _ _ h => h.elim)
          have HKda := Lib.hid hKda
          have hBW : B ≤ Wa.heap.size := Nat.le_trans HB.out (Nat.le_of_lt (ta.lt bo (.inl rfl)))
          have HUpa := Lib.hid hupa
          have HLoa := Lib.hid hloa
          have hUla : Ua.length = (XD ++ (f.classes.take j).flatMap classT).length := by rw [← hUa, List.length_map]
          have HWa := Lib.hid hWa
          have HBba := Lib.hid hba
          clear hkw hupa hlta hloa hKda hWa hba
          have Hsa1 := Lib.hid sa1
          clear sa1
          have Hsa2 := Lib.hid sa2
          clear sa2
          have k0 : (0 : Int) ≤ (j : Int) := by omega
          have k1 : (j : Int) < (f.classes.length : Int) := by omega
          have HBxa : Hid (∀ Y w', TS F W0 B bo va Wa Y w' → Blk w' ba 74 [.string x.name, .slice Aa1 x.super.length qa1, .slice Aa2 x.ops.length qa2]) := fun Y w' hX => hbxa.keeps hX.keeps hnta
          have HTa : Hid (TS F W0 B bo va Wa (XD ++ (f.classes.take j).flatMap classT) Wa) := by have h := ta.ts hGa; rw [hUa] at h; exact h
          clear hbxa hnta ta hGa hUa hUla hBW
          rw [HXC.out] at hfl
          have HFt := Lib.hid hft
          have HFl1 := Lib.hid hfl
          clear hft hfl hxa
          go_upto_region 15 with (fail)
          rw [HWa.out, HBba.out]
          clear ca0 ca1 ca2
          have y2 := (HBxa.out _ _ HTa.out).cell (i := 2) rfl
          clear k0 k1
          go_wp2_with fail
          go_loopw [52] (fun i wr => ∃ k : Nat, k ≤ x.ops.length ∧ .int .i64 (k : Int) = i ∧ Hid (TS F W0 B bo va Wa (XD ++ (f.classes.take j).flatMap classT ++ (x.ops.take k).flatMap valT) wr)) (fun i _ => x.ops.length - (intOf i).toNat)
          case atStart => exact ⟨0, Nat.zero_le _, rfl, by rw [List.take_zero, List.flatMap_nil, List.append_nil]; exact HTa.out⟩
          case round =>
            obtain ⟨k, hj2, rfl, hT⟩ := hrel
            by_cases hlt : k < x.ops.length
            · have hft := fl_take valT x.ops k hlt
              have hfl := fl_le valT x.ops k hlt
              obtain ⟨gg, off, vb2, vb3, hA, hgF, db0, db1, db2, db3, db4, db5, db6, sb0, sb1, sb2, sb3⟩ := ValSig.get Hsa2.out hlt
              obtain ⟨y, hxb⟩ : ∃ y, x.ops[k] = y := ⟨_, rfl⟩
              rw [hxb] at hft hfl db0 db1 db3 db4 db5 sb2 sb3
              obtain ⟨Ab2, qb2, rfl, hqb2, hmb2, -⟩ := sb2.form
              have hlb2 : y.preds.length ≤ 9223372036854775807 := by unfold maxLen at hmb2; omega
              clear hmb2 hqb2
              obtain ⟨Ab3, qb3, rfl, -, -, -⟩ := sb3.form
              subst hA
              have hfar : ¬ Own2 bo (.slice none 0 0) gg := HFar.out gg hgF
              have cb0 := ((HUpa.out _ _ hT.out)).keeps.cell db0 hfar
              have cb1 := ((HUpa.out _ _ hT.out)).keeps.cell db1 hfar
              have cb2 := ((HUpa.out _ _ hT.out)).keeps.cell db2 hfar
              have cb3 := ((HUpa.out _ _ hT.out)).keeps.cell db3 hfar
              have cb4 := ((HUpa.out _ _ hT.out)).keeps.cell db4 hfar
              have cb5 := ((HUpa.out _ _ hT.out)).keeps.cell db5 hfar
              have cb6 := ((HUpa.out _ _ hT.out)).keeps.cell db6 hfar
              clear db0 db1 db2 db3 db4 db5 db6 sb0 sb1 hfar hgF
              obtain ⟨bb, hbb⟩ : ∃ b, wr.heap.size = b := ⟨_, rfl⟩
              obtain ⟨Wb, hWb⟩ : ∃ w, wr.alloc (.cells #[.string y.name, .int .i64 y.vars, .slice Ab2 y.preds.length qb2, .int .i64 y.ty.kind, .string y.ty.name, .int .i64 y.ty.var, .slice Ab3 y.ty.args.length qb3] 61) = w := ⟨_, rfl⟩
              have hkw : Keeps (fun _ => False) wr Wb := by rw [← hWb]; exact (Keeps.refl _ _).alloc _
              have hbxb : Blk Wb bb 61 [.string y.name, .int .i64 y.vars, .slice Ab2 y.preds.length qb2, .int .i64 y.ty.kind, .string y.ty.name, .int .i64 y.ty.var, .slice Ab3 y.ty.args.length qb3] := by rw [← hWb, ← hbb]; exact Blk.new wr _ [_, _, _, _, _, _, _]
              obtain ⟨vb, Ub, hUb, hGb, tb, hupb, hltb, hlob⟩ := hT.out.rebase hkw HB.out
              have hntb : ¬ Own2 bo vb bb := fun h => by have := hltb bb h; omega
              have hKdb : Keeps (Own2 bo (.slice none 0 0)) W0 Wb := ((HUpa.out _ _ hT.out)).keeps.trans hkw (fun _ _ h => h.elim)
              have HKdb := Lib.hid hKdb
              have hBW : B ≤ Wb.heap.size := Nat.le_trans HB.out (Nat.le_of_lt (tb.lt bo (.inl rfl)))
              have HUpb := Lib.hid hupb
              have HLob := Lib.hid hlob
              have hUlb : Ub.length = (XD ++ (f.classes.take j).flatMap classT ++ (x.ops.take k).flatMap valT).length := by rw [← hUb, List.length_map]
              have HWb := Lib.hid hWb
              have HBbb := Lib.hid hbb
              clear hkw hupb hltb hlob hKdb hWb hbb
              have Hsb2 := Lib.hid sb2
              clear sb2
              have Hsb3 := Lib.hid sb3
              clear sb3
              have k0 : (0 : Int) ≤ (k : Int) := by omega
              have k1 : (k : Int) < (x.ops.length : Int) := by omega
              have hub : Ub.length + 1 + y.preds.length ≤ 4194304 := by
                have h1 := HFl1.out
                have h2 := HN.out
                have h3 : (valT y).length = 1 + y.preds.length := by unfold valT schemeP; rw [List.length_cons, List.length_map]; omega
                rw [show classT x = x.ops.flatMap valT from rfl] at h1
                rw [hUlb, List.length_append, List.length_append]; omega
              have HRel : Hid (∀ (w5 : World) (V : List (Ty × Value)), V.map Prod.fst = schemeP y.ty y.preds → Good Wb F V → TTo B bo vb Wb (Ub ++ V) w5 → TS F W0 B bo va Wa (XD ++ (f.classes.take j).flatMap classT ++ (x.ops.take (k + 1)).flatMap valT) w5) := fun w5 V g1 g2 g3 =>
                HUpb.out _ _ ⟨Ub ++ V, by rw [List.map_append, hUb, g1, hft, List.append_assoc]; rfl, hGb.app (fun p hp => tyc_back (g2 p hp) HKdb.out HFb.out), g3⟩
              have z1 := hbxb.cell (i := 1) rfl
              have z2 := hbxb.cell (i := 2) rfl
              have z3 := hbxb.cell (i := 3) rfl
              have z4 := hbxb.cell (i := 4) rfl
              have z5 := hbxb.cell (i := 5) rfl
              have z6 := hbxb.cell (i := 6) rfl
              have HSc := Lib.hid (scheme_any Wb F B bo vb Ub HF.out HB.out Wb HLob.out tb.to y.vars y.preds _ y.ty _ (Hsb2.out.keeps HKdb.out HFar.out) (Hsb3.out.keeps HKdb.out HFar.out) hub)
              clear tb hGb hUb hUlb hntb hbxb hft hfl hub hBW hxb
              go_upto_region 18 with (fail)
              rw [HWb.out, HBbb.out]
              clear cb0 cb1 cb2 cb3 cb4 cb5 cb6
              clear k0 k1
              go_wp2_with fail
              refine HSc.out.mono ?_
              rintro e w5 ⟨rfl, V, g1, g2, g3⟩
              have HTS := Lib.hid (HRel.out _ _ g1 g2 g3)
              clear g1 g2 g3 HSc HRel
              go_wp2_with fail
              go_roundw
              case rel => exact ⟨k + 1, by omega, by go_num, HTS.out⟩
              case measure => simp [intOf]; omega
            · obtain rfl : k = x.ops.length := by omega
              have k1 : ¬ ((x.ops.length : Nat) : Int) < (x.ops.length : Int) := by omega
              rw [List.take_of_length_le (Nat.le_refl _)] at hT
              have HTS : Hid (TS F W0 B bo (.slice none 0 0) W0 (XD ++ (f.classes.take (j + 1)).flatMap classT) wr) := by
                have h := HUpa.out _ _ hT.out
                show TS _ _ _ _ _ _ _ _
                rw [HFt.out, ← List.append_assoc]
                exact h
              clear hT
              go_wp2_with fail
              go_roundw
              case rel => exact ⟨j + 1, by omega, by go_num, HTS.out⟩
              case measure => simp [intOf]; omega
        · obtain rfl : j = f.classes.length := by omega
          have k1 : ¬ ((f.classes.length : Nat) : Int) < (f.classes.length : Int) := by omega
          rw [List.take_of_length_le (Nat.le_refl _), HXC.out] at hT
          have HS2 := Lib.hid hT.out
          have x6 := (HBx.out _ _ hT.out).cell (i := 6) rfl
          clear hT hlt hj
          go_wp2_with fail
          go_loopw [65] (fun i wr => ∃ j : Nat, j ≤ f.ops.length ∧ .int .i64 (j : Int) = i ∧ Hid (TS F W0 B bo (.slice none 0 0) W0 (XD ++ XC ++ (f.ops.take j).flatMap opT) wr)) (fun i _ => f.ops.length - (intOf i).toNat)
          case atStart => exact ⟨0, Nat.zero_le _, rfl, by rw [List.take_zero, List.flatMap_nil, List.append_nil]; exact HS2.out⟩
          case round =>
            obtain ⟨j, hj, rfl, hT⟩ := hrel
            by_cases hlt : j < f.ops.length
            · have hft := fl_take opT f.ops j hlt
              have hfl := fl_le opT f.ops j hlt
              obtain ⟨gg, off, va2, va3, hA, hgF, da0, da1, da2, da3, da4, da5, da6, da7, da8, da9, sa0, sa1, sa2, sa3⟩ := OpSig.get HOp.out hlt
              obtain ⟨x, hxa⟩ : ∃ y, f.ops[j] = y := ⟨_, rfl⟩
              rw [hxa] at hft hfl da0 da1 da2 da3 da4 da6 da7 da8 sa2 sa3
              obtain ⟨Aa2, qa2, rfl, -, -, -⟩ := sa2.form
              obtain ⟨Aa3, qa3, rfl, -, -, -⟩ := sa3.form
              subst hA
              have hfar : ¬ Own2 bo (.slice none 0 0) gg := HFar.out gg hgF
              have ca0 := (hT.out).keeps.cell da0 hfar
              have ca1 := (hT.out).keeps.cell da1 hfar
              have ca2 := (hT.out).keeps.cell da2 hfar
              have ca3 := (hT.out).keeps.cell da3 hfar
              have ca4 := (hT.out).keeps.cell da4 hfar
              have ca5 := (hT.out).keeps.cell da5 hfar
              have ca6 := (hT.out).keeps.cell da6 hfar
              have ca7 := (hT.out).keeps.cell da7 hfar
              have ca8 := (hT.out).keeps.cell da8 hfar
              have ca9 := (hT.out).keeps.cell da9 hfar
              clear da0 da1 da2 da3 da4 da5 da6 da7 da8 da9 sa0 sa1 hfar hgF
              obtain ⟨ba, hba⟩ : ∃ b, wr.heap.size = b := ⟨_, rfl⟩
              obtain ⟨Wa, hWa⟩ : ∃ w, wr.alloc (.cells #[.string x.name, .string x.effect, .int .i64 x.arg.kind, .string x.arg.name, .int .i64 x.arg.var, .slice Aa2 x.arg.args.length qa2, .int .i64 x.res.kind, .string x.res.name, .int .i64 x.res.var, .slice Aa3 x.res.args.length qa3] 82) = w := ⟨_, rfl⟩
              have hkw : Keeps (fun _ => False) wr Wa := by rw [← hWa]; exact (Keeps.refl _ _).alloc _
              have hbxa : Blk Wa ba 82 [.string x.name, .string x.effect, .int .i64 x.arg.kind, .string x.arg.name, .int .i64 x.arg.var, .slice Aa2 x.arg.args.length qa2, .int .i64 x.res.kind, .string x.res.name, .int .i64 x.res.var, .slice Aa3 x.res.args.length qa3] := by rw [← hWa, ← hba]; exact Blk.new wr _ [_, _, _, _, _, _, _, _, _, _]
              obtain ⟨va, Ua, hUa, hGa, ta, hupa, hlta, hloa⟩ := hT.out.rebase hkw HB.out
              have hnta : ¬ Own2 bo va ba := fun h => by have := hlta ba h; omega
              have hKda : Keeps (Own2 bo (.slice none 0 0)) W0 Wa := (hT.out).keeps.trans hkw (fun _ _ h => h.elim)
              have HKda := Lib.hid hKda
              have hBW : B ≤ Wa.heap.size := Nat.le_trans HB.out (Nat.le_of_lt (ta.lt bo (.inl rfl)))
              have HUpa := Lib.hid hupa
              have HLoa := Lib.hid hloa
              have hUla : Ua.length = (XD ++ XC ++ (f.ops.take j).flatMap opT).length := by rw [← hUa, List.length_map]
              have HWa := Lib.hid hWa
              have HBba := Lib.hid hba
              clear hkw hupa hlta hloa hKda hWa hba
              have Hsa2 := Lib.hid sa2
              clear sa2
              have Hsa3 := Lib.hid sa3
              clear sa3
              have k0 : (0 : Int) ≤ (j : Int) := by omega
              have k1 : (j : Int) < (f.ops.length : Int) := by omega
              rw [HXO.out] at hfl
              have hub : Ua.length + 2 ≤ 4194304 := by
                have h2 := HN.out
                have h3 : (opT x).length = 2 := rfl
                rw [hUla, List.length_append, List.length_append]; omega
              have HRel : Hid (∀ X', TTo B bo va Wa (Ua ++ [(x.arg, .slice Aa2 x.arg.args.length qa2), (x.res, .slice Aa3 x.res.args.length qa3)]) X' → TS F W0 B bo (.slice none 0 0) W0 (XD ++ XC ++ (f.ops.take (j + 1)).flatMap opT) X') := fun X' hX =>
                HUpa.out _ _ ⟨Ua ++ [(x.arg, .slice Aa2 x.arg.args.length qa2), (x.res, .slice Aa3 x.res.args.length qa3)], by rw [List.map_append, hUa, hft, ← List.append_assoc]; rfl, hGa.app (good_two Hsa2.out Hsa3.out), hX⟩
              obtain ⟨nU, hnU⟩ : ∃ nU, Ua.length = nU := ⟨_, rfl⟩
              have hown := ta.row
              rw [hnU] at hown
              obtain ⟨A0, c0, rfl⟩ := row_form hown
              have HFl : Hid ((flatU Ua).length = nU * 4) := by show _ = _; rw [flatU_len, hnU]
              have HMq : Hid (nU + 2 ≤ maxLen) := by show _ ≤ _; unfold maxLen; omega
              have HBq : Hid ((nU + 2) * 56 ≤ 140737488355328) := by show _ ≤ _; omega
              have HBZ := Lib.hid hBW
              have HOwn := Lib.hid hown
              have HBo : Hid (∀ X, Keeps (fun i => (Value.slice A0 nU c0).ownBlock = some i) Wa X → Blk X bo 45 [(Value.slice A0 nU c0)]) := fun X hk => ta.box.keeps hk ta.nV
              have HNg : Hid (∀ g, ((Value.slice A0 nU c0).ownBlock = some g ∨ Wa.heap.size ≤ g) → ¬ g = bo) := fun g hg e => by
                subst e
                rcases hg with h | h
                · exact ta.nV h
                · have := ta.box.lt; omega
              have HPut : Hid (∀ (w3 : World) (g1 cap1 : Nat), Keeps (fun i => (Value.slice A0 nU c0).ownBlock = some i ∨ i = bo ∨ i = g1) Wa w3 → Blk w3 bo 45 [.slice (some ⟨g1, 0, none⟩) (nU + 2) cap1] → w3.ownsRow B 47 4 (.slice (some ⟨g1, 0, none⟩) (nU + 2) cap1) (nU + 2) (flatU Ua ++ [.int .i64 x.arg.kind, .string x.arg.name, .int .i64 x.arg.var, .slice Aa2 x.arg.args.length qa2, .int .i64 x.res.kind, .string x.res.name, .int .i64 x.res.var, .slice Aa3 x.res.args.length qa3]) → ((Value.slice A0 nU c0).ownBlock = some g1 ∨ Wa.heap.size ≤ g1) → TTo B bo (Value.slice A0 nU c0) Wa (Ua ++ [(x.arg, .slice Aa2 x.arg.args.length qa2), (x.res, .slice Aa3 x.res.args.length qa3)]) w3) := fun w3 g1 cap1 q1 q2 q3 q4 => by
                subst hnU
                refine ta.put [(x.arg, .slice Aa2 x.arg.args.length qa2), (x.res, .slice Aa3 x.res.args.length qa3)] (.inr (q1.mono (fun i _ hi => ?_))) q2 (by rw [show flatU [(x.arg, .slice Aa2 x.arg.args.length qa2), (x.res, .slice Aa3 x.res.args.length qa3)] = [.int .i64 x.arg.kind, .string x.arg.name, .int .i64 x.arg.var, .slice Aa2 x.arg.args.length qa2, .int .i64 x.res.kind, .string x.res.name, .int .i64 x.res.var, .slice Aa3 x.res.args.length qa3] from rfl]; exact q3) q4
                rcases hi with h | h | h
                · exact .inl (.inr h)
                · exact .inl (.inl h)
                · subst h
                  exact q4.imp .inr id
              have hQ : Hid (∀ X, Keeps (fun i => (Value.slice A0 nU c0).ownBlock = some i) Wa X → (X.cell? ⟨bo, 0, none⟩ = some ((Value.slice A0 nU c0)) ∧ X.cell? ⟨ba, 2, none⟩ = some (.int .i64 x.arg.kind) ∧ X.cell? ⟨ba, 3, none⟩ = some (.string x.arg.name) ∧ X.cell? ⟨ba, 4, none⟩ = some (.int .i64 x.arg.var) ∧ X.cell? ⟨ba, 5, none⟩ = some (.slice Aa2 x.arg.args.length qa2) ∧ X.cell? ⟨ba, 6, none⟩ = some (.int .i64 x.res.kind) ∧ X.cell? ⟨ba, 7, none⟩ = some (.string x.res.name) ∧ X.cell? ⟨ba, 8, none⟩ = some (.int .i64 x.res.var) ∧ X.cell? ⟨ba, 9, none⟩ = some (.slice Aa3 x.res.args.length qa3))) := fun X hk => by
                have hx := ta.box.keeps hk ta.nV
                have hy := hbxa.keeps hk (fun e => hnta (.inr e))
                exact ⟨hx.cell (i := 0) rfl, hy.cell (i := 2) rfl, hy.cell (i := 3) rfl, hy.cell (i := 4) rfl, hy.cell (i := 5) rfl, hy.cell (i := 6) rfl, hy.cell (i := 7) rfl, hy.cell (i := 8) rfl, hy.cell (i := 9) rfl⟩
              have kn0 : (0 : Int) ≤ (nU : Int) := by omega
              have kn1 : (nU : Int) < (nU : Int) + 2 := by omega
              have kn2 : (nU : Int) + 1 < (nU : Int) + 2 := by omega
              have kn3 : (nU : Int) ≤ 4194304 := by omega
              have kn4 : IntKind.i64.wrap ((nU : Int) + 1) = (nU : Int) + 1 := by rw [IntKind.wrap_i64]; omega
              have kn5 : ((nU : Int) + 1).toNat * 4 = nU * 4 + 4 := by omega
              have kn6 : (0 : Int) ≤ (nU : Int) + 1 := by omega
              clear ta hGa hUa hUla hnta hbxa hft hfl hub hBW hxa hown hnU
              go_upto_region 24 with (fail)
              rw [HWa.out, HBba.out]
              clear ca0 ca1 ca2 ca3 ca4 ca5 ca6 ca7 ca8 ca9
              clear k0 k1
              refine wp_region_noPanic ?_
              refine wp_region_till [9, 12, 13] (fun X => X.cell? ⟨bo, 0, none⟩ = some ((Value.slice A0 nU c0)) ∧ X.cell? ⟨ba, 2, none⟩ = some (.int .i64 x.arg.kind) ∧ X.cell? ⟨ba, 3, none⟩ = some (.string x.arg.name) ∧ X.cell? ⟨ba, 4, none⟩ = some (.int .i64 x.arg.var) ∧ X.cell? ⟨ba, 5, none⟩ = some (.slice Aa2 x.arg.args.length qa2) ∧ X.cell? ⟨ba, 6, none⟩ = some (.int .i64 x.res.kind) ∧ X.cell? ⟨ba, 7, none⟩ = some (.string x.res.name) ∧ X.cell? ⟨ba, 8, none⟩ = some (.int .i64 x.res.var) ∧ X.cell? ⟨ba, 9, none⟩ = some (.slice Aa3 x.res.args.length qa3)) (by kernel_rfl) ?_ (fun hE => ?_)
              · first | exact hQ.out _ hk1 | exact hQ.out _ (Keeps.mono (show Keeps (fun _ => False) Wa _ from (by repeat (first | (with_reducible exact Keeps.refl _ _) | (with_reducible assumption) | (with_reducible refine Keeps.drew ?_) | (with_reducible refine Keeps.drewN ?_ _) | (with_reducible refine Keeps.alloc ?_ _) | (with_reducible refine Keeps.trans ?_ (by assumption) (fun _ _ h => h))))) (fun _ _ h => h.elim))
              have hS := hE (by kernel_rfl)
              refine wpAnyT_take (i := 0) (oi := { dst := some 69, op := Op.load 45 (Operand.tmp 3), type := 45, pos := "iface.go:127", after := #[], guard := none }) (v := ?v24_0_1) rfl (by kernel_rfl) (fun _ _ _ h => h) (Or.inl ⟨by rfl, ?y24_0_1⟩) hS ?_
              case y24_0_1 => (intro w hSw; (try dsimp only at hSw); go_simp; try with_reducible rfl)
              try simp only [Act.put, List.setIfInBounds_toArray, List.set_cons_zero, List.set_cons_succ]
              refine wpAnyT_pure (i := 1) (oi := { dst := some 70, op := Op.fieldAddr 82 (Operand.tmp 14) 2, type := 0, pos := "iface.go:127", after := #[], guard := none }) (v := ?v24_1_2) rfl (by kernel_rfl) (fun _ _ _ h => h) (Or.inl ⟨by rfl, ?y24_1_2⟩) (fun _ => hS) ?_
              case y24_1_2 => (intro w hSw; go_simp; try with_reducible rfl)
              try simp only [Act.put, List.setIfInBounds_toArray, List.set_cons_zero, List.set_cons_succ]
              refine wpAnyT_take (i := 2) (oi := { dst := some 71, op := Op.load 47 (Operand.tmp 70), type := 47, pos := "iface.go:127", after := #[⟨1, .data⟩], guard := none }) (v := ?v24_2_3) rfl (by kernel_rfl) (fun _ _ _ h => h) (Or.inl ⟨by rfl, ?y24_2_3⟩) hS ?_
              case y24_2_3 => (intro w hSw; (try dsimp only at hSw); go_simp; try with_reducible rfl)
              try simp only [Act.put, List.setIfInBounds_toArray, List.set_cons_zero, List.set_cons_succ]
              refine wpAnyT_pure (i := 3) (oi := { dst := some 72, op := Op.fieldAddr 82 (Operand.tmp 14) 3, type := 0, pos := "iface.go:127", after := #[], guard := none }) (v := ?v24_3_4) rfl (by kernel_rfl) (fun _ _ _ h => h) (Or.inl ⟨by rfl, ?y24_3_4⟩) (fun _ => hS) ?_
              case y24_3_4 => (intro w hSw; go_simp; try with_reducible rfl)
              try simp only [Act.put, List.setIfInBounds_toArray, List.set_cons_zero, List.set_cons_succ]
              refine wpAnyT_take (i := 4) (oi := { dst := some 73, op := Op.load 47 (Operand.tmp 72), type := 47, pos := "iface.go:127", after := #[⟨3, .data⟩], guard := none }) (v := ?v24_4_5) rfl (by kernel_rfl) (fun _ _ _ h => h) (Or.inl ⟨by rfl, ?y24_4_5⟩) hS ?_
              case y24_4_5 => (intro w hSw; (try dsimp only at hSw); go_simp; try with_reducible rfl)
              try simp only [Act.put, List.setIfInBounds_toArray, List.set_cons_zero, List.set_cons_succ]
              refine wpAnyT_pure (i := 5) (oi := { dst := some 74, op := Op.call { callee := Callee.builtin Builtin.len, args := #[Operand.tmp 69], argTypes := #[45] }, type := 3, pos := "iface.go:127", after := #[⟨0, .data⟩], guard := none }) (v := ?v24_5_6) rfl (by kernel_rfl) (fun _ _ _ h => h) (Or.inl ⟨by rfl, ?y24_5_6⟩) (fun _ => hS) ?_
              case y24_5_6 => (intro w hSw; go_simp; try with_reducible rfl)
              try simp only [Act.put, List.setIfInBounds_toArray, List.set_cons_zero, List.set_cons_succ]
              refine wpAnyT_pure (i := 10) (oi := { dst := some 78, op := Op.binOp BinOp.add 3 (Operand.tmp 74) (Operand.const (Value.int IntKind.i64 1)) 3, type := 3, pos := "iface.go:127", after := #[⟨5, .data⟩, ⟨13, .gcOnly .appendInPlace⟩], guard := none }) (v := ?v24_10_7) rfl (by kernel_rfl) (fun _ _ _ h => h) (Or.inl ⟨by rfl, ?y24_10_7⟩) (fun _ => hS) ?_
              case y24_10_7 => (intro w hSw; go_simp; try with_reducible rfl)
              try simp only [Act.put, List.setIfInBounds_toArray, List.set_cons_zero, List.set_cons_succ]
              refine wpAnyT_ready (rs := [6]) (by kernel_rfl) rfl ?_
              refine AllT.cons (o := { dst := some 75, op := Op.buildSlice 45 2 #[(0, Operand.const (Value.agg #[Value.int IntKind.i64 0, Value.string { data := #[] }, Value.int IntKind.i64 0, Value.slice none 0 0])), (1, Operand.const (Value.agg #[Value.int IntKind.i64 0, Value.string { data := #[] }, Value.int IntKind.i64 0, Value.slice none 0 0]))], type := 45, pos := "iface.go:127", after := #[], guard := none }) rfl (fun K hK => ?_) ?_
              · go_simp
                refine hK.out _ _ (fun _ => ?_) (fun hE => ?_)
                · first | exact hQ.out _ hk1 | exact hQ.out _ (Keeps.mono (show Keeps (fun _ => False) Wa _ from (by repeat (first | (with_reducible exact Keeps.refl _ _) | (with_reducible assumption) | (with_reducible refine Keeps.drew ?_) | (with_reducible refine Keeps.drewN ?_ _) | (with_reducible refine Keeps.alloc ?_ _) | (with_reducible refine Keeps.trans ?_ (by assumption) (fun _ _ h => h))))) (fun _ _ h => h.elim))
                have hS := hE (by kernel_rfl)
                clear hK K hE
                try simp only [Act.put, List.setIfInBounds_toArray, List.set_cons_zero, List.set_cons_succ]
                refine wpAnyT_ready (rs := [7]) (by kernel_rfl) rfl ?_
                refine AllT.cons (o := { dst := some 76, op := Op.call { callee := Callee.builtin Builtin.append, args := #[Operand.tmp 69, Operand.tmp 75], argTypes := #[45, 45] }, type := 45, pos := "iface.go:127", after := #[⟨0, .data⟩, ⟨6, .data⟩, ⟨0, .phase⟩, ⟨1, .phase⟩, ⟨2, .phase⟩, ⟨3, .phase⟩, ⟨4, .phase⟩, ⟨5, .phase⟩, ⟨6, .phase⟩], guard := none }) rfl (fun K hK => ?_) ?_
                · (refine step_append_kept_m (W0 := Wa) rfl (.tmp 69) (.tmp 75) 45 rfl B 47 it _ 4 56 Tryd.underlying45 hi0 hz0 hz1 hz2 rfl (by decide) (Value.slice A0 nU c0) nU (flatU Ua) rfl HOwn.out (by repeat (first | (with_reducible exact Keeps.refl _ _) | (with_reducible assumption) | (with_reducible refine Keeps.drew ?_) | (with_reducible refine Keeps.drewN ?_ _) | (with_reducible refine Keeps.alloc ?_ _) | (with_reducible refine Keeps.trans ?_ (by assumption) (fun _ _ h => h)))) _ 2 _ #[.int .i64 0, .string ⟨#[]⟩, .int .i64 0, .slice none 0 0, .int .i64 0, .string ⟨#[]⟩, .int .i64 0, .slice none 0 0] rfl (by decide) rfl (by first | exact heap_new_at (by simp) | exact heap_new_at (w := Wa) (by simp)) (by simp [Value.oneCell']) HMq.out HBq.out HBZ.out ?_; intro g1 cap1 w2 hown1 hk1 hkp1 hat1; have hb2 := HBo.out _ hk1; have hat1' : (Value.slice A0 nU c0).ownBlock = some g1 ∨ Wa.heap.size ≤ g1 := hat1.imp id (fun h => Nat.le_trans (Keeps.size (show Keeps (fun _ => False) Wa _ from (by repeat (first | (with_reducible exact Keeps.refl _ _) | (with_reducible assumption) | (with_reducible refine Keeps.drew ?_) | (with_reducible refine Keeps.drewN ?_ _) | (with_reducible refine Keeps.alloc ?_ _) | (with_reducible refine Keeps.trans ?_ (by assumption) (fun _ _ h => h)))))) h); have ng := HNg.out g1 hat1')
                  refine hK.out _ _ (fun _ => ?_) (fun hE => ?_)
                  · first | exact hQ.out _ hk1 | exact hQ.out _ (Keeps.mono (show Keeps (fun _ => False) Wa _ from (by repeat (first | (with_reducible exact Keeps.refl _ _) | (with_reducible assumption) | (with_reducible refine Keeps.drew ?_) | (with_reducible refine Keeps.drewN ?_ _) | (with_reducible refine Keeps.alloc ?_ _) | (with_reducible refine Keeps.trans ?_ (by assumption) (fun _ _ h => h))))) (fun _ _ h => h.elim))
                  have hS := hE (by kernel_rfl)
                  clear hK K hE
                  try simp only [Act.put, List.setIfInBounds_toArray, List.set_cons_zero, List.set_cons_succ]
                  refine wpAnyT_pure (i := 8) (oi := { dst := some 77, op := Op.indexAddr 45 (Operand.tmp 76) (Operand.tmp 74), type := 0, pos := "iface.go:127", after := #[⟨7, .data⟩, ⟨5, .data⟩, ⟨0, .phase⟩, ⟨1, .phase⟩, ⟨2, .phase⟩, ⟨3, .phase⟩, ⟨4, .phase⟩, ⟨5, .phase⟩, ⟨6, .phase⟩, ⟨7, .phase⟩, ⟨13, .gcOnly .appendInPlace⟩], guard := none }) (v := ?v24_8_8) rfl (by kernel_rfl) (fun _ _ _ h => h) (Or.inl ⟨by rfl, ?y24_8_8⟩) (fun _ => hS) ?_
                  case y24_8_8 => (intro w hSw; go_simp; try with_reducible rfl)
                  try simp only [Act.put, List.setIfInBounds_toArray, List.set_cons_zero, List.set_cons_succ]
                  refine wpAnyT_ready (rs := [9, 13]) (by kernel_rfl) rfl ?_
                  refine AllT.cons (o := { dst := none, op := Op.store 47 (Operand.tmp 77) (Operand.tmp 71), type := 0, pos := "iface.go:127", after := #[⟨8, .data⟩, ⟨2, .data⟩, ⟨7, .chain⟩, ⟨0, .phase⟩, ⟨1, .phase⟩, ⟨2, .phase⟩, ⟨3, .phase⟩, ⟨4, .phase⟩, ⟨5, .phase⟩, ⟨6, .phase⟩, ⟨7, .phase⟩, ⟨13, .gcOnly .appendInPlace⟩], guard := none }) rfl (fun K hK => ?_) ?_
                  · (have fc := four_cellsM (xs := flatU Ua) (ys := [.int .i64 0, .string ⟨#[]⟩, .int .i64 0, .slice none 0 0]) (m := nU * 4) (a := .int .i64 0) (b := .string ⟨#[]⟩) (c := .int .i64 0) (d := .slice none 0 0) (by first | exact hown1 | (rw [List.append_nil]; exact hown1) | (rw [List.append_assoc]; exact hown1) | (rw [List.append_nil, List.append_assoc]; exact hown1)) (by first | exact HFl.out | (rw [List.length_append, HFl.out]; simp only [List.length_cons, List.length_nil]; omega)); have y0 := fc.1; have y1 := fc.2.1; have y2 := fc.2.2.1; have y3 := fc.2.2.2.1; have u0 := hown1.frozenAt (nU * 4); have u1 := hown1.frozenAt (nU * 4 + 1); have u2 := hown1.frozenAt (nU * 4 + 2); have u3 := hown1.frozenAt (nU * 4 + 3); go_simp)
                    refine hK.out _ _ (fun he => Bool.noConfusion (show false = true from he)) (fun hE => ?_)
                    clear hK K hE
                    try simp only [Act.put, List.setIfInBounds_toArray, List.set_cons_zero, List.set_cons_succ]
                    refine wpAnyT_pure (i := 11) (oi := { dst := some 79, op := Op.indexAddr 45 (Operand.tmp 76) (Operand.tmp 78), type := 0, pos := "iface.go:127", after := #[⟨7, .data⟩, ⟨10, .data⟩, ⟨0, .phase⟩, ⟨1, .phase⟩, ⟨2, .phase⟩, ⟨3, .phase⟩, ⟨4, .phase⟩, ⟨5, .phase⟩, ⟨6, .phase⟩, ⟨7, .phase⟩, ⟨8, .phase⟩, ⟨9, .phase⟩, ⟨10, .phase⟩, ⟨13, .gcOnly .appendInPlace⟩], guard := none }) (v := ?v24_11_9) rfl (by kernel_rfl) (fun _ _ _ h => h) (Or.inl ⟨by rfl, ?y24_11_9⟩) (fun he => Bool.noConfusion (show false = true from he)) ?_
                    case y24_11_9 => (intro w hSw; go_simp; try with_reducible rfl)
                    try simp only [Act.put, List.setIfInBounds_toArray, List.set_cons_zero, List.set_cons_succ]
                    refine wpAnyT_ready (rs := [12, 13]) (by kernel_rfl) rfl ?_
                    refine AllT.cons (o := { dst := none, op := Op.store 47 (Operand.tmp 79) (Operand.tmp 73), type := 0, pos := "iface.go:127", after := #[⟨11, .data⟩, ⟨4, .data⟩, ⟨9, .chain⟩, ⟨0, .phase⟩, ⟨1, .phase⟩, ⟨2, .phase⟩, ⟨3, .phase⟩, ⟨4, .phase⟩, ⟨5, .phase⟩, ⟨6, .phase⟩, ⟨7, .phase⟩, ⟨8, .phase⟩, ⟨9, .phase⟩, ⟨10, .phase⟩, ⟨13, .gcOnly .appendInPlace⟩], guard := none }) rfl (fun K hK => ?_) ?_
                    · (have hs0 : Keeps (· = g1) w2 ((((w2.setCell ⟨g1, nU * 4, none⟩ (.int .i64 x.arg.kind)).setCell ⟨g1, nU * 4 + 1, none⟩ (.string x.arg.name)).setCell ⟨g1, nU * 4 + 2, none⟩ (.int .i64 x.arg.var)).setCell ⟨g1, nU * 4 + 3, none⟩ (.slice Aa2 x.arg.args.length qa2)) := ((((Keeps.refl (· = g1) w2).setCell (p := ⟨g1, nU * 4, none⟩) (fun _ => rfl) _).setCell (p := ⟨g1, nU * 4 + 1, none⟩) (fun _ => rfl) _).setCell (p := ⟨g1, nU * 4 + 2, none⟩) (fun _ => rfl) _).setCell (p := ⟨g1, nU * 4 + 3, none⟩) (fun _ => rfl) _; have ho0 := own_four (xs := flatU Ua) (ys := [.int .i64 0, .string ⟨#[]⟩, .int .i64 0, .slice none 0 0]) (m := nU * 4) (u0 := .int .i64 x.arg.kind) (u1 := .string x.arg.name) (u2 := .int .i64 x.arg.var) (u3 := .slice Aa2 x.arg.args.length qa2) (by first | exact hown1 | (rw [List.append_nil]; exact hown1) | (rw [List.append_assoc]; exact hown1) | (rw [List.append_nil, List.append_assoc]; exact hown1)) (by first | exact HFl.out | (rw [List.length_append, HFl.out]; simp only [List.length_cons, List.length_nil]; omega)); have hb0_ := hb2.keeps hs0 (fun e => ng e.symm); have fc := four_cellsM (xs := (flatU Ua ++ [.int .i64 x.arg.kind, .string x.arg.name, .int .i64 x.arg.var, .slice Aa2 x.arg.args.length qa2])) (ys := []) (m := (nU + 1) * 4) (a := .int .i64 0) (b := .string ⟨#[]⟩) (c := .int .i64 0) (d := .slice none 0 0) (by first | exact ho0 | (rw [List.append_nil]; exact ho0) | (rw [List.append_assoc]; exact ho0) | (rw [List.append_nil, List.append_assoc]; exact ho0)) (by first | exact HFl.out | (rw [List.length_append, HFl.out]; simp only [List.length_cons, List.length_nil]; omega)); have y0 := fc.1; have y1 := fc.2.1; have y2 := fc.2.2.1; have y3 := fc.2.2.2.1; have u0 := ho0.frozenAt ((nU + 1) * 4); have u1 := ho0.frozenAt ((nU + 1) * 4 + 1); have u2 := ho0.frozenAt ((nU + 1) * 4 + 2); have u3 := ho0.frozenAt ((nU + 1) * 4 + 3); go_simp)
                      refine hK.out _ _ (fun he => Bool.noConfusion (show false = true from he)) (fun hE => ?_)
                      clear hK K hE
                      try simp only [Act.put, List.setIfInBounds_toArray, List.set_cons_zero, List.set_cons_succ]
                      refine wpAnyT_ready (rs := [13]) (by kernel_rfl) rfl ?_
                      refine AllT.cons (o := { dst := none, op := Op.store 45 (Operand.tmp 3) (Operand.tmp 76), type := 0, pos := "iface.go:127", after := #[⟨7, .data⟩, ⟨7, .chain⟩, ⟨12, .textOnly .appendInPlace⟩, ⟨0, .phase⟩, ⟨1, .phase⟩, ⟨2, .phase⟩, ⟨3, .phase⟩, ⟨4, .phase⟩, ⟨5, .phase⟩, ⟨6, .phase⟩, ⟨7, .phase⟩, ⟨8, .textOnly .appendInPlace⟩, ⟨9, .textOnly .appendInPlace⟩, ⟨10, .textOnly .appendInPlace⟩, ⟨11, .textOnly .appendInPlace⟩, ⟨12, .textOnly .appendInPlace⟩], guard := none }) rfl (fun K hK => ?_) ?_
                      · (have hs0 : Keeps (· = g1) w2 ((((w2.setCell ⟨g1, nU * 4, none⟩ (.int .i64 x.arg.kind)).setCell ⟨g1, nU * 4 + 1, none⟩ (.string x.arg.name)).setCell ⟨g1, nU * 4 + 2, none⟩ (.int .i64 x.arg.var)).setCell ⟨g1, nU * 4 + 3, none⟩ (.slice Aa2 x.arg.args.length qa2)) := ((((Keeps.refl (· = g1) w2).setCell (p := ⟨g1, nU * 4, none⟩) (fun _ => rfl) _).setCell (p := ⟨g1, nU * 4 + 1, none⟩) (fun _ => rfl) _).setCell (p := ⟨g1, nU * 4 + 2, none⟩) (fun _ => rfl) _).setCell (p := ⟨g1, nU * 4 + 3, none⟩) (fun _ => rfl) _; have ho0 := own_four (xs := flatU Ua) (ys := [.int .i64 0, .string ⟨#[]⟩, .int .i64 0, .slice none 0 0]) (m := nU * 4) (u0 := .int .i64 x.arg.kind) (u1 := .string x.arg.name) (u2 := .int .i64 x.arg.var) (u3 := .slice Aa2 x.arg.args.length qa2) (by first | exact hown1 | (rw [List.append_nil]; exact hown1) | (rw [List.append_assoc]; exact hown1) | (rw [List.append_nil, List.append_assoc]; exact hown1)) (by first | exact HFl.out | (rw [List.length_append, HFl.out]; simp only [List.length_cons, List.length_nil]; omega)); have hb0_ := hb2.keeps hs0 (fun e => ng e.symm); have hs1 : Keeps (· = g1) ((((w2.setCell ⟨g1, nU * 4, none⟩ (.int .i64 x.arg.kind)).setCell ⟨g1, nU * 4 + 1, none⟩ (.string x.arg.name)).setCell ⟨g1, nU * 4 + 2, none⟩ (.int .i64 x.arg.var)).setCell ⟨g1, nU * 4 + 3, none⟩ (.slice Aa2 x.arg.args.length qa2)) ((((((((w2.setCell ⟨g1, nU * 4, none⟩ (.int .i64 x.arg.kind)).setCell ⟨g1, nU * 4 + 1, none⟩ (.string x.arg.name)).setCell ⟨g1, nU * 4 + 2, none⟩ (.int .i64 x.arg.var)).setCell ⟨g1, nU * 4 + 3, none⟩ (.slice Aa2 x.arg.args.length qa2)).setCell ⟨g1, (nU + 1) * 4, none⟩ (.int .i64 x.res.kind)).setCell ⟨g1, (nU + 1) * 4 + 1, none⟩ (.string x.res.name)).setCell ⟨g1, (nU + 1) * 4 + 2, none⟩ (.int .i64 x.res.var)).setCell ⟨g1, (nU + 1) * 4 + 3, none⟩ (.slice Aa3 x.res.args.length qa3)) := ((((Keeps.refl (· = g1) ((((w2.setCell ⟨g1, nU * 4, none⟩ (.int .i64 x.arg.kind)).setCell ⟨g1, nU * 4 + 1, none⟩ (.string x.arg.name)).setCell ⟨g1, nU * 4 + 2, none⟩ (.int .i64 x.arg.var)).setCell ⟨g1, nU * 4 + 3, none⟩ (.slice Aa2 x.arg.args.length qa2))).setCell (p := ⟨g1, (nU + 1) * 4, none⟩) (fun _ => rfl) _).setCell (p := ⟨g1, (nU + 1) * 4 + 1, none⟩) (fun _ => rfl) _).setCell (p := ⟨g1, (nU + 1) * 4 + 2, none⟩) (fun _ => rfl) _).setCell (p := ⟨g1, (nU + 1) * 4 + 3, none⟩) (fun _ => rfl) _; have ho1 := own_four (xs := (flatU Ua ++ [.int .i64 x.arg.kind, .string x.arg.name, .int .i64 x.arg.var, .slice Aa2 x.arg.args.length qa2])) (ys := []) (m := (nU + 1) * 4) (u0 := .int .i64 x.res.kind) (u1 := .string x.res.name) (u2 := .int .i64 x.res.var) (u3 := .slice Aa3 x.res.args.length qa3) (by first | exact ho0 | (rw [List.append_nil]; exact ho0) | (rw [List.append_assoc]; exact ho0) | (rw [List.append_nil, List.append_assoc]; exact ho0)) (by first | exact HFl.out | (rw [List.length_append, HFl.out]; simp only [List.length_cons, List.length_nil]; omega)); have hb1_ := hb0_.keeps hs1 (fun e => ng e.symm); have z0 := hb1_.cell (i := 0) rfl; have z1 := hb1_.free 0; go_simp)
                        refine hK.out _ _ (fun he => Bool.noConfusion (show false = true from he)) (fun hE => ?_)
                        clear hK K hE
                        try simp only [Act.put, List.setIfInBounds_toArray, List.set_cons_zero, List.set_cons_succ]
                        refine wpAnyT_done (by kernel_rfl) ?_ _
                        refine NoPanic.normal ?_
                        have hs0 : Keeps (· = g1) w2 ((((w2.setCell ⟨g1, nU * 4, none⟩ (.int .i64 x.arg.kind)).setCell ⟨g1, nU * 4 + 1, none⟩ (.string x.arg.name)).setCell ⟨g1, nU * 4 + 2, none⟩ (.int .i64 x.arg.var)).setCell ⟨g1, nU * 4 + 3, none⟩ (.slice Aa2 x.arg.args.length qa2)) := ((((Keeps.refl (· = g1) w2).setCell (p := ⟨g1, nU * 4, none⟩) (fun _ => rfl) _).setCell (p := ⟨g1, nU * 4 + 1, none⟩) (fun _ => rfl) _).setCell (p := ⟨g1, nU * 4 + 2, none⟩) (fun _ => rfl) _).setCell (p := ⟨g1, nU * 4 + 3, none⟩) (fun _ => rfl) _
                        have ho0 := own_four (xs := flatU Ua) (ys := [.int .i64 0, .string ⟨#[]⟩, .int .i64 0, .slice none 0 0]) (m := nU * 4) (u0 := .int .i64 x.arg.kind) (u1 := .string x.arg.name) (u2 := .int .i64 x.arg.var) (u3 := .slice Aa2 x.arg.args.length qa2) (by first | exact hown1 | (rw [List.append_nil]; exact hown1) | (rw [List.append_assoc]; exact hown1) | (rw [List.append_nil, List.append_assoc]; exact hown1)) (by first | exact HFl.out | (rw [List.length_append, HFl.out]; simp only [List.length_cons, List.length_nil]; omega))
                        have hb0_ := hb2.keeps hs0 (fun e => ng e.symm)
                        have hs1 : Keeps (· = g1) ((((w2.setCell ⟨g1, nU * 4, none⟩ (.int .i64 x.arg.kind)).setCell ⟨g1, nU * 4 + 1, none⟩ (.string x.arg.name)).setCell ⟨g1, nU * 4 + 2, none⟩ (.int .i64 x.arg.var)).setCell ⟨g1, nU * 4 + 3, none⟩ (.slice Aa2 x.arg.args.length qa2)) ((((((((w2.setCell ⟨g1, nU * 4, none⟩ (.int .i64 x.arg.kind)).setCell ⟨g1, nU * 4 + 1, none⟩ (.string x.arg.name)).setCell ⟨g1, nU * 4 + 2, none⟩ (.int .i64 x.arg.var)).setCell ⟨g1, nU * 4 + 3, none⟩ (.slice Aa2 x.arg.args.length qa2)).setCell ⟨g1, (nU + 1) * 4, none⟩ (.int .i64 x.res.kind)).setCell ⟨g1, (nU + 1) * 4 + 1, none⟩ (.string x.res.name)).setCell ⟨g1, (nU + 1) * 4 + 2, none⟩ (.int .i64 x.res.var)).setCell ⟨g1, (nU + 1) * 4 + 3, none⟩ (.slice Aa3 x.res.args.length qa3)) := ((((Keeps.refl (· = g1) ((((w2.setCell ⟨g1, nU * 4, none⟩ (.int .i64 x.arg.kind)).setCell ⟨g1, nU * 4 + 1, none⟩ (.string x.arg.name)).setCell ⟨g1, nU * 4 + 2, none⟩ (.int .i64 x.arg.var)).setCell ⟨g1, nU * 4 + 3, none⟩ (.slice Aa2 x.arg.args.length qa2))).setCell (p := ⟨g1, (nU + 1) * 4, none⟩) (fun _ => rfl) _).setCell (p := ⟨g1, (nU + 1) * 4 + 1, none⟩) (fun _ => rfl) _).setCell (p := ⟨g1, (nU + 1) * 4 + 2, none⟩) (fun _ => rfl) _).setCell (p := ⟨g1, (nU + 1) * 4 + 3, none⟩) (fun _ => rfl) _
                        have ho1 := own_four (xs := (flatU Ua ++ [.int .i64 x.arg.kind, .string x.arg.name, .int .i64 x.arg.var, .slice Aa2 x.arg.args.length qa2])) (ys := []) (m := (nU + 1) * 4) (u0 := .int .i64 x.res.kind) (u1 := .string x.res.name) (u2 := .int .i64 x.res.var) (u3 := .slice Aa3 x.res.args.length qa3) (by first | exact ho0 | (rw [List.append_nil]; exact ho0) | (rw [List.append_assoc]; exact ho0) | (rw [List.append_nil, List.append_assoc]; exact ho0)) (by first | exact HFl.out | (rw [List.length_append, HFl.out]; simp only [List.length_cons, List.length_nil]; omega))
                        have hb1_ := hb0_.keeps hs1 (fun e => ng e.symm)
                        have hs2 : Keeps (· = bo) ((((((((w2.setCell ⟨g1, nU * 4, none⟩ (.int .i64 x.arg.kind)).setCell ⟨g1, nU * 4 + 1, none⟩ (.string x.arg.name)).setCell ⟨g1, nU * 4 + 2, none⟩ (.int .i64 x.arg.var)).setCell ⟨g1, nU * 4 + 3, none⟩ (.slice Aa2 x.arg.args.length qa2)).setCell ⟨g1, (nU + 1) * 4, none⟩ (.int .i64 x.res.kind)).setCell ⟨g1, (nU + 1) * 4 + 1, none⟩ (.string x.res.name)).setCell ⟨g1, (nU + 1) * 4 + 2, none⟩ (.int .i64 x.res.var)).setCell ⟨g1, (nU + 1) * 4 + 3, none⟩ (.slice Aa3 x.res.args.length qa3)) (((((((((w2.setCell ⟨g1, nU * 4, none⟩ (.int .i64 x.arg.kind)).setCell ⟨g1, nU * 4 + 1, none⟩ (.string x.arg.name)).setCell ⟨g1, nU * 4 + 2, none⟩ (.int .i64 x.arg.var)).setCell ⟨g1, nU * 4 + 3, none⟩ (.slice Aa2 x.arg.args.length qa2)).setCell ⟨g1, (nU + 1) * 4, none⟩ (.int .i64 x.res.kind)).setCell ⟨g1, (nU + 1) * 4 + 1, none⟩ (.string x.res.name)).setCell ⟨g1, (nU + 1) * 4 + 2, none⟩ (.int .i64 x.res.var)).setCell ⟨g1, (nU + 1) * 4 + 3, none⟩ (.slice Aa3 x.res.args.length qa3)).setCell ⟨bo, 0, none⟩ (.slice (some ⟨g1, 0, none⟩) (nU + 2) cap1)) := (Keeps.refl (· = bo) _).setCell (p := ⟨bo, 0, none⟩) (fun _ => rfl) _
                        have ho2 := own_keeps ho1 hs2 (fun i hi e => ng ((show g1 = i from by simpa [Value.ownBlock] using hi).trans e))
                        have hb2_ := hb1_.set_ 0 (.slice (some ⟨g1, 0, none⟩) (nU + 2) cap1)
                        have hof : World.ownsRow (((((((((w2.setCell ⟨g1, nU * 4, none⟩ (.int .i64 x.arg.kind)).setCell ⟨g1, nU * 4 + 1, none⟩ (.string x.arg.name)).setCell ⟨g1, nU * 4 + 2, none⟩ (.int .i64 x.arg.var)).setCell ⟨g1, nU * 4 + 3, none⟩ (.slice Aa2 x.arg.args.length qa2)).setCell ⟨g1, (nU + 1) * 4, none⟩ (.int .i64 x.res.kind)).setCell ⟨g1, (nU + 1) * 4 + 1, none⟩ (.string x.res.name)).setCell ⟨g1, (nU + 1) * 4 + 2, none⟩ (.int .i64 x.res.var)).setCell ⟨g1, (nU + 1) * 4 + 3, none⟩ (.slice Aa3 x.res.args.length qa3)).setCell ⟨bo, 0, none⟩ (.slice (some ⟨g1, 0, none⟩) (nU + 2) cap1)) B 47 4 (.slice (some ⟨g1, 0, none⟩) (nU + 2) cap1) (nU + 2) (flatU Ua ++ [.int .i64 x.arg.kind, .string x.arg.name, .int .i64 x.arg.var, .slice Aa2 x.arg.args.length qa2, .int .i64 x.res.kind, .string x.res.name, .int .i64 x.res.var, .slice Aa3 x.res.args.length qa3]) := by first | exact ho2 | (have h := ho2; rw [List.append_nil] at h; exact h) | (have h := ho2; rw [List.append_nil, List.append_assoc] at h; exact h) | (have h := ho2; rw [List.append_assoc] at h; exact h)
                        have HTo := Lib.hid (HPut.out _ g1 cap1 ((((hk1.mono (Y := fun i => (Value.slice A0 nU c0).ownBlock = some i ∨ i = bo ∨ i = g1) (fun _ _ h => .inl h)).trans hs0 (fun i _ h => .inr (.inr h))).trans hs1 (fun i _ h => .inr (.inr h))).trans hs2 (fun i _ h => .inr (.inl h))) hb2_ hof hat1')
                        clear hown1 hk1 hkp1 hat1 hb2 ng hof hat1' hs0 ho0 hb0_ hs1 ho1 hb1_ hs2 ho2 hb2_
                        have HTS := Lib.hid (HRel.out _ HTo.out)
                        clear HTo
                        go_wp2_with fail
                        go_roundw
                        case rel => exact ⟨j + 1, by omega, by go_num, HTS.out⟩
                        case measure => simp [intOf]; omega
                      exact AllT.nil
                    refine AllT.cons (o := { dst := none, op := Op.store 45 (Operand.tmp 3) (Operand.tmp 76), type := 0, pos := "iface.go:127", after := #[⟨7, .data⟩, ⟨7, .chain⟩, ⟨12, .textOnly .appendInPlace⟩, ⟨0, .phase⟩, ⟨1, .phase⟩, ⟨2, .phase⟩, ⟨3, .phase⟩, ⟨4, .phase⟩, ⟨5, .phase⟩, ⟨6, .phase⟩, ⟨7, .phase⟩, ⟨8, .textOnly .appendInPlace⟩, ⟨9, .textOnly .appendInPlace⟩, ⟨10, .textOnly .appendInPlace⟩, ⟨11, .textOnly .appendInPlace⟩, ⟨12, .textOnly .appendInPlace⟩], guard := none }) rfl (fun K hK => ?_) ?_
                    · (have hs0 : Keeps (· = g1) w2 ((((w2.setCell ⟨g1, nU * 4, none⟩ (.int .i64 x.arg.kind)).setCell ⟨g1, nU * 4 + 1, none⟩ (.string x.arg.name)).setCell ⟨g1, nU * 4 + 2, none⟩ (.int .i64 x.arg.var)).setCell ⟨g1, nU * 4 + 3, none⟩ (.slice Aa2 x.arg.args.length qa2)) := ((((Keeps.refl (· = g1) w2).setCell (p := ⟨g1, nU * 4, none⟩) (fun _ => rfl) _).setCell (p := ⟨g1, nU * 4 + 1, none⟩) (fun _ => rfl) _).setCell (p := ⟨g1, nU * 4 + 2, none⟩) (fun _ => rfl) _).setCell (p := ⟨g1, nU * 4 + 3, none⟩) (fun _ => rfl) _; have ho0 := own_four (xs := flatU Ua) (ys := [.int .i64 0, .string ⟨#[]⟩, .int .i64 0, .slice none 0 0]) (m := nU * 4) (u0 := .int .i64 x.arg.kind) (u1 := .string x.arg.name) (u2 := .int .i64 x.arg.var) (u3 := .slice Aa2 x.arg.args.length qa2) (by first | exact hown1 | (rw [List.append_nil]; exact hown1) | (rw [List.append_assoc]; exact hown1) | (rw [List.append_nil, List.append_assoc]; exact hown1)) (by first | exact HFl.out | (rw [List.length_append, HFl.out]; simp only [List.length_cons, List.length_nil]; omega)); have hb0_ := hb2.keeps hs0 (fun e => ng e.symm); have z0 := hb0_.cell (i := 0) rfl; have z1 := hb0_.free 0; go_simp)
                      refine hK.out _ _ (fun he => Bool.noConfusion (show false = true from he)) (fun hE => ?_)
                      clear hK K hE
                      try simp only [Act.put, List.setIfInBounds_toArray, List.set_cons_zero, List.set_cons_succ]
                      refine wpAnyT_ready (rs := [12]) (by kernel_rfl) rfl ?_
                      refine AllT.cons (o := { dst := none, op := Op.store 47 (Operand.tmp 79) (Operand.tmp 73), type := 0, pos := "iface.go:127", after := #[⟨11, .data⟩, ⟨4, .data⟩, ⟨9, .chain⟩, ⟨0, .phase⟩, ⟨1, .phase⟩, ⟨2, .phase⟩, ⟨3, .phase⟩, ⟨4, .phase⟩, ⟨5, .phase⟩, ⟨6, .phase⟩, ⟨7, .phase⟩, ⟨8, .phase⟩, ⟨9, .phase⟩, ⟨10, .phase⟩, ⟨13, .gcOnly .appendInPlace⟩], guard := none }) rfl (fun K hK => ?_) ?_
                      · (have hs0 : Keeps (· = g1) w2 ((((w2.setCell ⟨g1, nU * 4, none⟩ (.int .i64 x.arg.kind)).setCell ⟨g1, nU * 4 + 1, none⟩ (.string x.arg.name)).setCell ⟨g1, nU * 4 + 2, none⟩ (.int .i64 x.arg.var)).setCell ⟨g1, nU * 4 + 3, none⟩ (.slice Aa2 x.arg.args.length qa2)) := ((((Keeps.refl (· = g1) w2).setCell (p := ⟨g1, nU * 4, none⟩) (fun _ => rfl) _).setCell (p := ⟨g1, nU * 4 + 1, none⟩) (fun _ => rfl) _).setCell (p := ⟨g1, nU * 4 + 2, none⟩) (fun _ => rfl) _).setCell (p := ⟨g1, nU * 4 + 3, none⟩) (fun _ => rfl) _; have ho0 := own_four (xs := flatU Ua) (ys := [.int .i64 0, .string ⟨#[]⟩, .int .i64 0, .slice none 0 0]) (m := nU * 4) (u0 := .int .i64 x.arg.kind) (u1 := .string x.arg.name) (u2 := .int .i64 x.arg.var) (u3 := .slice Aa2 x.arg.args.length qa2) (by first | exact hown1 | (rw [List.append_nil]; exact hown1) | (rw [List.append_assoc]; exact hown1) | (rw [List.append_nil, List.append_assoc]; exact hown1)) (by first | exact HFl.out | (rw [List.length_append, HFl.out]; simp only [List.length_cons, List.length_nil]; omega)); have hb0_ := hb2.keeps hs0 (fun e => ng e.symm); have hs1 : Keeps (· = bo) ((((w2.setCell ⟨g1, nU * 4, none⟩ (.int .i64 x.arg.kind)).setCell ⟨g1, nU * 4 + 1, none⟩ (.string x.arg.name)).setCell ⟨g1, nU * 4 + 2, none⟩ (.int .i64 x.arg.var)).setCell ⟨g1, nU * 4 + 3, none⟩ (.slice Aa2 x.arg.args.length qa2)) (((((w2.setCell ⟨g1, nU * 4, none⟩ (.int .i64 x.arg.kind)).setCell ⟨g1, nU * 4 + 1, none⟩ (.string x.arg.name)).setCell ⟨g1, nU * 4 + 2, none⟩ (.int .i64 x.arg.var)).setCell ⟨g1, nU * 4 + 3, none⟩ (.slice Aa2 x.arg.args.length qa2)).setCell ⟨bo, 0, none⟩ (.slice (some ⟨g1, 0, none⟩) (nU + 2) cap1)) := (Keeps.refl (· = bo) _).setCell (p := ⟨bo, 0, none⟩) (fun _ => rfl) _; have ho1 := own_keeps ho0 hs1 (fun i hi e => ng ((show g1 = i from by simpa [Value.ownBlock] using hi).trans e)); have hb1_ := hb0_.set_ 0 (.slice (some ⟨g1, 0, none⟩) (nU + 2) cap1); have fc := four_cellsM (xs := (flatU Ua ++ [.int .i64 x.arg.kind, .string x.arg.name, .int .i64 x.arg.var, .slice Aa2 x.arg.args.length qa2])) (ys := []) (m := (nU + 1) * 4) (a := .int .i64 0) (b := .string ⟨#[]⟩) (c := .int .i64 0) (d := .slice none 0 0) (by first | exact ho1 | (rw [List.append_nil]; exact ho1) | (rw [List.append_assoc]; exact ho1) | (rw [List.append_nil, List.append_assoc]; exact ho1)) (by first | exact HFl.out | (rw [List.length_append, HFl.out]; simp only [List.length_cons, List.length_nil]; omega)); have y0 := fc.1; have y1 := fc.2.1; have y2 := fc.2.2.1; have y3 := fc.2.2.2.1; have u0 := ho1.frozenAt ((nU + 1) * 4); have u1 := ho1.frozenAt ((nU + 1) * 4 + 1); have u2 := ho1.frozenAt ((nU + 1) * 4 + 2); have u3 := ho1.frozenAt ((nU + 1) * 4 + 3); go_simp)
                        refine hK.out _ _ (fun he => Bool.noConfusion (show false = true from he)) (fun hE => ?_)
                        clear hK K hE
                        try simp only [Act.put, List.setIfInBounds_toArray, List.set_cons_zero, List.set_cons_succ]
                        refine wpAnyT_done (by kernel_rfl) ?_ _
                        refine NoPanic.normal ?_
                        have hs0 : Keeps (· = g1) w2 ((((w2.setCell ⟨g1, nU * 4, none⟩ (.int .i64 x.arg.kind)).setCell ⟨g1, nU * 4 + 1, none⟩ (.string x.arg.name)).setCell ⟨g1, nU * 4 + 2, none⟩ (.int .i64 x.arg.var)).setCell ⟨g1, nU * 4 + 3, none⟩ (.slice Aa2 x.arg.args.length qa2)) := ((((Keeps.refl (· = g1) w2).setCell (p := ⟨g1, nU * 4, none⟩) (fun _ => rfl) _).setCell (p := ⟨g1, nU * 4 + 1, none⟩) (fun _ => rfl) _).setCell (p := ⟨g1, nU * 4 + 2, none⟩) (fun _ => rfl) _).setCell (p := ⟨g1, nU * 4 + 3, none⟩) (fun _ => rfl) _
                        have ho0 := own_four (xs := flatU Ua) (ys := [.int .i64 0, .string ⟨#[]⟩, .int .i64 0, .slice none 0 0]) (m := nU * 4) (u0 := .int .i64 x.arg.kind) (u1 := .string x.arg.name) (u2 := .int .i64 x.arg.var) (u3 := .slice Aa2 x.arg.args.length qa2) (by first | exact hown1 | (rw [List.append_nil]; exact hown1) | (rw [List.append_assoc]; exact hown1) | (rw [List.append_nil, List.append_assoc]; exact hown1)) (by first | exact HFl.out | (rw [List.length_append, HFl.out]; simp only [List.length_cons, List.length_nil]; omega))
                        have hb0_ := hb2.keeps hs0 (fun e => ng e.symm)
                        have hs1 : Keeps (· = bo) ((((w2.setCell ⟨g1, nU * 4, none⟩ (.int .i64 x.arg.kind)).setCell ⟨g1, nU * 4 + 1, none⟩ (.string x.arg.name)).setCell ⟨g1, nU * 4 + 2, none⟩ (.int .i64 x.arg.var)).setCell ⟨g1, nU * 4 + 3, none⟩ (.slice Aa2 x.arg.args.length qa2)) (((((w2.setCell ⟨g1, nU * 4, none⟩ (.int .i64 x.arg.kind)).setCell ⟨g1, nU * 4 + 1, none⟩ (.string x.arg.name)).setCell ⟨g1, nU * 4 + 2, none⟩ (.int .i64 x.arg.var)).setCell ⟨g1, nU * 4 + 3, none⟩ (.slice Aa2 x.arg.args.length qa2)).setCell ⟨bo, 0, none⟩ (.slice (some ⟨g1, 0, none⟩) (nU + 2) cap1)) := (Keeps.refl (· = bo) _).setCell (p := ⟨bo, 0, none⟩) (fun _ => rfl) _
                        have ho1 := own_keeps ho0 hs1 (fun i hi e => ng ((show g1 = i from by simpa [Value.ownBlock] using hi).trans e))
                        have hb1_ := hb0_.set_ 0 (.slice (some ⟨g1, 0, none⟩) (nU + 2) cap1)
                        have hs2 : Keeps (· = g1) (((((w2.setCell ⟨g1, nU * 4, none⟩ (.int .i64 x.arg.kind)).setCell ⟨g1, nU * 4 + 1, none⟩ (.string x.arg.name)).setCell ⟨g1, nU * 4 + 2, none⟩ (.int .i64 x.arg.var)).setCell ⟨g1, nU * 4 + 3, none⟩ (.slice Aa2 x.arg.args.length qa2)).setCell ⟨bo, 0, none⟩ (.slice (some ⟨g1, 0, none⟩) (nU + 2) cap1)) (((((((((w2.setCell ⟨g1, nU * 4, none⟩ (.int .i64 x.arg.kind)).setCell ⟨g1, nU * 4 + 1, none⟩ (.string x.arg.name)).setCell ⟨g1, nU * 4 + 2, none⟩ (.int .i64 x.arg.var)).setCell ⟨g1, nU * 4 + 3, none⟩ (.slice Aa2 x.arg.args.length qa2)).setCell ⟨bo, 0, none⟩ (.slice (some ⟨g1, 0, none⟩) (nU + 2) cap1)).setCell ⟨g1, (nU + 1) * 4, none⟩ (.int .i64 x.res.kind)).setCell ⟨g1, (nU + 1) * 4 + 1, none⟩ (.string x.res.name)).setCell ⟨g1, (nU + 1) * 4 + 2, none⟩ (.int .i64 x.res.var)).setCell ⟨g1, (nU + 1) * 4 + 3, none⟩ (.slice Aa3 x.res.args.length qa3)) := ((((Keeps.refl (· = g1) (((((w2.setCell ⟨g1, nU * 4, none⟩ (.int .i64 x.arg.kind)).setCell ⟨g1, nU * 4 + 1, none⟩ (.string x.arg.name)).setCell ⟨g1, nU * 4 + 2, none⟩ (.int .i64 x.arg.var)).setCell ⟨g1, nU * 4 + 3, none⟩ (.slice Aa2 x.arg.args.length qa2)).setCell ⟨bo, 0, none⟩ (.slice (some ⟨g1, 0, none⟩) (nU + 2) cap1))).setCell (p := ⟨g1, (nU + 1) * 4, none⟩) (fun _ => rfl) _).setCell (p := ⟨g1, (nU + 1) * 4 + 1, none⟩) (fun _ => rfl) _).setCell (p := ⟨g1, (nU + 1) * 4 + 2, none⟩) (fun _ => rfl) _).setCell (p := ⟨g1, (nU + 1) * 4 + 3, none⟩) (fun _ => rfl) _
                        have ho2 := own_four (xs := (flatU Ua ++ [.int .i64 x.arg.kind, .string x.arg.name, .int .i64 x.arg.var, .slice Aa2 x.arg.args.length qa2])) (ys := []) (m := (nU + 1) * 4) (u0 := .int .i64 x.res.kind) (u1 := .string x.res.name) (u2 := .int .i64 x.res.var) (u3 := .slice Aa3 x.res.args.length qa3) (by first | exact ho1 | (rw [List.append_nil]; exact ho1) | (rw [List.append_assoc]; exact ho1) | (rw [List.append_nil, List.append_assoc]; exact ho1)) (by first | exact HFl.out | (rw [List.length_append, HFl.out]; simp only [List.length_cons, List.length_nil]; omega))
                        have hb2_ := hb1_.keeps hs2 (fun e => ng e.symm)
                        have hof : World.ownsRow (((((((((w2.setCell ⟨g1, nU * 4, none⟩ (.int .i64 x.arg.kind)).setCell ⟨g1, nU * 4 + 1, none⟩ (.string x.arg.name)).setCell ⟨g1, nU * 4 + 2, none⟩ (.int .i64 x.arg.var)).setCell ⟨g1, nU * 4 + 3, none⟩ (.slice Aa2 x.arg.args.length qa2)).setCell ⟨bo, 0, none⟩ (.slice (some ⟨g1, 0, none⟩) (nU + 2) cap1)).setCell ⟨g1, (nU + 1) * 4, none⟩ (.int .i64 x.res.kind)).setCell ⟨g1, (nU + 1) * 4 + 1, none⟩ (.string x.res.name)).setCell ⟨g1, (nU + 1) * 4 + 2, none⟩ (.int .i64 x.res.var)).setCell ⟨g1, (nU + 1) * 4 + 3, none⟩ (.slice Aa3 x.res.args.length qa3)) B 47 4 (.slice (some ⟨g1, 0, none⟩) (nU + 2) cap1) (nU + 2) (flatU Ua ++ [.int .i64 x.arg.kind, .string x.arg.name, .int .i64 x.arg.var, .slice Aa2 x.arg.args.length qa2, .int .i64 x.res.kind, .string x.res.name, .int .i64 x.res.var, .slice Aa3 x.res.args.length qa3]) := by first | exact ho2 | (have h := ho2; rw [List.append_nil] at h; exact h) | (have h := ho2; rw [List.append_nil, List.append_assoc] at h; exact h) | (have h := ho2; rw [List.append_assoc] at h; exact h)
                        have HTo := Lib.hid (HPut.out _ g1 cap1 ((((hk1.mono (Y := fun i => (Value.slice A0 nU c0).ownBlock = some i ∨ i = bo ∨ i = g1) (fun _ _ h => .inl h)).trans hs0 (fun i _ h => .inr (.inr h))).trans hs1 (fun i _ h => .inr (.inl h))).trans hs2 (fun i _ h => .inr (.inr h))) hb2_ hof hat1')
                        clear hown1 hk1 hkp1 hat1 hb2 ng hof hat1' hs0 ho0 hb0_ hs1 ho1 hb1_ hs2 ho2 hb2_
                        have HTS := Lib.hid (HRel.out _ HTo.out)
                        clear HTo
                        go_wp2_with fail
                        go_roundw
                        case rel => exact ⟨j + 1, by omega, by go_num, HTS.out⟩
                        case measure => simp [intOf]; omega
                      exact AllT.nil
                    exact AllT.nil
                  refine AllT.cons (o := { dst := none, op := Op.store 45 (Operand.tmp 3) (Operand.tmp 76), type := 0, pos := "iface.go:127", after := #[⟨7, .data⟩, ⟨7, .chain⟩, ⟨12, .textOnly .appendInPlace⟩, ⟨0, .phase⟩, ⟨1, .phase⟩, ⟨2, .phase⟩, ⟨3, .phase⟩, ⟨4, .phase⟩, ⟨5, .phase⟩, ⟨6, .phase⟩, ⟨7, .phase⟩, ⟨8, .textOnly .appendInPlace⟩, ⟨9, .textOnly .appendInPlace⟩, ⟨10, .textOnly .appendInPlace⟩, ⟨11, .textOnly .appendInPlace⟩, ⟨12, .textOnly .appendInPlace⟩], guard := none }) rfl (fun K hK => ?_) ?_
                  · (have z0 := hb2.cell (i := 0) rfl; have z1 := hb2.free 0; go_simp)
                    refine hK.out _ _ (fun he => Bool.noConfusion (show false = true from he)) (fun hE => ?_)
                    clear hK K hE
                    try simp only [Act.put, List.setIfInBounds_toArray, List.set_cons_zero, List.set_cons_succ]
                    refine wpAnyT_ready (rs := [9]) (by kernel_rfl) rfl ?_
                    refine AllT.cons (o := { dst := none, op := Op.store 47 (Operand.tmp 77) (Operand.tmp 71), type := 0, pos := "iface.go:127", after := #[⟨8, .data⟩, ⟨2, .data⟩, ⟨7, .chain⟩, ⟨0, .phase⟩, ⟨1, .phase⟩, ⟨2, .phase⟩, ⟨3, .phase⟩, ⟨4, .phase⟩, ⟨5, .phase⟩, ⟨6, .phase⟩, ⟨7, .phase⟩, ⟨13, .gcOnly .appendInPlace⟩], guard := none }) rfl (fun K hK => ?_) ?_
                    · (have hs0 : Keeps (· = bo) w2 (w2.setCell ⟨bo, 0, none⟩ (.slice (some ⟨g1, 0, none⟩) (nU + 2) cap1)) := (Keeps.refl (· = bo) _).setCell (p := ⟨bo, 0, none⟩) (fun _ => rfl) _; have ho0 := own_keeps hown1 hs0 (fun i hi e => ng ((show g1 = i from by simpa [Value.ownBlock] using hi).trans e)); have hb0_ := hb2.set_ 0 (.slice (some ⟨g1, 0, none⟩) (nU + 2) cap1); have fc := four_cellsM (xs := flatU Ua) (ys := [.int .i64 0, .string ⟨#[]⟩, .int .i64 0, .slice none 0 0]) (m := nU * 4) (a := .int .i64 0) (b := .string ⟨#[]⟩) (c := .int .i64 0) (d := .slice none 0 0) (by first | exact ho0 | (rw [List.append_nil]; exact ho0) | (rw [List.append_assoc]; exact ho0) | (rw [List.append_nil, List.append_assoc]; exact ho0)) (by first | exact HFl.out | (rw [List.length_append, HFl.out]; simp only [List.length_cons, List.length_nil]; omega)); have y0 := fc.1; have y1 := fc.2.1; have y2 := fc.2.2.1; have y3 := fc.2.2.2.1; have u0 := ho0.frozenAt (nU * 4); have u1 := ho0.frozenAt (nU * 4 + 1); have u2 := ho0.frozenAt (nU * 4 + 2); have u3 := ho0.frozenAt (nU * 4 + 3); go_simp)
                      refine hK.out _ _ (fun he => Bool.noConfusion (show false = true from he)) (fun hE => ?_)
                      clear hK K hE
                      try simp only [Act.put, List.setIfInBounds_toArray, List.set_cons_zero, List.set_cons_succ]
                      refine wpAnyT_pure (i := 11) (oi := { dst := some 79, op := Op.indexAddr 45 (Operand.tmp 76) (Operand.tmp 78), type := 0, pos := "iface.go:127", after := #[⟨7, .data⟩, ⟨10, .data⟩, ⟨0, .phase⟩, ⟨1, .phase⟩, ⟨2, .phase⟩, ⟨3, .phase⟩, ⟨4, .phase⟩, ⟨5, .phase⟩, ⟨6, .phase⟩, ⟨7, .phase⟩, ⟨8, .phase⟩, ⟨9, .phase⟩, ⟨10, .phase⟩, ⟨13, .gcOnly .appendInPlace⟩], guard := none }) (v := ?v24_11_10) rfl (by kernel_rfl) (fun _ _ _ h => h) (Or.inl ⟨by rfl, ?y24_11_10⟩) (fun he => Bool.noConfusion (show false = true from he)) ?_
                      case y24_11_10 => (intro w hSw; go_simp; try with_reducible rfl)
                      try simp only [Act.put, List.setIfInBounds_toArray, List.set_cons_zero, List.set_cons_succ]
                      refine wpAnyT_ready (rs := [12]) (by kernel_rfl) rfl ?_
                      refine AllT.cons (o := { dst := none, op := Op.store 47 (Operand.tmp 79) (Operand.tmp 73), type := 0, pos := "iface.go:127", after := #[⟨11, .data⟩, ⟨4, .data⟩, ⟨9, .chain⟩, ⟨0, .phase⟩, ⟨1, .phase⟩, ⟨2, .phase⟩, ⟨3, .phase⟩, ⟨4, .phase⟩, ⟨5, .phase⟩, ⟨6, .phase⟩, ⟨7, .phase⟩, ⟨8, .phase⟩, ⟨9, .phase⟩, ⟨10, .phase⟩, ⟨13, .gcOnly .appendInPlace⟩], guard := none }) rfl (fun K hK => ?_) ?_
                      · (have hs0 : Keeps (· = bo) w2 (w2.setCell ⟨bo, 0, none⟩ (.slice (some ⟨g1, 0, none⟩) (nU + 2) cap1)) := (Keeps.refl (· = bo) _).setCell (p := ⟨bo, 0, none⟩) (fun _ => rfl) _; have ho0 := own_keeps hown1 hs0 (fun i hi e => ng ((show g1 = i from by simpa [Value.ownBlock] using hi).trans e)); have hb0_ := hb2.set_ 0 (.slice (some ⟨g1, 0, none⟩) (nU + 2) cap1); have hs1 : Keeps (· = g1) (w2.setCell ⟨bo, 0, none⟩ (.slice (some ⟨g1, 0, none⟩) (nU + 2) cap1)) (((((w2.setCell ⟨bo, 0, none⟩ (.slice (some ⟨g1, 0, none⟩) (nU + 2) cap1)).setCell ⟨g1, nU * 4, none⟩ (.int .i64 x.arg.kind)).setCell ⟨g1, nU * 4 + 1, none⟩ (.string x.arg.name)).setCell ⟨g1, nU * 4 + 2, none⟩ (.int .i64 x.arg.var)).setCell ⟨g1, nU * 4 + 3, none⟩ (.slice Aa2 x.arg.args.length qa2)) := ((((Keeps.refl (· = g1) (w2.setCell ⟨bo, 0, none⟩ (.slice (some ⟨g1, 0, none⟩) (nU + 2) cap1))).setCell (p := ⟨g1, nU * 4, none⟩) (fun _ => rfl) _).setCell (p := ⟨g1, nU * 4 + 1, none⟩) (fun _ => rfl) _).setCell (p := ⟨g1, nU * 4 + 2, none⟩) (fun _ => rfl) _).setCell (p := ⟨g1, nU * 4 + 3, none⟩) (fun _ => rfl) _; have ho1 := own_four (xs := flatU Ua) (ys := [.int .i64 0, .string ⟨#[]⟩, .int .i64 0, .slice none 0 0]) (m := nU * 4) (u0 := .int .i64 x.arg.kind) (u1 := .string x.arg.name) (u2 := .int .i64 x.arg.var) (u3 := .slice Aa2 x.arg.args.length qa2) (by first | exact ho0 | (rw [List.append_nil]; exact ho0) | (rw [List.append_assoc]; exact ho0) | (rw [List.append_nil, List.append_assoc]; exact ho0)) (by first | exact HFl.out | (rw [List.length_append, HFl.out]; simp only [List.length_cons, List.length_nil]; omega)); have hb1_ := hb0_.keeps hs1 (fun e => ng e.symm); have fc := four_cellsM (xs := (flatU Ua ++ [.int .i64 x.arg.kind, .string x.arg.name, .int .i64 x.arg.var, .slice Aa2 x.arg.args.length qa2])) (ys := []) (m := (nU + 1) * 4) (a := .int .i64 0) (b := .string ⟨#[]⟩) (c := .int .i64 0) (d := .slice none 0 0) (by first | exact ho1 | (rw [List.append_nil]; exact ho1) | (rw [List.append_assoc]; exact ho1) | (rw [List.append_nil, List.append_assoc]; exact ho1)) (by first | exact HFl.out | (rw [List.length_append, HFl.out]; simp only [List.length_cons, List.length_nil]; omega)); have y0 := fc.1; have y1 := fc.2.1; have y2 := fc.2.2.1; have y3 := fc.2.2.2.1; have u0 := ho1.frozenAt ((nU + 1) * 4); have u1 := ho1.frozenAt ((nU + 1) * 4 + 1); have u2 := ho1.frozenAt ((nU + 1) * 4 + 2); have u3 := ho1.frozenAt ((nU + 1) * 4 + 3); go_simp)
                        refine hK.out _ _ (fun he => Bool.noConfusion (show false = true from he)) (fun hE => ?_)
                        clear hK K hE
                        try simp only [Act.put, List.setIfInBounds_toArray, List.set_cons_zero, List.set_cons_succ]
                        refine wpAnyT_done (by kernel_rfl) ?_ _
                        refine NoPanic.normal ?_
                        have hs0 : Keeps (· = bo) w2 (w2.setCell ⟨bo, 0, none⟩ (.slice (some ⟨g1, 0, none⟩) (nU + 2) cap1)) := (Keeps.refl (· = bo) _).setCell (p := ⟨bo, 0, none⟩) (fun _ => rfl) _
                        have ho0 := own_keeps hown1 hs0 (fun i hi e => ng ((show g1 = i from by simpa [Value.ownBlock] using hi).trans e))
                        have hb0_ := hb2.set_ 0 (.slice (some ⟨g1, 0, none⟩) (nU + 2) cap1)
                        have hs1 : Keeps (· = g1) (w2.setCell ⟨bo, 0, none⟩ (.slice (some ⟨g1, 0, none⟩) (nU + 2) cap1)) (((((w2.setCell ⟨bo, 0, none⟩ (.slice (some ⟨g1, 0, none⟩) (nU + 2) cap1)).setCell ⟨g1, nU * 4, none⟩ (.int .i64 x.arg.kind)).setCell ⟨g1, nU * 4 + 1, none⟩ (.string x.arg.name)).setCell ⟨g1, nU * 4 + 2, none⟩ (.int .i64 x.arg.var)).setCell ⟨g1, nU * 4 + 3, none⟩ (.slice Aa2 x.arg.args.length qa2)) := ((((Keeps.refl (· = g1) (w2.setCell ⟨bo, 0, none⟩ (.slice (some ⟨g1, 0, none⟩) (nU + 2) cap1))).setCell (p := ⟨g1, nU * 4, none⟩) (fun _ => rfl) _).setCell (p := ⟨g1, nU * 4 + 1, none⟩) (fun _ => rfl) _).setCell (p := ⟨g1, nU * 4 + 2, none⟩) (fun _ => rfl) _).setCell (p := ⟨g1, nU * 4 + 3, none⟩) (fun _ => rfl) _
                        have ho1 := own_four (xs := flatU Ua) (ys := [.int .i64 0, .string ⟨#[]⟩, .int .i64 0, .slice none 0 0]) (m := nU * 4) (u0 := .int .i64 x.arg.kind) (u1 := .string x.arg.name) (u2 := .int .i64 x.arg.var) (u3 := .slice Aa2 x.arg.args.length qa2) (by first | exact ho0 | (rw [List.append_nil]; exact ho0) | (rw [List.append_assoc]; exact ho0) | (rw [List.append_nil, List.append_assoc]; exact ho0)) (by first | exact HFl.out | (rw [List.length_append, HFl.out]; simp only [List.length_cons, List.length_nil]; omega))
                        have hb1_ := hb0_.keeps hs1 (fun e => ng e.symm)
                        have hs2 : Keeps (· = g1) (((((w2.setCell ⟨bo, 0, none⟩ (.slice (some ⟨g1, 0, none⟩) (nU + 2) cap1)).setCell ⟨g1, nU * 4, none⟩ (.int .i64 x.arg.kind)).setCell ⟨g1, nU * 4 + 1, none⟩ (.string x.arg.name)).setCell ⟨g1, nU * 4 + 2, none⟩ (.int .i64 x.arg.var)).setCell ⟨g1, nU * 4 + 3, none⟩ (.slice Aa2 x.arg.args.length qa2)) (((((((((w2.setCell ⟨bo, 0, none⟩ (.slice (some ⟨g1, 0, none⟩) (nU + 2) cap1)).setCell ⟨g1, nU * 4, none⟩ (.int .i64 x.arg.kind)).setCell ⟨g1, nU * 4 + 1, none⟩ (.string x.arg.name)).setCell ⟨g1, nU * 4 + 2, none⟩ (.int .i64 x.arg.var)).setCell ⟨g1, nU * 4 + 3, none⟩ (.slice Aa2 x.arg.args.length qa2)).setCell ⟨g1, (nU + 1) * 4, none⟩ (.int .i64 x.res.kind)).setCell ⟨g1, (nU + 1) * 4 + 1, none⟩ (.string x.res.name)).setCell ⟨g1, (nU + 1) * 4 + 2, none⟩ (.int .i64 x.res.var)).setCell ⟨g1, (nU + 1) * 4 + 3, none⟩ (.slice Aa3 x.res.args.length qa3)) := ((((Keeps.refl (· = g1) (((((w2.setCell ⟨bo, 0, none⟩ (.slice (some ⟨g1, 0, none⟩) (nU + 2) cap1)).setCell ⟨g1, nU * 4, none⟩ (.int .i64 x.arg.kind)).setCell ⟨g1, nU * 4 + 1, none⟩ (.string x.arg.name)).setCell ⟨g1, nU * 4 + 2, none⟩ (.int .i64 x.arg.var)).setCell ⟨g1, nU * 4 + 3, none⟩ (.slice Aa2 x.arg.args.length qa2))).setCell (p := ⟨g1, (nU + 1) * 4, none⟩) (fun _ => rfl) _).setCell (p := ⟨g1, (nU + 1) * 4 + 1, none⟩) (fun _ => rfl) _).setCell (p := ⟨g1, (nU + 1) * 4 + 2, none⟩) (fun _ => rfl) _).setCell (p := ⟨g1, (nU + 1) * 4 + 3, none⟩) (fun _ => rfl) _
                        have ho2 := own_four (xs := (flatU Ua ++ [.int .i64 x.arg.kind, .string x.arg.name, .int .i64 x.arg.var, .slice Aa2 x.arg.args.length qa2])) (ys := []) (m := (nU + 1) * 4) (u0 := .int .i64 x.res.kind) (u1 := .string x.res.name) (u2 := .int .i64 x.res.var) (u3 := .slice Aa3 x.res.args.length qa3) (by first | exact ho1 | (rw [List.append_nil]; exact ho1) | (rw [List.append_assoc]; exact ho1) | (rw [List.append_nil, List.append_assoc]; exact ho1)) (by first | exact HFl.out | (rw [List.length_append, HFl.out]; simp only [List.length_cons, List.length_nil]; omega))
                        have hb2_ := hb1_.keeps hs2 (fun e => ng e.symm)
                        have hof : World.ownsRow (((((((((w2.setCell ⟨bo, 0, none⟩ (.slice (some ⟨g1, 0, none⟩) (nU + 2) cap1)).setCell ⟨g1, nU * 4, none⟩ (.int .i64 x.arg.kind)).setCell ⟨g1, nU * 4 + 1, none⟩ (.string x.arg.name)).setCell ⟨g1, nU * 4 + 2, none⟩ (.int .i64 x.arg.var)).setCell ⟨g1, nU * 4 + 3, none⟩ (.slice Aa2 x.arg.args.length qa2)).setCell ⟨g1, (nU + 1) * 4, none⟩ (.int .i64 x.res.kind)).setCell ⟨g1, (nU + 1) * 4 + 1, none⟩ (.string x.res.name)).setCell ⟨g1, (nU + 1) * 4 + 2, none⟩ (.int .i64 x.res.var)).setCell ⟨g1, (nU + 1) * 4 + 3, none⟩ (.slice Aa3 x.res.args.length qa3)) B 47 4 (.slice (some ⟨g1, 0, none⟩) (nU + 2) cap1) (nU + 2) (flatU Ua ++ [.int .i64 x.arg.kind, .string x.arg.name, .int .i64 x.arg.var, .slice Aa2 x.arg.args.length qa2, .int .i64 x.res.kind, .string x.res.name, .int .i64 x.res.var, .slice Aa3 x.res.args.length qa3]) := by first | exact ho2 | (have h := ho2; rw [List.append_nil] at h; exact h) | (have h := ho2; rw [List.append_nil, List.append_assoc] at h; exact h) | (have h := ho2; rw [List.append_assoc] at h; exact h)
                        have HTo := Lib.hid (HPut.out _ g1 cap1 ((((hk1.mono (Y := fun i => (Value.slice A0 nU c0).ownBlock = some i ∨ i = bo ∨ i = g1) (fun _ _ h => .inl h)).trans hs0 (fun i _ h => .inr (.inl h))).trans hs1 (fun i _ h => .inr (.inr h))).trans hs2 (fun i _ h => .inr (.inr h))) hb2_ hof hat1')
                        clear hown1 hk1 hkp1 hat1 hb2 ng hof hat1' hs0 ho0 hb0_ hs1 ho1 hb1_ hs2 ho2 hb2_
                        have HTS := Lib.hid (HRel.out _ HTo.out)
                        clear HTo
                        go_wp2_with fail
                        go_roundw
                        case rel => exact ⟨j + 1, by omega, by go_num, HTS.out⟩
                        case measure => simp [intOf]; omega
                      exact AllT.nil
                    exact AllT.nil
                  exact AllT.nil
                exact AllT.nil
              exact AllT.nil
            · obtain rfl : j = f.ops.length := by omega
              have k1 : ¬ ((f.ops.length : Nat) : Int) < (f.ops.length : Int) := by omega
              rw [List.take_of_length_le (Nat.le_refl _), HXO.out] at hT
              have HS3 := Lib.hid hT.out
              have x7 := (HBx.out _ _ hT.out).cell (i := 7) rfl
              clear hT hlt hj
              go_wp2_with fail
              go_loopw [84] (fun i wr => ∃ j : Nat, j ≤ f.vals.length ∧ .int .i64 (j : Int) = i ∧ Hid (TS F W0 B bo (.slice none 0 0) W0 (XD ++ XC ++ XO ++ (f.vals.take j).flatMap valT) wr)) (fun i _ => f.vals.length - (intOf i).toNat)
              case atStart => exact ⟨0, Nat.zero_le _, rfl, by rw [List.take_zero, List.flatMap_nil, List.append_nil]; exact HS3.out⟩
              case round =>
                obtain ⟨j, hj, rfl, hT⟩ := hrel
                by_cases hlt : j < f.vals.length
                · have hft := fl_take valT f.vals j hlt
                  have hfl := fl_le valT f.vals j hlt
                  obtain ⟨gg, off, va2, va3, hA, hgF, da0, da1, da2, da3, da4, da5, da6, sa0, sa1, sa2, sa3⟩ := ValSig.get HVa.out hlt
                  obtain ⟨x, hxa⟩ : ∃ y, f.vals[j] = y := ⟨_, rfl⟩
                  rw [hxa] at hft hfl da0 da1 da3 da4 da5 sa2 sa3
                  obtain ⟨Aa2, qa2, rfl, hqa2, hma2, -⟩ := sa2.form
                  have hla2 : x.preds.length ≤ 9223372036854775807 := by unfold maxLen at hma2; omega
                  clear hma2 hqa2
                  obtain ⟨Aa3, qa3, rfl, -, -, -⟩ := sa3.form
                  subst hA
                  have hfar : ¬ Own2 bo (.slice none 0 0) gg := HFar.out gg hgF
                  have ca0 := (hT.out).keeps.cell da0 hfar
                  have ca1 := (hT.out).keeps.cell da1 hfar
                  have ca2 := (hT.out).keeps.cell da2 hfar
                  have ca3 := (hT.out).keeps.cell da3 hfar
                  have ca4 := (hT.out).keeps.cell da4 hfar
                  have ca5 := (hT.out).keeps.cell da5 hfar
                  have ca6 := (hT.out).keeps.cell da6 hfar
                  clear da0 da1 da2 da3 da4 da5 da6 sa0 sa1 hfar hgF
                  obtain ⟨ba, hba⟩ : ∃ b, wr.heap.size = b := ⟨_, rfl⟩
                  obtain ⟨Wa, hWa⟩ : ∃ w, wr.alloc (.cells #[.string x.name, .int .i64 x.vars, .slice Aa2 x.preds.length qa2, .int .i64 x.ty.kind, .string x.ty.name, .int .i64 x.ty.var, .slice Aa3 x.ty.args.length qa3] 61) = w := ⟨_, rfl⟩
                  have hkw : Keeps (fun _ => False) wr Wa := by rw [← hWa]; exact (Keeps.refl _ _).alloc _
                  have hbxa : Blk Wa ba 61 [.string x.name, .int .i64 x.vars, .slice Aa2 x.preds.length qa2, .int .i64 x.ty.kind, .string x.ty.name, .int .i64 x.ty.var, .slice Aa3 x.ty.args.length qa3] := by rw [← hWa, ← hba]; exact Blk.new wr _ [_, _, _, _, _, _, _]
                  obtain ⟨va, Ua, hUa, hGa, ta, hupa, hlta, hloa⟩ := hT.out.rebase hkw HB.out
                  have hnta : ¬ Own2 bo va ba := fun h => by have := hlta ba h; omega
                  have hKda : Keeps (Own2 bo (.slice none 0 0)) W0 Wa := (hT.out).keeps.trans hkw (fun _ _ h => h.elim)
                  have HKda := Lib.hid hKda
                  have hBW : B ≤ Wa.heap.size := Nat.le_trans HB.out (Nat.le_of_lt (ta.lt bo (.inl rfl)))
                  have HUpa := Lib.hid hupa
                  have HLoa := Lib.hid hloa
                  have hUla : Ua.length = (XD ++ XC ++ XO ++ (f.vals.take j).flatMap valT).length := by rw [← hUa, List.length_map]
                  have HWa := Lib.hid hWa
                  have HBba := Lib.hid hba
                  clear hkw hupa hlta hloa hKda hWa hba
                  have Hsa2 := Lib.hid sa2
                  clear sa2
                  have Hsa3 := Lib.hid sa3
                  clear sa3
                  have k0 : (0 : Int) ≤ (j : Int) := by omega
                  have k1 : (j : Int) < (f.vals.length : Int) := by omega
                  rw [HXV.out] at hfl
                  have hub : Ua.length + 1 + x.preds.length ≤ 4194304 := by
                    have h2 := HN.out
                    have h3 : (valT x).length = 1 + x.preds.length := by unfold valT schemeP; rw [List.length_cons, List.length_map]; omega
                    rw [hUla, List.length_append, List.length_append, List.length_append]; omega
                  have HRel : Hid (∀ (w5 : World) (V : List (Ty × Value)), V.map Prod.fst = schemeP x.ty x.preds → Good Wa F V → TTo B bo va Wa (Ua ++ V) w5 → TS F W0 B bo (.slice none 0 0) W0 (XD ++ XC ++ XO ++ (f.vals.take (j + 1)).flatMap valT) w5) := fun w5 V g1 g2 g3 =>
                    HUpa.out _ _ ⟨Ua ++ V, by rw [List.map_append, hUa, g1, hft, List.append_assoc]; rfl, hGa.app (fun p hp => tyc_back (g2 p hp) HKda.out HFb.out), g3⟩
                  have z1 := hbxa.cell (i := 1) rfl
                  have z2 := hbxa.cell (i := 2) rfl
                  have z3 := hbxa.cell (i := 3) rfl
                  have z4 := hbxa.cell (i := 4) rfl
                  have z5 := hbxa.cell (i := 5) rfl
                  have z6 := hbxa.cell (i := 6) rfl
                  have HSc := Lib.hid (scheme_any Wa F B bo va Ua HF.out HB.out Wa HLoa.out ta.to x.vars x.preds _ x.ty _ (Hsa2.out.keeps HKda.out HFar.out) (Hsa3.out.keeps HKda.out HFar.out) hub)
                  clear ta hGa hUa hUla hnta hbxa hft hfl hub hBW hxa
                  go_upto_region 29 with (fail)
                  rw [HWa.out, HBba.out]
                  clear ca0 ca1 ca2 ca3 ca4 ca5 ca6
                  clear k0 k1
                  go_wp2_with fail
                  refine HSc.out.mono ?_
                  rintro e w5 ⟨rfl, V, g1, g2, g3⟩
                  have HTS := Lib.hid (HRel.out _ _ g1 g2 g3)
                  clear g1 g2 g3 HSc HRel
                  go_wp2_with fail
                  go_roundw
                  case rel => exact ⟨j + 1, by omega, by go_num, HTS.out⟩
                  case measure => simp [intOf]; omega
                · obtain rfl : j = f.vals.length := by omega
                  have k1 : ¬ ((f.vals.length : Nat) : Int) < (f.vals.length : Int) := by omega
                  rw [List.take_of_length_le (Nat.le_refl _), HXV.out] at hT
                  have HS4 := Lib.hid hT.out
                  have x5 := (HBx.out _ _ hT.out).cell (i := 5) rfl
                  clear hT hlt hj
                  go_wp2_with fail
                  go_loopw [96] (fun i wr => ∃ j : Nat, j ≤ f.insts.length ∧ .int .i64 (j : Int) = i ∧ Hid (TS F W0 B bo (.slice none 0 0) W0 (XD ++ XC ++ XO ++ XV ++ (f.insts.take j).flatMap instT) wr)) (fun i _ => f.insts.length - (intOf i).toNat)
                  case atStart => exact ⟨0, Nat.zero_le _, rfl, by rw [List.take_zero, List.flatMap_nil, List.append_nil]; exact HS4.out⟩
                  case round =>
                    obtain ⟨j, hj, rfl, hT⟩ := hrel
                    by_cases hlt : j < f.insts.length
                    · have hft := fl_take instT f.insts j hlt
                      have hfl := fl_le instT f.insts j hlt
                      obtain ⟨gg, off, va1, va2, hA, hgF, da0, da1, da2, da3, da4, da5, sa0, sa1, sa2⟩ := InstSig.get HIn.out hlt
                      obtain ⟨x, hxa⟩ : ∃ y, f.insts[j] = y := ⟨_, rfl⟩
                      rw [hxa] at hft hfl da0 da1 da2 da3 sa1 sa2
                      obtain ⟨Aa1, qa1, rfl, -, -, -⟩ := sa1.form
                      obtain ⟨Aa2, qa2, rfl, hqa2, hma2, -⟩ := sa2.form
                      have hla2 : x.preds.length ≤ 9223372036854775807 := by unfold maxLen at hma2; omega
                      clear hma2 hqa2
                      subst hA
                      have hfar : ¬ Own2 bo (.slice none 0 0) gg := HFar.out gg hgF
                      have ca0 := (hT.out).keeps.cell da0 hfar
                      have ca1 := (hT.out).keeps.cell da1 hfar
                      have ca2 := (hT.out).keeps.cell da2 hfar
                      have ca3 := (hT.out).keeps.cell da3 hfar
                      have ca4 := (hT.out).keeps.cell da4 hfar
                      have ca5 := (hT.out).keeps.cell da5 hfar
                      clear da0 da1 da2 da3 da4 da5 sa0 hfar hgF
                      obtain ⟨ba, hba⟩ : ∃ b, wr.heap.size = b := ⟨_, rfl⟩
                      obtain ⟨Wa, hWa⟩ : ∃ w, wr.alloc (.cells #[.string x.cls, .int .i64 x.head.kind, .string x.head.name, .int .i64 x.head.var, .slice Aa1 x.head.args.length qa1, .slice Aa2 x.preds.length qa2] 78) = w := ⟨_, rfl⟩
                      have hkw : Keeps (fun _ => False) wr Wa := by rw [← hWa]; exact (Keeps.refl _ _).alloc _
                      have hbxa : Blk Wa ba 78 [.string x.cls, .int .i64 x.head.kind, .string x.head.name, .int .i64 x.head.var, .slice Aa1 x.head.args.length qa1, .slice Aa2 x.preds.length qa2] := by rw [← hWa, ← hba]; exact Blk.new wr _ [_, _, _, _, _, _]
                      obtain ⟨va, Ua, hUa, hGa, ta, hupa, hlta, hloa⟩ := hT.out.rebase hkw HB.out
                      have hnta : ¬ Own2 bo va ba := fun h => by have := hlta ba h; omega
                      have hKda : Keeps (Own2 bo (.slice none 0 0)) W0 Wa := (hT.out).keeps.trans hkw (fun _ _ h => h.elim)
                      have HKda := Lib.hid hKda
                      have hBW : B ≤ Wa.heap.size := Nat.le_trans HB.out (Nat.le_of_lt (ta.lt bo (.inl rfl)))
                      have HUpa := Lib.hid hupa
                      have HLoa := Lib.hid hloa
                      have hUla : Ua.length = (XD ++ XC ++ XO ++ XV ++ (f.insts.take j).flatMap instT).length := by rw [← hUa, List.length_map]
                      have HWa := Lib.hid hWa
                      have HBba := Lib.hid hba
                      clear hkw hupa hlta hloa hKda hWa hba
                      have Hsa1 := Lib.hid sa1
                      clear sa1
                      have Hsa2 := Lib.hid sa2
                      clear sa2
                      have k0 : (0 : Int) ≤ (j : Int) := by omega
                      have k1 : (j : Int) < (f.insts.length : Int) := by omega
                      rw [HXI.out] at hfl
                      have h3 : (instT x).length = 1 + x.preds.length := by unfold instT; rw [List.length_cons, List.length_map]; omega
                      have hul : (XD ++ XC ++ XO ++ XV ++ (f.insts.take j).flatMap instT).length + 1 + x.preds.length ≤ 4194304 := by
                        have h2 := HN.out
                        rw [List.length_append, List.length_append, List.length_append, List.length_append]; omega
                      have HUl := Lib.hid hul
                      have hub : Ua.length + 1 ≤ 4194304 := by rw [hUla]; omega
                      have HFt := Lib.hid hft
                      have HRel : Hid (∀ X', TTo B bo va Wa (Ua ++ [(x.head, .slice Aa1 x.head.args.length qa1)]) X' → TS F W0 B bo va Wa (XD ++ XC ++ XO ++ XV ++ (f.insts.take j).flatMap instT ++ [x.head]) X') := fun X' hX =>
                        ⟨Ua ++ [(x.head, .slice Aa1 x.head.args.length qa1)], by rw [List.map_append, hUa]; rfl, hGa.app (good_one Hsa1.out), hX⟩
                      have HBxa : Hid (∀ Y w', TS F W0 B bo va Wa Y w' → Blk w' ba 78 [.string x.cls, .int .i64 x.head.kind, .string x.head.name, .int .i64 x.head.var, .slice Aa1 x.head.args.length qa1, .slice Aa2 x.preds.length qa2]) := fun Y w' hX => hbxa.keeps hX.keeps hnta
                      obtain ⟨nU, hnU⟩ : ∃ nU, Ua.length = nU := ⟨_, rfl⟩
                      have hown := ta.row
                      rw [hnU] at hown
                      obtain ⟨A0, c0, rfl⟩ := row_form hown
                      have HFl : Hid ((flatU Ua).length = nU * 4) := by show _ = _; rw [flatU_len, hnU]
                      have HMq : Hid (nU + 1 ≤ maxLen) := by show _ ≤ _; unfold maxLen; omega
                      have HBq : Hid ((nU + 1) * 56 ≤ 140737488355328) := by show _ ≤ _; omega
                      have HBZ := Lib.hid hBW
                      have HOwn := Lib.hid hown
                      have HBo : Hid (∀ X, Keeps (fun i => (Value.slice A0 nU c0).ownBlock = some i) Wa X → Blk X bo 45 [(Value.slice A0 nU c0)]) := fun X hk => ta.box.keeps hk ta.nV
                      have HNg : Hid (∀ g, ((Value.slice A0 nU c0).ownBlock = some g ∨ Wa.heap.size ≤ g) → ¬ g = bo) := fun g hg e => by
                        subst e
                        rcases hg with h | h
                        · exact ta.nV h
                        · have := ta.box.lt; omega
                      have HPut : Hid (∀ (w3 : World) (g1 cap1 : Nat), Keeps (fun i => (Value.slice A0 nU c0).ownBlock = some i ∨ i = bo ∨ i = g1) Wa w3 → Blk w3 bo 45 [.slice (some ⟨g1, 0, none⟩) (nU + 1) cap1] → w3.ownsRow B 47 4 (.slice (some ⟨g1, 0, none⟩) (nU + 1) cap1) (nU + 1) (flatU Ua ++ [.int .i64 x.head.kind, .string x.head.name, .int .i64 x.head.var, .slice Aa1 x.head.args.length qa1]) → ((Value.slice A0 nU c0).ownBlock = some g1 ∨ Wa.heap.size ≤ g1) → TTo B bo (Value.slice A0 nU c0) Wa (Ua ++ [(x.head, .slice Aa1 x.head.args.length qa1)]) w3) := fun w3 g1 cap1 q1 q2 q3 q4 => by
                        subst hnU
                        refine ta.put [(x.head, .slice Aa1 x.head.args.length qa1)] (.inr (q1.mono (fun i _ hi => ?_))) q2 (by rw [show flatU [(x.head, .slice Aa1 x.head.args.length qa1)] = [.int .i64 x.head.kind, .string x.head.name, .int .i64 x.head.var, .slice Aa1 x.head.args.length qa1] from rfl]; exact q3) q4
                        rcases hi with h | h | h
                        · exact .inl (.inr h)
                        · exact .inl (.inl h)
                        · subst h
                          exact q4.imp .inr id
                      have hQ : Hid (∀ X, Keeps (fun i => (Value.slice A0 nU c0).ownBlock = some i) Wa X → (X.cell? ⟨bo, 0, none⟩ = some ((Value.slice A0 nU c0)) ∧ X.cell? ⟨ba, 1, none⟩ = some (.int .i64 x.head.kind) ∧ X.cell? ⟨ba, 2, none⟩ = some (.string x.head.name) ∧ X.cell? ⟨ba, 3, none⟩ = some (.int .i64 x.head.var) ∧ X.cell? ⟨ba, 4, none⟩ = some (.slice Aa1 x.head.args.length qa1))) := fun X hk => by
                        have hx := ta.box.keeps hk ta.nV
                        have hy := hbxa.keeps hk (fun e => hnta (.inr e))
                        exact ⟨hx.cell (i := 0) rfl, hy.cell (i := 1) rfl, hy.cell (i := 2) rfl, hy.cell (i := 3) rfl, hy.cell (i := 4) rfl⟩
                      have kn0 : (0 : Int) ≤ (nU : Int) := by omega
                      have kn1 : (nU : Int) < (nU : Int) + 1 := by omega
                      have kn2 : (nU : Int) + 1 < (nU : Int) + 2 := by omega
                      have kn3 : (nU : Int) ≤ 4194304 := by omega
                      have kn4 : IntKind.i64.wrap ((nU : Int) + 1) = (nU : Int) + 1 := by rw [IntKind.wrap_i64]; omega
                      have kn5 : ((nU : Int) + 1).toNat * 4 = nU * 4 + 4 := by omega
                      have kn6 : (0 : Int) ≤ (nU : Int) + 1 := by omega
                      clear ta hGa hUa hUla hnta hbxa hft hfl h3 hul hub hBW hxa hown hnU
                      go_upto_region 34 with (fail)
                      rw [HWa.out, HBba.out]
                      clear ca0 ca1 ca2 ca3 ca4 ca5
                      clear k0 k1
                      go_cut [] from 100 to 106 (fun wd => TS F W0 B bo (Value.slice A0 nU c0) Wa (XD ++ XC ++ XO ++ XV ++ (f.insts.take j).flatMap instT ++ [x.head]) wd)
                      case first =>
                        refine wp_region_noPanic ?_
                        refine wp_region_till [7, 8] (fun X => X.cell? ⟨bo, 0, none⟩ = some ((Value.slice A0 nU c0)) ∧ X.cell? ⟨ba, 1, none⟩ = some (.int .i64 x.head.kind) ∧ X.cell? ⟨ba, 2, none⟩ = some (.string x.head.name) ∧ X.cell? ⟨ba, 3, none⟩ = some (.int .i64 x.head.var) ∧ X.cell? ⟨ba, 4, none⟩ = some (.slice Aa1 x.head.args.length qa1)) (by kernel_rfl) ?_ (fun hE => ?_)
                        · first | exact hQ.out _ hk1 | exact hQ.out _ (Keeps.mono (show Keeps (fun _ => False) Wa _ from (by repeat (first | (with_reducible exact Keeps.refl _ _) | (with_reducible assumption) | (with_reducible refine Keeps.drew ?_) | (with_reducible refine Keeps.drewN ?_ _) | (with_reducible refine Keeps.alloc ?_ _) | (with_reducible refine Keeps.trans ?_ (by assumption) (fun _ _ h => h))))) (fun _ _ h => h.elim))
                        have hS := hE (by kernel_rfl)
                        refine wpAnyT_take (i := 0) (oi := { dst := some 100, op := Op.load 45 (Operand.tmp 3), type := 45, pos := "iface.go:133", after := #[], guard := none }) (v := ?v34_0_1) rfl (by kernel_rfl) (fun _ _ _ h => h) (Or.inl ⟨by rfl, ?y34_0_1⟩) hS ?_
                        case y34_0_1 => (intro w hSw; (try dsimp only at hSw); go_simp; try with_reducible rfl)
                        try simp only [Act.put, List.setIfInBounds_toArray, List.set_cons_zero, List.set_cons_succ]
                        refine wpAnyT_pure (i := 1) (oi := { dst := some 101, op := Op.fieldAddr 78 (Operand.tmp 18) 1, type := 0, pos := "iface.go:133", after := #[], guard := none }) (v := ?v34_1_2) rfl (by kernel_rfl) (fun _ _ _ h => h) (Or.inl ⟨by rfl, ?y34_1_2⟩) (fun _ => hS) ?_
                        case y34_1_2 => (intro w hSw; go_simp; try with_reducible rfl)
                        try simp only [Act.put, List.setIfInBounds_toArray, List.set_cons_zero, List.set_cons_succ]
                        refine wpAnyT_take (i := 2) (oi := { dst := some 102, op := Op.load 47 (Operand.tmp 101), type := 47, pos := "iface.go:133", after := #[⟨1, .data⟩], guard := none }) (v := ?v34_2_3) rfl (by kernel_rfl) (fun _ _ _ h => h) (Or.inl ⟨by rfl, ?y34_2_3⟩) hS ?_
                        case y34_2_3 => (intro w hSw; (try dsimp only at hSw); go_simp; try with_reducible rfl)
                        try simp only [Act.put, List.setIfInBounds_toArray, List.set_cons_zero, List.set_cons_succ]
                        refine wpAnyT_pure (i := 3) (oi := { dst := some 103, op := Op.call { callee := Callee.builtin Builtin.len, args := #[Operand.tmp 100], argTypes := #[45] }, type := 3, pos := "iface.go:133", after := #[⟨0, .data⟩], guard := none }) (v := ?v34_3_4) rfl (by kernel_rfl) (fun _ _ _ h => h) (Or.inl ⟨by rfl, ?y34_3_4⟩) (fun _ => hS) ?_
                        case y34_3_4 => (intro w hSw; go_simp; try with_reducible rfl)
                        try simp only [Act.put, List.setIfInBounds_toArray, List.set_cons_zero, List.set_cons_succ]
                        refine wpAnyT_ready (rs := [4]) (by kernel_rfl) rfl ?_
                        refine AllT.cons (o := { dst := some 104, op := Op.buildSlice 45 1 #[(0, Operand.const (Value.agg #[Value.int IntKind.i64 0, Value.string { data := #[] }, Value.int IntKind.i64 0, Value.slice none 0 0]))], type := 45, pos := "iface.go:133", after := #[], guard := none }) rfl (fun K hK => ?_) ?_
                        · go_simp
                          refine hK.out _ _ (fun _ => ?_) (fun hE => ?_)
                          · first | exact hQ.out _ hk1 | exact hQ.out _ (Keeps.mono (show Keeps (fun _ => False) Wa _ from (by repeat (first | (with_reducible exact Keeps.refl _ _) | (with_reducible assumption) | (with_reducible refine Keeps.drew ?_) | (with_reducible refine Keeps.drewN ?_ _) | (with_reducible refine Keeps.alloc ?_ _) | (with_reducible refine Keeps.trans ?_ (by assumption) (fun _ _ h => h))))) (fun _ _ h => h.elim))
                          have hS := hE (by kernel_rfl)
                          clear hK K hE
                          try simp only [Act.put, List.setIfInBounds_toArray, List.set_cons_zero, List.set_cons_succ]
                          refine wpAnyT_ready (rs := [5]) (by kernel_rfl) rfl ?_
                          refine AllT.cons (o := { dst := some 105, op := Op.call { callee := Callee.builtin Builtin.append, args := #[Operand.tmp 100, Operand.tmp 104], argTypes := #[45, 45] }, type := 45, pos := "iface.go:133", after := #[⟨0, .data⟩, ⟨4, .data⟩, ⟨0, .phase⟩, ⟨1, .phase⟩, ⟨2, .phase⟩, ⟨3, .phase⟩, ⟨4, .phase⟩], guard := none }) rfl (fun K hK => ?_) ?_
                          · (refine step_append_kept_m (W0 := Wa) rfl (.tmp 100) (.tmp 104) 45 rfl B 47 it _ 4 56 Tryd.underlying45 hi0 hz0 hz1 hz2 rfl (by decide) (Value.slice A0 nU c0) nU (flatU Ua) rfl HOwn.out (by repeat (first | (with_reducible exact Keeps.refl _ _) | (with_reducible assumption) | (with_reducible refine Keeps.drew ?_) | (with_reducible refine Keeps.drewN ?_ _) | (with_reducible refine Keeps.alloc ?_ _) | (with_reducible refine Keeps.trans ?_ (by assumption) (fun _ _ h => h)))) _ 1 _ #[.int .i64 0, .string ⟨#[]⟩, .int .i64 0, .slice none 0 0] rfl (by decide) rfl (by first | exact heap_new_at (by simp) | exact heap_new_at (w := Wa) (by simp)) (by simp [Value.oneCell']) HMq.out HBq.out HBZ.out ?_; intro g1 cap1 w2 hown1 hk1 hkp1 hat1; have hb2 := HBo.out _ hk1; have hat1' : (Value.slice A0 nU c0).ownBlock = some g1 ∨ Wa.heap.size ≤ g1 := hat1.imp id (fun h => Nat.le_trans (Keeps.size (show Keeps (fun _ => False) Wa _ from (by repeat (first | (with_reducible exact Keeps.refl _ _) | (with_reducible assumption) | (with_reducible refine Keeps.drew ?_) | (with_reducible refine Keeps.drewN ?_ _) | (with_reducible refine Keeps.alloc ?_ _) | (with_reducible refine Keeps.trans ?_ (by assumption) (fun _ _ h => h)))))) h); have ng := HNg.out g1 hat1')
                            refine hK.out _ _ (fun _ => ?_) (fun hE => ?_)
                            · first | exact hQ.out _ hk1 | exact hQ.out _ (Keeps.mono (show Keeps (fun _ => False) Wa _ from (by repeat (first | (with_reducible exact Keeps.refl _ _) | (with_reducible assumption) | (with_reducible refine Keeps.drew ?_) | (with_reducible refine Keeps.drewN ?_ _) | (with_reducible refine Keeps.alloc ?_ _) | (with_reducible refine Keeps.trans ?_ (by assumption) (fun _ _ h => h))))) (fun _ _ h => h.elim))
                            have hS := hE (by kernel_rfl)
                            clear hK K hE
                            try simp only [Act.put, List.setIfInBounds_toArray, List.set_cons_zero, List.set_cons_succ]
                            refine wpAnyT_pure (i := 6) (oi := { dst := some 106, op := Op.indexAddr 45 (Operand.tmp 105) (Operand.tmp 103), type := 0, pos := "iface.go:133", after := #[⟨5, .data⟩, ⟨3, .data⟩, ⟨0, .phase⟩, ⟨1, .phase⟩, ⟨2, .phase⟩, ⟨3, .phase⟩, ⟨4, .phase⟩, ⟨5, .phase⟩, ⟨8, .gcOnly .appendInPlace⟩], guard := none }) (v := ?v34_6_5) rfl (by kernel_rfl) (fun _ _ _ h => h) (Or.inl ⟨by rfl, ?y34_6_5⟩) (fun _ => hS) ?_
                            case y34_6_5 => (intro w hSw; go_simp; try with_reducible rfl)
                            try simp only [Act.put, List.setIfInBounds_toArray, List.set_cons_zero, List.set_cons_succ]
                            refine wpAnyT_ready (rs := [7, 8]) (by kernel_rfl) rfl ?_
                            refine AllT.cons (o := { dst := none, op := Op.store 47 (Operand.tmp 106) (Operand.tmp 102), type := 0, pos := "iface.go:133", after := #[⟨6, .data⟩, ⟨2, .data⟩, ⟨5, .chain⟩, ⟨0, .phase⟩, ⟨1, .phase⟩, ⟨2, .phase⟩, ⟨3, .phase⟩, ⟨4, .phase⟩, ⟨5, .phase⟩, ⟨8, .gcOnly .appendInPlace⟩], guard := none }) rfl (fun K hK => ?_) ?_
                            · (have fc := four_cellsM (xs := flatU Ua) (ys := []) (m := nU * 4) (a := .int .i64 0) (b := .string ⟨#[]⟩) (c := .int .i64 0) (d := .slice none 0 0) (by first | exact hown1 | (rw [List.append_nil]; exact hown1) | (rw [List.append_assoc]; exact hown1) | (rw [List.append_nil, List.append_assoc]; exact hown1)) (by first | exact HFl.out | (rw [List.length_append, HFl.out]; simp only [List.length_cons, List.length_nil]; omega)); have y0 := fc.1; have y1 := fc.2.1; have y2 := fc.2.2.1; have y3 := fc.2.2.2.1; have u0 := hown1.frozenAt (nU * 4); have u1 := hown1.frozenAt (nU * 4 + 1); have u2 := hown1.frozenAt (nU * 4 + 2); have u3 := hown1.frozenAt (nU * 4 + 3); go_simp)
                              refine hK.out _ _ (fun he => Bool.noConfusion (show false = true from he)) (fun hE => ?_)
                              clear hK K hE
                              try simp only [Act.put, List.setIfInBounds_toArray, List.set_cons_zero, List.set_cons_succ]
                              refine wpAnyT_ready (rs := [8]) (by kernel_rfl) rfl ?_
                              refine AllT.cons (o := { dst := none, op := Op.store 45 (Operand.tmp 3) (Operand.tmp 105), type := 0, pos := "iface.go:133", after := #[⟨5, .data⟩, ⟨5, .chain⟩, ⟨7, .textOnly .appendInPlace⟩, ⟨0, .phase⟩, ⟨1, .phase⟩, ⟨2, .phase⟩, ⟨3, .phase⟩, ⟨4, .phase⟩, ⟨5, .phase⟩, ⟨6, .textOnly .appendInPlace⟩, ⟨7, .textOnly .appendInPlace⟩], guard := none }) rfl (fun K hK => ?_) ?_
                              · (have hs0 : Keeps (· = g1) w2 ((((w2.setCell ⟨g1, nU * 4, none⟩ (.int .i64 x.head.kind)).setCell ⟨g1, nU * 4 + 1, none⟩ (.string x.head.name)).setCell ⟨g1, nU * 4 + 2, none⟩ (.int .i64 x.head.var)).setCell ⟨g1, nU * 4 + 3, none⟩ (.slice Aa1 x.head.args.length qa1)) := ((((Keeps.refl (· = g1) w2).setCell (p := ⟨g1, nU * 4, none⟩) (fun _ => rfl) _).setCell (p := ⟨g1, nU * 4 + 1, none⟩) (fun _ => rfl) _).setCell (p := ⟨g1, nU * 4 + 2, none⟩) (fun _ => rfl) _).setCell (p := ⟨g1, nU * 4 + 3, none⟩) (fun _ => rfl) _; have ho0 := own_four (xs := flatU Ua) (ys := []) (m := nU * 4) (u0 := .int .i64 x.head.kind) (u1 := .string x.head.name) (u2 := .int .i64 x.head.var) (u3 := .slice Aa1 x.head.args.length qa1) (by first | exact hown1 | (rw [List.append_nil]; exact hown1) | (rw [List.append_assoc]; exact hown1) | (rw [List.append_nil, List.append_assoc]; exact hown1)) (by first | exact HFl.out | (rw [List.length_append, HFl.out]; simp only [List.length_cons, List.length_nil]; omega)); have hb0_ := hb2.keeps hs0 (fun e => ng e.symm); have z0 := hb0_.cell (i := 0) rfl; have z1 := hb0_.free 0; go_simp)
                                refine hK.out _ _ (fun he => Bool.noConfusion (show false = true from he)) (fun hE => ?_)
                                clear hK K hE
                                try simp only [Act.put, List.setIfInBounds_toArray, List.set_cons_zero, List.set_cons_succ]
                                refine wpAnyT_done (by kernel_rfl) ?_ _
                                refine NoPanic.normal ?_
                                have hs0 : Keeps (· = g1) w2 ((((w2.setCell ⟨g1, nU * 4, none⟩ (.int .i64 x.head.kind)).setCell ⟨g1, nU * 4 + 1, none⟩ (.string x.head.name)).setCell ⟨g1, nU * 4 + 2, none⟩ (.int .i64 x.head.var)).setCell ⟨g1, nU * 4 + 3, none⟩ (.slice Aa1 x.head.args.length qa1)) := ((((Keeps.refl (· = g1) w2).setCell (p := ⟨g1, nU * 4, none⟩) (fun _ => rfl) _).setCell (p := ⟨g1, nU * 4 + 1, none⟩) (fun _ => rfl) _).setCell (p := ⟨g1, nU * 4 + 2, none⟩) (fun _ => rfl) _).setCell (p := ⟨g1, nU * 4 + 3, none⟩) (fun _ => rfl) _
                                have ho0 := own_four (xs := flatU Ua) (ys := []) (m := nU * 4) (u0 := .int .i64 x.head.kind) (u1 := .string x.head.name) (u2 := .int .i64 x.head.var) (u3 := .slice Aa1 x.head.args.length qa1) (by first | exact hown1 | (rw [List.append_nil]; exact hown1) | (rw [List.append_assoc]; exact hown1) | (rw [List.append_nil, List.append_assoc]; exact hown1)) (by first | exact HFl.out | (rw [List.length_append, HFl.out]; simp only [List.length_cons, List.length_nil]; omega))
                                have hb0_ := hb2.keeps hs0 (fun e => ng e.symm)
                                have hs1 : Keeps (· = bo) ((((w2.setCell ⟨g1, nU * 4, none⟩ (.int .i64 x.head.kind)).setCell ⟨g1, nU * 4 + 1, none⟩ (.string x.head.name)).setCell ⟨g1, nU * 4 + 2, none⟩ (.int .i64 x.head.var)).setCell ⟨g1, nU * 4 + 3, none⟩ (.slice Aa1 x.head.args.length qa1)) (((((w2.setCell ⟨g1, nU * 4, none⟩ (.int .i64 x.head.kind)).setCell ⟨g1, nU * 4 + 1, none⟩ (.string x.head.name)).setCell ⟨g1, nU * 4 + 2, none⟩ (.int .i64 x.head.var)).setCell ⟨g1, nU * 4 + 3, none⟩ (.slice Aa1 x.head.args.length qa1)).setCell ⟨bo, 0, none⟩ (.slice (some ⟨g1, 0, none⟩) (nU + 1) cap1)) := (Keeps.refl (· = bo) _).setCell (p := ⟨bo, 0, none⟩) (fun _ => rfl) _
                                have ho1 := own_keeps ho0 hs1 (fun i hi e => ng ((show g1 = i from by simpa [Value.ownBlock] using hi).trans e))
                                have hb1_ := hb0_.set_ 0 (.slice (some ⟨g1, 0, none⟩) (nU + 1) cap1)
                                have hof : World.ownsRow (((((w2.setCell ⟨g1, nU * 4, none⟩ (.int .i64 x.head.kind)).setCell ⟨g1, nU * 4 + 1, none⟩ (.string x.head.name)).setCell ⟨g1, nU * 4 + 2, none⟩ (.int .i64 x.head.var)).setCell ⟨g1, nU * 4 + 3, none⟩ (.slice Aa1 x.head.args.length qa1)).setCell ⟨bo, 0, none⟩ (.slice (some ⟨g1, 0, none⟩) (nU + 1) cap1)) B 47 4 (.slice (some ⟨g1, 0, none⟩) (nU + 1) cap1) (nU + 1) (flatU Ua ++ [.int .i64 x.head.kind, .string x.head.name, .int .i64 x.head.var, .slice Aa1 x.head.args.length qa1]) := by first | exact ho1 | (have h := ho1; rw [List.append_nil] at h; exact h) | (have h := ho1; rw [List.append_nil, List.append_assoc] at h; exact h) | (have h := ho1; rw [List.append_assoc] at h; exact h)
                                have HTo := Lib.hid (HPut.out _ g1 cap1 (((hk1.mono (Y := fun i => (Value.slice A0 nU c0).ownBlock = some i ∨ i = bo ∨ i = g1) (fun _ _ h => .inl h)).trans hs0 (fun i _ h => .inr (.inr h))).trans hs1 (fun i _ h => .inr (.inl h))) hb1_ hof hat1')
                                clear hown1 hk1 hkp1 hat1 hb2 ng hof hat1' hs0 ho0 hb0_ hs1 ho1 hb1_
                                have HTS := Lib.hid (HRel.out _ HTo.out)
                                clear HTo
                                go_wp2_with fail
                                go_meet
                                exact HTS.out
                              exact AllT.nil
                            refine AllT.cons (o := { dst := none, op := Op.store 45 (Operand.tmp 3) (Operand.tmp 105), type := 0, pos := "iface.go:133", after := #[⟨5, .data⟩, ⟨5, .chain⟩, ⟨7, .textOnly .appendInPlace⟩, ⟨0, .phase⟩, ⟨1, .phase⟩, ⟨2, .phase⟩, ⟨3, .phase⟩, ⟨4, .phase⟩, ⟨5, .phase⟩, ⟨6, .textOnly .appendInPlace⟩, ⟨7, .textOnly .appendInPlace⟩], guard := none }) rfl (fun K hK => ?_) ?_
                            · (have z0 := hb2.cell (i := 0) rfl; have z1 := hb2.free 0; go_simp)
                              refine hK.out _ _ (fun he => Bool.noConfusion (show false = true from he)) (fun hE => ?_)
                              clear hK K hE
                              try simp only [Act.put, List.setIfInBounds_toArray, List.set_cons_zero, List.set_cons_succ]
                              refine wpAnyT_ready (rs := [7]) (by kernel_rfl) rfl ?_
                              refine AllT.cons (o := { dst := none, op := Op.store 47 (Operand.tmp 106) (Operand.tmp 102), type := 0, pos := "iface.go:133", after := #[⟨6, .data⟩, ⟨2, .data⟩, ⟨5, .chain⟩, ⟨0, .phase⟩, ⟨1, .phase⟩, ⟨2, .phase⟩, ⟨3, .phase⟩, ⟨4, .phase⟩, ⟨5, .phase⟩, ⟨8, .gcOnly .appendInPlace⟩], guard := none }) rfl (fun K hK => ?_) ?_
                              · (have hs0 : Keeps (· = bo) w2 (w2.setCell ⟨bo, 0, none⟩ (.slice (some ⟨g1, 0, none⟩) (nU + 1) cap1)) := (Keeps.refl (· = bo) _).setCell (p := ⟨bo, 0, none⟩) (fun _ => rfl) _; have ho0 := own_keeps hown1 hs0 (fun i hi e => ng ((show g1 = i from by simpa [Value.ownBlock] using hi).trans e)); have hb0_ := hb2.set_ 0 (.slice (some ⟨g1, 0, none⟩) (nU + 1) cap1); have fc := four_cellsM (xs := flatU Ua) (ys := []) (m := nU * 4) (a := .int .i64 0) (b := .string ⟨#[]⟩) (c := .int .i64 0) (d := .slice none 0 0) (by first | exact ho0 | (rw [List.append_nil]; exact ho0) | (rw [List.append_assoc]; exact ho0) | (rw [List.append_nil, List.append_assoc]; exact ho0)) (by first | exact HFl.out | (rw [List.length_append, HFl.out]; simp only [List.length_cons, List.length_nil]; omega)); have y0 := fc.1; have y1 := fc.2.1; have y2 := fc.2.2.1; have y3 := fc.2.2.2.1; have u0 := ho0.frozenAt (nU * 4); have u1 := ho0.frozenAt (nU * 4 + 1); have u2 := ho0.frozenAt (nU * 4 + 2); have u3 := ho0.frozenAt (nU * 4 + 3); go_simp)
                                refine hK.out _ _ (fun he => Bool.noConfusion (show false = true from he)) (fun hE => ?_)
                                clear hK K hE
                                try simp only [Act.put, List.setIfInBounds_toArray, List.set_cons_zero, List.set_cons_succ]
                                refine wpAnyT_done (by kernel_rfl) ?_ _
                                refine NoPanic.normal ?_
                                have hs0 : Keeps (· = bo) w2 (w2.setCell ⟨bo, 0, none⟩ (.slice (some ⟨g1, 0, none⟩) (nU + 1) cap1)) := (Keeps.refl (· = bo) _).setCell (p := ⟨bo, 0, none⟩) (fun _ => rfl) _
                                have ho0 := own_keeps hown1 hs0 (fun i hi e => ng ((show g1 = i from by simpa [Value.ownBlock] using hi).trans e))
                                have hb0_ := hb2.set_ 0 (.slice (some ⟨g1, 0, none⟩) (nU + 1) cap1)
                                have hs1 : Keeps (· = g1) (w2.setCell ⟨bo, 0, none⟩ (.slice (some ⟨g1, 0, none⟩) (nU + 1) cap1)) (((((w2.setCell ⟨bo, 0, none⟩ (.slice (some ⟨g1, 0, none⟩) (nU + 1) cap1)).setCell ⟨g1, nU * 4, none⟩ (.int .i64 x.head.kind)).setCell ⟨g1, nU * 4 + 1, none⟩ (.string x.head.name)).setCell ⟨g1, nU * 4 + 2, none⟩ (.int .i64 x.head.var)).setCell ⟨g1, nU * 4 + 3, none⟩ (.slice Aa1 x.head.args.length qa1)) := ((((Keeps.refl (· = g1) (w2.setCell ⟨bo, 0, none⟩ (.slice (some ⟨g1, 0, none⟩) (nU + 1) cap1))).setCell (p := ⟨g1, nU * 4, none⟩) (fun _ => rfl) _).setCell (p := ⟨g1, nU * 4 + 1, none⟩) (fun _ => rfl) _).setCell (p := ⟨g1, nU * 4 + 2, none⟩) (fun _ => rfl) _).setCell (p := ⟨g1, nU * 4 + 3, none⟩) (fun _ => rfl) _
                                have ho1 := own_four (xs := flatU Ua) (ys := []) (m := nU * 4) (u0 := .int .i64 x.head.kind) (u1 := .string x.head.name) (u2 := .int .i64 x.head.var) (u3 := .slice Aa1 x.head.args.length qa1) (by first | exact ho0 | (rw [List.append_nil]; exact ho0) | (rw [List.append_assoc]; exact ho0) | (rw [List.append_nil, List.append_assoc]; exact ho0)) (by first | exact HFl.out | (rw [List.length_append, HFl.out]; simp only [List.length_cons, List.length_nil]; omega))
                                have hb1_ := hb0_.keeps hs1 (fun e => ng e.symm)
                                have hof : World.ownsRow (((((w2.setCell ⟨bo, 0, none⟩ (.slice (some ⟨g1, 0, none⟩) (nU + 1) cap1)).setCell ⟨g1, nU * 4, none⟩ (.int .i64 x.head.kind)).setCell ⟨g1, nU * 4 + 1, none⟩ (.string x.head.name)).setCell ⟨g1, nU * 4 + 2, none⟩ (.int .i64 x.head.var)).setCell ⟨g1, nU * 4 + 3, none⟩ (.slice Aa1 x.head.args.length qa1)) B 47 4 (.slice (some ⟨g1, 0, none⟩) (nU + 1) cap1) (nU + 1) (flatU Ua ++ [.int .i64 x.head.kind, .string x.head.name, .int .i64 x.head.var, .slice Aa1 x.head.args.length qa1]) := by first | exact ho1 | (have h := ho1; rw [List.append_nil] at h; exact h) | (have h := ho1; rw [List.append_nil, List.append_assoc] at h; exact h) | (have h := ho1; rw [List.append_assoc] at h; exact h)
                                have HTo := Lib.hid (HPut.out _ g1 cap1 (((hk1.mono (Y := fun i => (Value.slice A0 nU c0).ownBlock = some i ∨ i = bo ∨ i = g1) (fun _ _ h => .inl h)).trans hs0 (fun i _ h => .inr (.inl h))).trans hs1 (fun i _ h => .inr (.inr h))) hb1_ hof hat1')
                                clear hown1 hk1 hkp1 hat1 hb2 ng hof hat1' hs0 ho0 hb0_ hs1 ho1 hb1_
                                have HTS := Lib.hid (HRel.out _ HTo.out)
                                clear HTo
                                go_wp2_with fail
                                go_meet
                                exact HTS.out
                              exact AllT.nil
                            exact AllT.nil
                          exact AllT.nil
                        exact AllT.nil
                      case rest =>
                        obtain ⟨w9, hw9⟩ : ∃ w9, w9 = wc := ⟨_, rfl⟩
                        rw [← hw9] at hcut ⊢
                        clear hw9 kn0 kn1 kn2 kn3 kn4 kn5 kn6 HRel HPut hQ HNg HBo HOwn HMq HBq HFl
                        have HT9 := Lib.hid hcut
                        have y5 := (HBxa.out _ _ hcut).cell (i := 5) rfl
                        clear hcut
                        go_wp2_with fail
                        go_loopw [110] (fun i wr => ∃ k : Nat, k ≤ x.preds.length ∧ .int .i64 (k : Int) = i ∧ Hid (TS F W0 B bo (Value.slice A0 nU c0) Wa (XD ++ XC ++ XO ++ XV ++ (f.insts.take j).flatMap instT ++ [x.head] ++ (x.preds.take k).map Pred.ty) wr)) (fun i _ => x.preds.length - (intOf i).toNat)
                        case atStart => exact ⟨0, Nat.zero_le _, rfl, by rw [List.take_zero, List.map_nil, List.append_nil]; exact HT9.out⟩
                        case round =>
                          obtain ⟨k, hj2, rfl, hT⟩ := hrel
                          by_cases hlt : k < x.preds.length
                          · have hft := List.take_succ_eq_append_getElem hlt
                            obtain ⟨gg, off, vb1, hA, hgF, db0, db1, db2, db3, db4, sb0, sb1⟩ := Pred.get Hsa2.out hlt
                            obtain ⟨y, hxb⟩ : ∃ y, x.preds[k] = y := ⟨_, rfl⟩
                            rw [hxb] at hft db0 db1 db2 db3 sb1
                            obtain ⟨Ab1, qb1, rfl, -, -, -⟩ := sb1.form
                            subst hA
                            have hfar : ¬ Own2 bo (.slice none 0 0) gg := HFar.out gg hgF
                            have cb0 := ((HUpa.out _ _ hT.out)).keeps.cell db0 hfar
                            have cb1 := ((HUpa.out _ _ hT.out)).keeps.cell db1 hfar
                            have cb2 := ((HUpa.out _ _ hT.out)).keeps.cell db2 hfar
                            have cb3 := ((HUpa.out _ _ hT.out)).keeps.cell db3 hfar
                            have cb4 := ((HUpa.out _ _ hT.out)).keeps.cell db4 hfar
                            clear db0 db1 db2 db3 db4 sb0 hfar hgF
                            obtain ⟨bb, hbb⟩ : ∃ b, wr.heap.size = b := ⟨_, rfl⟩
                            obtain ⟨Wb, hWb⟩ : ∃ w, wr.alloc (.cells #[.string y.cls, .int .i64 y.ty.kind, .string y.ty.name, .int .i64 y.ty.var, .slice Ab1 y.ty.args.length qb1] 104) = w := ⟨_, rfl⟩
                            have hkw : Keeps (fun _ => False) wr Wb := by rw [← hWb]; exact (Keeps.refl _ _).alloc _
                            have hbxb : Blk Wb bb 104 [.string y.cls, .int .i64 y.ty.kind, .string y.ty.name, .int .i64 y.ty.var, .slice Ab1 y.ty.args.length qb1] := by rw [← hWb, ← hbb]; exact Blk.new wr _ [_, _, _, _, _]
                            obtain ⟨vb, Ub, hUb, hGb, tb, hupb, hltb, hlob⟩ := hT.out.rebase hkw HB.out
                            have hntb : ¬ Own2 bo vb bb := fun h => by have := hltb bb h; omega
                            have hKdb : Keeps (Own2 bo (.slice none 0 0)) W0 Wb := ((HUpa.out _ _ hT.out)).keeps.trans hkw (fun _ _ h => h.elim)
                            have HKdb := Lib.hid hKdb
                            have hBW : B ≤ Wb.heap.size := Nat.le_trans HB.out (Nat.le_of_lt (tb.lt bo (.inl rfl)))
                            have HUpb := Lib.hid hupb
                            have HLob := Lib.hid hlob
                            have hUlb : Ub.length = (XD ++ XC ++ XO ++ XV ++ (f.insts.take j).flatMap instT ++ [x.head] ++ (x.preds.take k).map Pred.ty).length := by rw [← hUb, List.length_map]
                            have HWb := Lib.hid hWb
                            have HBbb := Lib.hid hbb
                            clear hkw hupb hltb hlob hKdb hWb hbb
                            have Hsb1 := Lib.hid sb1
                            clear sb1
                            have k0 : (0 : Int) ≤ (k : Int) := by omega
                            have k1 : (k : Int) < (x.preds.length : Int) := by omega
                            have hub : Ub.length + 1 ≤ 4194304 := by
                              have h2 := HUl.out
                              rw [hUlb, List.length_append, List.length_append, List.length_map, List.length_take]; simp only [List.length_cons, List.length_nil]; omega
                            have HRel : Hid (∀ X', TTo B bo vb Wb (Ub ++ [(y.ty, .slice Ab1 y.ty.args.length qb1)]) X' → TS F W0 B bo (Value.slice A0 nU c0) Wa (XD ++ XC ++ XO ++ XV ++ (f.insts.take j).flatMap instT ++ [x.head] ++ (x.preds.take (k + 1)).map Pred.ty) X') := fun X' hX =>
                              HUpb.out _ _ ⟨Ub ++ [(y.ty, .slice Ab1 y.ty.args.length qb1)], by rw [List.map_append, hUb, hft, List.map_append, ← List.append_assoc]; rfl, hGb.app (good_one Hsb1.out), hX⟩
                            obtain ⟨nU, hnU⟩ : ∃ nU, Ub.length = nU := ⟨_, rfl⟩
                            have hown := tb.row
                            rw [hnU] at hown
                            obtain ⟨A0, c0, rfl⟩ := row_form hown
                            have HFl : Hid ((flatU Ub).length = nU * 4) := by show _ = _; rw [flatU_len, hnU]
                            have HMq : Hid (nU + 1 ≤ maxLen) := by show _ ≤ _; unfold maxLen; omega
                            have HBq : Hid ((nU + 1) * 56 ≤ 140737488355328) := by show _ ≤ _; omega
                            have HBZ := Lib.hid hBW
                            have HOwn := Lib.hid hown
                            have HBo : Hid (∀ X, Keeps (fun i => (Value.slice A0 nU c0).ownBlock = some i) Wb X → Blk X bo 45 [(Value.slice A0 nU c0)]) := fun X hk => tb.box.keeps hk tb.nV
                            have HNg : Hid (∀ g, ((Value.slice A0 nU c0).ownBlock = some g ∨ Wb.heap.size ≤ g) → ¬ g = bo) := fun g hg e => by
                              subst e
                              rcases hg with h | h
                              · exact tb.nV h
                              · have := tb.box.lt; omega
                            have HPut : Hid (∀ (w3 : World) (g1 cap1 : Nat), Keeps (fun i => (Value.slice A0 nU c0).ownBlock = some i ∨ i = bo ∨ i = g1) Wb w3 → Blk w3 bo 45 [.slice (some ⟨g1, 0, none⟩) (nU + 1) cap1] → w3.ownsRow B 47 4 (.slice (some ⟨g1, 0, none⟩) (nU + 1) cap1) (nU + 1) (flatU Ub ++ [.int .i64 y.ty.kind, .string y.ty.name, .int .i64 y.ty.var, .slice Ab1 y.ty.args.length qb1]) → ((Value.slice A0 nU c0).ownBlock = some g1 ∨ Wb.heap.size ≤ g1) → TTo B bo (Value.slice A0 nU c0) Wb (Ub ++ [(y.ty, .slice Ab1 y.ty.args.length qb1)]) w3) := fun w3 g1 cap1 q1 q2 q3 q4 => by
                              subst hnU
                              refine tb.put [(y.ty, .slice Ab1 y.ty.args.length qb1)] (.inr (q1.mono (fun i _ hi => ?_))) q2 (by rw [show flatU [(y.ty, .slice Ab1 y.ty.args.length qb1)] = [.int .i64 y.ty.kind, .string y.ty.name, .int .i64 y.ty.var, .slice Ab1 y.ty.args.length qb1] from rfl]; exact q3) q4
                              rcases hi with h | h | h
                              · exact .inl (.inr h)
                              · exact .inl (.inl h)
                              · subst h
                                exact q4.imp .inr id
                            have hQ : Hid (∀ X, Keeps (fun i => (Value.slice A0 nU c0).ownBlock = some i) Wb X → (X.cell? ⟨bo, 0, none⟩ = some ((Value.slice A0 nU c0)) ∧ X.cell? ⟨bb, 1, none⟩ = some (.int .i64 y.ty.kind) ∧ X.cell? ⟨bb, 2, none⟩ = some (.string y.ty.name) ∧ X.cell? ⟨bb, 3, none⟩ = some (.int .i64 y.ty.var) ∧ X.cell? ⟨bb, 4, none⟩ = some (.slice Ab1 y.ty.args.length qb1))) := fun X hk => by
                              have hx := tb.box.keeps hk tb.nV
                              have hy := hbxb.keeps hk (fun e => hntb (.inr e))
                              exact ⟨hx.cell (i := 0) rfl, hy.cell (i := 1) rfl, hy.cell (i := 2) rfl, hy.cell (i := 3) rfl, hy.cell (i := 4) rfl⟩
                            have kn0 : (0 : Int) ≤ (nU : Int) := by omega
                            have kn1 : (nU : Int) < (nU : Int) + 1 := by omega
                            have kn2 : (nU : Int) + 1 < (nU : Int) + 2 := by omega
                            have kn3 : (nU : Int) ≤ 4194304 := by omega
                            have kn4 : IntKind.i64.wrap ((nU : Int) + 1) = (nU : Int) + 1 := by rw [IntKind.wrap_i64]; omega
                            have kn5 : ((nU : Int) + 1).toNat * 4 = nU * 4 + 4 := by omega
                            have kn6 : (0 : Int) ≤ (nU : Int) + 1 := by omega
                            clear tb hGb hUb hUlb hntb hbxb hft hub hBW hxb hown hnU
                            go_upto_region 38 with (fail)
                            rw [HWb.out, HBbb.out]
                            clear cb0 cb1 cb2 cb3 cb4
                            clear k0 k1
                            refine wp_region_noPanic ?_
                            refine wp_region_till [7, 8] (fun X => X.cell? ⟨bo, 0, none⟩ = some ((Value.slice A0 nU c0)) ∧ X.cell? ⟨bb, 1, none⟩ = some (.int .i64 y.ty.kind) ∧ X.cell? ⟨bb, 2, none⟩ = some (.string y.ty.name) ∧ X.cell? ⟨bb, 3, none⟩ = some (.int .i64 y.ty.var) ∧ X.cell? ⟨bb, 4, none⟩ = some (.slice Ab1 y.ty.args.length qb1)) (by kernel_rfl) ?_ (fun hE => ?_)
                            · first | exact hQ.out _ hk1 | exact hQ.out _ (Keeps.mono (show Keeps (fun _ => False) Wb _ from (by repeat (first | (with_reducible exact Keeps.refl _ _) | (with_reducible assumption) | (with_reducible refine Keeps.drew ?_) | (with_reducible refine Keeps.drewN ?_ _) | (with_reducible refine Keeps.alloc ?_ _) | (with_reducible refine Keeps.trans ?_ (by assumption) (fun _ _ h => h))))) (fun _ _ h => h.elim))
                            have hS := hE (by kernel_rfl)
                            refine wpAnyT_take (i := 0) (oi := { dst := some 114, op := Op.load 45 (Operand.tmp 3), type := 45, pos := "iface.go:135", after := #[], guard := none }) (v := ?v38_0_1) rfl (by kernel_rfl) (fun _ _ _ h => h) (Or.inl ⟨by rfl, ?y38_0_1⟩) hS ?_
                            case y38_0_1 => (intro w hSw; (try dsimp only at hSw); go_simp; try with_reducible rfl)
                            try simp only [Act.put, List.setIfInBounds_toArray, List.set_cons_zero, List.set_cons_succ]
                            refine wpAnyT_pure (i := 1) (oi := { dst := some 115, op := Op.fieldAddr 104 (Operand.tmp 20) 1, type := 0, pos := "iface.go:135", after := #[], guard := none }) (v := ?v38_1_2) rfl (by kernel_rfl) (fun _ _ _ h => h) (Or.inl ⟨by rfl, ?y38_1_2⟩) (fun _ => hS) ?_
                            case y38_1_2 => (intro w hSw; go_simp; try with_reducible rfl)
                            try simp only [Act.put, List.setIfInBounds_toArray, List.set_cons_zero, List.set_cons_succ]
                            refine wpAnyT_take (i := 2) (oi := { dst := some 116, op := Op.load 47 (Operand.tmp 115), type := 47, pos := "iface.go:135", after := #[⟨1, .data⟩], guard := none }) (v := ?v38_2_3) rfl (by kernel_rfl) (fun _ _ _ h => h) (Or.inl ⟨by rfl, ?y38_2_3⟩) hS ?_
                            case y38_2_3 => (intro w hSw; (try dsimp only at hSw); go_simp; try with_reducible rfl)
                            try simp only [Act.put, List.setIfInBounds_toArray, List.set_cons_zero, List.set_cons_succ]
                            refine wpAnyT_pure (i := 3) (oi := { dst := some 117, op := Op.call { callee := Callee.builtin Builtin.len, args := #[Operand.tmp 114], argTypes := #[45] }, type := 3, pos := "iface.go:135", after := #[⟨0, .data⟩], guard := none }) (v := ?v38_3_4) rfl (by kernel_rfl) (fun _ _ _ h => h) (Or.inl ⟨by rfl, ?y38_3_4⟩) (fun _ => hS) ?_
                            case y38_3_4 => (intro w hSw; go_simp; try with_reducible rfl)
                            try simp only [Act.put, List.setIfInBounds_toArray, List.set_cons_zero, List.set_cons_succ]
                            refine wpAnyT_ready (rs := [4]) (by kernel_rfl) rfl ?_
                            refine AllT.cons (o := { dst := some 118, op := Op.buildSlice 45 1 #[(0, Operand.const (Value.agg #[Value.int IntKind.i64 0, Value.string { data := #[] }, Value.int IntKind.i64 0, Value.slice none 0 0]))], type := 45, pos := "iface.go:135", after := #[], guard := none }) rfl (fun K hK => ?_) ?_
                            · go_simp
                              refine hK.out _ _ (fun _ => ?_) (fun hE => ?_)
                              · first | exact hQ.out _ hk1 | exact hQ.out _ (Keeps.mono (show Keeps (fun _ => False) Wb _ from (by repeat (first | (with_reducible exact Keeps.refl _ _) | (with_reducible assumption) | (with_reducible refine Keeps.drew ?_) | (with_reducible refine Keeps.drewN ?_ _) | (with_reducible refine Keeps.alloc ?_ _) | (with_reducible refine Keeps.trans ?_ (by assumption) (fun _ _ h => h))))) (fun _ _ h => h.elim))
                              have hS := hE (by kernel_rfl)
                              clear hK K hE
                              try simp only [Act.put, List.setIfInBounds_toArray, List.set_cons_zero, List.set_cons_succ]
                              refine wpAnyT_ready (rs := [5]) (by kernel_rfl) rfl ?_
                              refine AllT.cons (o := { dst := some 119, op := Op.call { callee := Callee.builtin Builtin.append, args := #[Operand.tmp 114, Operand.tmp 118], argTypes := #[45, 45] }, type := 45, pos := "iface.go:135", after := #[⟨0, .data⟩, ⟨4, .data⟩, ⟨0, .phase⟩, ⟨1, .phase⟩, ⟨2, .phase⟩, ⟨3, .phase⟩, ⟨4, .phase⟩], guard := none }) rfl (fun K hK => ?_) ?_
                              · (refine step_append_kept_m (W0 := Wb) rfl (.tmp 114) (.tmp 118) 45 rfl B 47 it _ 4 56 Tryd.underlying45 hi0 hz0 hz1 hz2 rfl (by decide) (Value.slice A0 nU c0) nU (flatU Ub) rfl HOwn.out (by repeat (first | (with_reducible exact Keeps.refl _ _) | (with_reducible assumption) | (with_reducible refine Keeps.drew ?_) | (with_reducible refine Keeps.drewN ?_ _) | (with_reducible refine Keeps.alloc ?_ _) | (with_reducible refine Keeps.trans ?_ (by assumption) (fun _ _ h => h)))) _ 1 _ #[.int .i64 0, .string ⟨#[]⟩, .int .i64 0, .slice none 0 0] rfl (by decide) rfl (by first | exact heap_new_at (by simp) | exact heap_new_at (w := Wb) (by simp)) (by simp [Value.oneCell']) HMq.out HBq.out HBZ.out ?_; intro g1 cap1 w2 hown1 hk1 hkp1 hat1; have hb2 := HBo.out _ hk1; have hat1' : (Value.slice A0 nU c0).ownBlock = some g1 ∨ Wb.heap.size ≤ g1 := hat1.imp id (fun h => Nat.le_trans (Keeps.size (show Keeps (fun _ => False) Wb _ from (by repeat (first | (with_reducible exact Keeps.refl _ _) | (with_reducible assumption) | (with_reducible refine Keeps.drew ?_) | (with_reducible refine Keeps.drewN ?_ _) | (with_reducible refine Keeps.alloc ?_ _) | (with_reducible refine Keeps.trans ?_ (by assumption) (fun _ _ h => h)))))) h); have ng := HNg.out g1 hat1')
                                refine hK.out _ _ (fun _ => ?_) (fun hE => ?_)
                                · first | exact hQ.out _ hk1 | exact hQ.out _ (Keeps.mono (show Keeps (fun _ => False) Wb _ from (by repeat (first | (with_reducible exact Keeps.refl _ _) | (with_reducible assumption) | (with_reducible refine Keeps.drew ?_) | (with_reducible refine Keeps.drewN ?_ _) | (with_reducible refine Keeps.alloc ?_ _) | (with_reducible refine Keeps.trans ?_ (by assumption) (fun _ _ h => h))))) (fun _ _ h => h.elim))
                                have hS := hE (by kernel_rfl)
                                clear hK K hE
                                try simp only [Act.put, List.setIfInBounds_toArray, List.set_cons_zero, List.set_cons_succ]
                                refine wpAnyT_pure (i := 6) (oi := { dst := some 120, op := Op.indexAddr 45 (Operand.tmp 119) (Operand.tmp 117), type := 0, pos := "iface.go:135", after := #[⟨5, .data⟩, ⟨3, .data⟩, ⟨0, .phase⟩, ⟨1, .phase⟩, ⟨2, .phase⟩, ⟨3, .phase⟩, ⟨4, .phase⟩, ⟨5, .phase⟩, ⟨8, .gcOnly .appendInPlace⟩], guard := none }) (v := ?v38_6_5) rfl (by kernel_rfl) (fun _ _ _ h => h) (Or.inl ⟨by rfl, ?y38_6_5⟩) (fun _ => hS) ?_
                                case y38_6_5 => (intro w hSw; go_simp; try with_reducible rfl)
                                try simp only [Act.put, List.setIfInBounds_toArray, List.set_cons_zero, List.set_cons_succ]
                                refine wpAnyT_ready (rs := [7, 8]) (by kernel_rfl) rfl ?_
                                refine AllT.cons (o := { dst := none, op := Op.store 47 (Operand.tmp 120) (Operand.tmp 116), type := 0, pos := "iface.go:135", after := #[⟨6, .data⟩, ⟨2, .data⟩, ⟨5, .chain⟩, ⟨0, .phase⟩, ⟨1, .phase⟩, ⟨2, .phase⟩, ⟨3, .phase⟩, ⟨4, .phase⟩, ⟨5, .phase⟩, ⟨8, .gcOnly .appendInPlace⟩], guard := none }) rfl (fun K hK => ?_) ?_
                                · (have fc := four_cellsM (xs := flatU Ub) (ys := []) (m := nU * 4) (a := .int .i64 0) (b := .string ⟨#[]⟩) (c := .int .i64 0) (d := .slice none 0 0) (by first | exact hown1 | (rw [List.append_nil]; exact hown1) | (rw [List.append_assoc]; exact hown1) | (rw [List.append_nil, List.append_assoc]; exact hown1)) (by first | exact HFl.out | (rw [List.length_append, HFl.out]; simp only [List.length_cons, List.length_nil]; omega)); have y0 := fc.1; have y1 := fc.2.1; have y2 := fc.2.2.1; have y3 := fc.2.2.2.1; have u0 := hown1.frozenAt (nU * 4); have u1 := hown1.frozenAt (nU * 4 + 1); have u2 := hown1.frozenAt (nU * 4 + 2); have u3 := hown1.frozenAt (nU * 4 + 3); go_simp)
                                  refine hK.out _ _ (fun he => Bool.noConfusion (show false = true from he)) (fun hE => ?_)
                                  clear hK K hE
                                  try simp only [Act.put, List.setIfInBounds_toArray, List.set_cons_zero, List.set_cons_succ]
                                  refine wpAnyT_ready (rs := [8]) (by kernel_rfl) rfl ?_
                                  refine AllT.cons (o := { dst := none, op := Op.store 45 (Operand.tmp 3) (Operand.tmp 119), type := 0, pos := "iface.go:135", after := #[⟨5, .data⟩, ⟨5, .chain⟩, ⟨7, .textOnly .appendInPlace⟩, ⟨0, .phase⟩, ⟨1, .phase⟩, ⟨2, .phase⟩, ⟨3, .phase⟩, ⟨4, .phase⟩, ⟨5, .phase⟩, ⟨6, .textOnly .appendInPlace⟩, ⟨7, .textOnly .appendInPlace⟩], guard := none }) rfl (fun K hK => ?_) ?_
                                  · (have hs0 : Keeps (· = g1) w2 ((((w2.setCell ⟨g1, nU * 4, none⟩ (.int .i64 y.ty.kind)).setCell ⟨g1, nU * 4 + 1, none⟩ (.string y.ty.name)).setCell ⟨g1, nU * 4 + 2, none⟩ (.int .i64 y.ty.var)).setCell ⟨g1, nU * 4 + 3, none⟩ (.slice Ab1 y.ty.args.length qb1)) := ((((Keeps.refl (· = g1) w2).setCell (p := ⟨g1, nU * 4, none⟩) (fun _ => rfl) _).setCell (p := ⟨g1, nU * 4 + 1, none⟩) (fun _ => rfl) _).setCell (p := ⟨g1, nU * 4 + 2, none⟩) (fun _ => rfl) _).setCell (p := ⟨g1, nU * 4 + 3, none⟩) (fun _ => rfl) _; have ho0 := own_four (xs := flatU Ub) (ys := []) (m := nU * 4) (u0 := .int .i64 y.ty.kind) (u1 := .string y.ty.name) (u2 := .int .i64 y.ty.var) (u3 := .slice Ab1 y.ty.args.length qb1) (by first | exact hown1 | (rw [List.append_nil]; exact hown1) | (rw [List.append_assoc]; exact hown1) | (rw [List.append_nil, List.append_assoc]; exact hown1)) (by first | exact HFl.out | (rw [List.length_append, HFl.out]; simp only [List.length_cons, List.length_nil]; omega)); have hb0_ := hb2.keeps hs0 (fun e => ng e.symm); have z0 := hb0_.cell (i := 0) rfl; have z1 := hb0_.free 0; go_simp)
                                    refine hK.out _ _ (fun he => Bool.noConfusion (show false = true from he)) (fun hE => ?_)
                                    clear hK K hE
                                    try simp only [Act.put, List.setIfInBounds_toArray, List.set_cons_zero, List.set_cons_succ]
                                    refine wpAnyT_done (by kernel_rfl) ?_ _
                                    refine NoPanic.normal ?_
                                    have hs0 : Keeps (· = g1) w2 ((((w2.setCell ⟨g1, nU * 4, none⟩ (.int .i64 y.ty.kind)).setCell ⟨g1, nU * 4 + 1, none⟩ (.string y.ty.name)).setCell ⟨g1, nU * 4 + 2, none⟩ (.int .i64 y.ty.var)).setCell ⟨g1, nU * 4 + 3, none⟩ (.slice Ab1 y.ty.args.length qb1)) := ((((Keeps.refl (· = g1) w2).setCell (p := ⟨g1, nU * 4, none⟩) (fun _ => rfl) _).setCell (p := ⟨g1, nU * 4 + 1, none⟩) (fun _ => rfl) _).setCell (p := ⟨g1, nU * 4 + 2, none⟩) (fun _ => rfl) _).setCell (p := ⟨g1, nU * 4 + 3, none⟩) (fun _ => rfl) _
                                    have ho0 := own_four (xs := flatU Ub) (ys := []) (m := nU * 4) (u0 := .int .i64 y.ty.kind) (u1 := .string y.ty.name) (u2 := .int .i64 y.ty.var) (u3 := .slice Ab1 y.ty.args.length qb1) (by first | exact hown1 | (rw [List.append_nil]; exact hown1) | (rw [List.append_assoc]; exact hown1) | (rw [List.append_nil, List.append_assoc]; exact hown1)) (by first | exact HFl.out | (rw [List.length_append, HFl.out]; simp only [List.length_cons, List.length_nil]; omega))
                                    have hb0_ := hb2.keeps hs0 (fun e => ng e.symm)
                                    have hs1 : Keeps (· = bo) ((((w2.setCell ⟨g1, nU * 4, none⟩ (.int .i64 y.ty.kind)).setCell ⟨g1, nU * 4 + 1, none⟩ (.string y.ty.name)).setCell ⟨g1, nU * 4 + 2, none⟩ (.int .i64 y.ty.var)).setCell ⟨g1, nU * 4 + 3, none⟩ (.slice Ab1 y.ty.args.length qb1)) (((((w2.setCell ⟨g1, nU * 4, none⟩ (.int .i64 y.ty.kind)).setCell ⟨g1, nU * 4 + 1, none⟩ (.string y.ty.name)).setCell ⟨g1, nU * 4 + 2, none⟩ (.int .i64 y.ty.var)).setCell ⟨g1, nU * 4 + 3, none⟩ (.slice Ab1 y.ty.args.length qb1)).setCell ⟨bo, 0, none⟩ (.slice (some ⟨g1, 0, none⟩) (nU + 1) cap1)) := (Keeps.refl (· = bo) _).setCell (p := ⟨bo, 0, none⟩) (fun _ => rfl) _
                                    have ho1 := own_keeps ho0 hs1 (fun i hi e => ng ((show g1 = i from by simpa [Value.ownBlock] using hi).trans e))
                                    have hb1_ := hb0_.set_ 0 (.slice (some ⟨g1, 0, none⟩) (nU + 1) cap1)
                                    have hof : World.ownsRow (((((w2.setCell ⟨g1, nU * 4, none⟩ (.int .i64 y.ty.kind)).setCell ⟨g1, nU * 4 + 1, none⟩ (.string y.ty.name)).setCell ⟨g1, nU * 4 + 2, none⟩ (.int .i64 y.ty.var)).setCell ⟨g1, nU * 4 + 3, none⟩ (.slice Ab1 y.ty.args.length qb1)).setCell ⟨bo, 0, none⟩ (.slice (some ⟨g1, 0, none⟩) (nU + 1) cap1)) B 47 4 (.slice (some ⟨g1, 0, none⟩) (nU + 1) cap1) (nU + 1) (flatU Ub ++ [.int .i64 y.ty.kind, .string y.ty.name, .int .i64 y.ty.var, .slice Ab1 y.ty.args.length qb1]) := by first | exact ho1 | (have h := ho1; rw [List.append_nil] at h; exact h) | (have h := ho1; rw [List.append_nil, List.append_assoc] at h; exact h) | (have h := ho1; rw [List.append_assoc] at h; exact h)
                                    have HTo := Lib.hid (HPut.out _ g1 cap1 (((hk1.mono (Y := fun i => (Value.slice A0 nU c0).ownBlock = some i ∨ i = bo ∨ i = g1) (fun _ _ h => .inl h)).trans hs0 (fun i _ h => .inr (.inr h))).trans hs1 (fun i _ h => .inr (.inl h))) hb1_ hof hat1')
                                    clear hown1 hk1 hkp1 hat1 hb2 ng hof hat1' hs0 ho0 hb0_ hs1 ho1 hb1_
                                    have HTS := Lib.hid (HRel.out _ HTo.out)
                                    clear HTo
                                    go_wp2_with fail
                                    go_roundw
                                    case rel => exact ⟨k + 1, by omega, by go_num, HTS.out⟩
                                    case measure => simp [intOf]; omega
                                  exact AllT.nil
                                refine AllT.cons (o := { dst := none, op := Op.store 45 (Operand.tmp 3) (Operand.tmp 119), type := 0, pos := "iface.go:135", after := #[⟨5, .data⟩, ⟨5, .chain⟩, ⟨7, .textOnly .appendInPlace⟩, ⟨0, .phase⟩, ⟨1, .phase⟩, ⟨2, .phase⟩, ⟨3, .phase⟩, ⟨4, .phase⟩, ⟨5, .phase⟩, ⟨6, .textOnly .appendInPlace⟩, ⟨7, .textOnly .appendInPlace⟩], guard := none }) rfl (fun K hK => ?_) ?_
                                · (have z0 := hb2.cell (i := 0) rfl; have z1 := hb2.free 0; go_simp)
                                  refine hK.out _ _ (fun he => Bool.noConfusion (show false = true from he)) (fun hE => ?_)
                                  clear hK K hE
                                  try simp only [Act.put, List.setIfInBounds_toArray, List.set_cons_zero, List.set_cons_succ]
                                  refine wpAnyT_ready (rs := [7]) (by kernel_rfl) rfl ?_
                                  refine AllT.cons (o := { dst := none, op := Op.store 47 (Operand.tmp 120) (Operand.tmp 116), type := 0, pos := "iface.go:135", after := #[⟨6, .data⟩, ⟨2, .data⟩, ⟨5, .chain⟩, ⟨0, .phase⟩, ⟨1, .phase⟩, ⟨2, .phase⟩, ⟨3, .phase⟩, ⟨4, .phase⟩, ⟨5, .phase⟩, ⟨8, .gcOnly .appendInPlace⟩], guard := none }) rfl (fun K hK => ?_) ?_
                                  · (have hs0 : Keeps (· = bo) w2 (w2.setCell ⟨bo, 0, none⟩ (.slice (some ⟨g1, 0, none⟩) (nU + 1) cap1)) := (Keeps.refl (· = bo) _).setCell (p := ⟨bo, 0, none⟩) (fun _ => rfl) _; have ho0 := own_keeps hown1 hs0 (fun i hi e => ng ((show g1 = i from by simpa [Value.ownBlock] using hi).trans e)); have hb0_ := hb2.set_ 0 (.slice (some ⟨g1, 0, none⟩) (nU + 1) cap1); have fc := four_cellsM (xs := flatU Ub) (ys := []) (m := nU * 4) (a := .int .i64 0) (b := .string ⟨#[]⟩) (c := .int .i64 0) (d := .slice none 0 0) (by first | exact ho0 | (rw [List.append_nil]; exact ho0) | (rw [List.append_assoc]; exact ho0) | (rw [List.append_nil, List.append_assoc]; exact ho0)) (by first | exact HFl.out | (rw [List.length_append, HFl.out]; simp only [List.length_cons, List.length_nil]; omega)); have y0 := fc.1; have y1 := fc.2.1; have y2 := fc.2.2.1; have y3 := fc.2.2.2.1; have u0 := ho0.frozenAt (nU * 4); have u1 := ho0.frozenAt (nU * 4 + 1); have u2 := ho0.frozenAt (nU * 4 + 2); have u3 := ho0.frozenAt (nU * 4 + 3); go_simp)
                                    refine hK.out _ _ (fun he => Bool.noConfusion (show false = true from he)) (fun hE => ?_)
                                    clear hK K hE
                                    try simp only [Act.put, List.setIfInBounds_toArray, List.set_cons_zero, List.set_cons_succ]
                                    refine wpAnyT_done (by kernel_rfl) ?_ _
                                    refine NoPanic.normal ?_
                                    have hs0 : Keeps (· = bo) w2 (w2.setCell ⟨bo, 0, none⟩ (.slice (some ⟨g1, 0, none⟩) (nU + 1) cap1)) := (Keeps.refl (· = bo) _).setCell (p := ⟨bo, 0, none⟩) (fun _ => rfl) _
                                    have ho0 := own_keeps hown1 hs0 (fun i hi e => ng ((show g1 = i from by simpa [Value.ownBlock] using hi).trans e))
                                    have hb0_ := hb2.set_ 0 (.slice (some ⟨g1, 0, none⟩) (nU + 1) cap1)
                                    have hs1 : Keeps (· = g1) (w2.setCell ⟨bo, 0, none⟩ (.slice (some ⟨g1, 0, none⟩) (nU + 1) cap1)) (((((w2.setCell ⟨bo, 0, none⟩ (.slice (some ⟨g1, 0, none⟩) (nU + 1) cap1)).setCell ⟨g1, nU * 4, none⟩ (.int .i64 y.ty.kind)).setCell ⟨g1, nU * 4 + 1, none⟩ (.string y.ty.name)).setCell ⟨g1, nU * 4 + 2, none⟩ (.int .i64 y.ty.var)).setCell ⟨g1, nU * 4 + 3, none⟩ (.slice Ab1 y.ty.args.length qb1)) := ((((Keeps.refl (· = g1) (w2.setCell ⟨bo, 0, none⟩ (.slice (some ⟨g1, 0, none⟩) (nU + 1) cap1))).setCell (p := ⟨g1, nU * 4, none⟩) (fun _ => rfl) _).setCell (p := ⟨g1, nU * 4 + 1, none⟩) (fun _ => rfl) _).setCell (p := ⟨g1, nU * 4 + 2, none⟩) (fun _ => rfl) _).setCell (p := ⟨g1, nU * 4 + 3, none⟩) (fun _ => rfl) _
                                    have ho1 := own_four (xs := flatU Ub) (ys := []) (m := nU * 4) (u0 := .int .i64 y.ty.kind) (u1 := .string y.ty.name) (u2 := .int .i64 y.ty.var) (u3 := .slice Ab1 y.ty.args.length qb1) (by first | exact ho0 | (rw [List.append_nil]; exact ho0) | (rw [List.append_assoc]; exact ho0) | (rw [List.append_nil, List.append_assoc]; exact ho0)) (by first | exact HFl.out | (rw [List.length_append, HFl.out]; simp only [List.length_cons, List.length_nil]; omega))
                                    have hb1_ := hb0_.keeps hs1 (fun e => ng e.symm)
                                    have hof : World.ownsRow (((((w2.setCell ⟨bo, 0, none⟩ (.slice (some ⟨g1, 0, none⟩) (nU + 1) cap1)).setCell ⟨g1, nU * 4, none⟩ (.int .i64 y.ty.kind)).setCell ⟨g1, nU * 4 + 1, none⟩ (.string y.ty.name)).setCell ⟨g1, nU * 4 + 2, none⟩ (.int .i64 y.ty.var)).setCell ⟨g1, nU * 4 + 3, none⟩ (.slice Ab1 y.ty.args.length qb1)) B 47 4 (.slice (some ⟨g1, 0, none⟩) (nU + 1) cap1) (nU + 1) (flatU Ub ++ [.int .i64 y.ty.kind, .string y.ty.name, .int .i64 y.ty.var, .slice Ab1 y.ty.args.length qb1]) := by first | exact ho1 | (have h := ho1; rw [List.append_nil] at h; exact h) | (have h := ho1; rw [List.append_nil, List.append_assoc] at h; exact h) | (have h := ho1; rw [List.append_assoc] at h; exact h)
                                    have HTo := Lib.hid (HPut.out _ g1 cap1 (((hk1.mono (Y := fun i => (Value.slice A0 nU c0).ownBlock = some i ∨ i = bo ∨ i = g1) (fun _ _ h => .inl h)).trans hs0 (fun i _ h => .inr (.inl h))).trans hs1 (fun i _ h => .inr (.inr h))) hb1_ hof hat1')
                                    clear hown1 hk1 hkp1 hat1 hb2 ng hof hat1' hs0 ho0 hb0_ hs1 ho1 hb1_
                                    have HTS := Lib.hid (HRel.out _ HTo.out)
                                    clear HTo
                                    go_wp2_with fail
                                    go_roundw
                                    case rel => exact ⟨k + 1, by omega, by go_num, HTS.out⟩
                                    case measure => simp [intOf]; omega
                                  exact AllT.nil
                                exact AllT.nil
                              exact AllT.nil
                            exact AllT.nil
                          · obtain rfl : k = x.preds.length := by omega
                            have k1 : ¬ ((x.preds.length : Nat) : Int) < (x.preds.length : Int) := by omega
                            rw [List.take_of_length_le (Nat.le_refl _)] at hT
                            have HTS : Hid (TS F W0 B bo (.slice none 0 0) W0 (XD ++ XC ++ XO ++ XV ++ (f.insts.take (j + 1)).flatMap instT) wr) := by
                              have h := HUpa.out _ _ hT.out
                              show TS _ _ _ _ _ _ _ _
                              rw [HFt.out, ← List.append_assoc]
                              rw [List.append_assoc] at h
                              exact h
                            clear hT
                            go_wp2_with fail
                            go_roundw
                            case rel => exact ⟨j + 1, by omega, by go_num, HTS.out⟩
                            case measure => simp [intOf]; omega
                    · obtain rfl : j = f.insts.length := by omega
                      have k1 : ¬ ((f.insts.length : Nat) : Int) < (f.insts.length : Int) := by omega
                      rw [List.take_of_length_le (Nat.le_refl _), HXI.out] at hT
                      obtain ⟨U, hU, hG, hTo⟩ := hT.out
                      have hK := hTo.keeps
                      obtain ⟨v', t', -, -⟩ := hTo
                      have hrow := t'.row
                      obtain ⟨A9, c9, rfl⟩ := row_form hrow
                      have zb := t'.box.cell (i := 0) rfl
                      have HE := Lib.hid (HEnd.out _ hK)
                      have HSl : Hid (Sl wr (fun b => b < wr.heap.size) tyD (typesP f) (.slice A9 U.length c9)) := by
                        show Sl _ _ _ _ _
                        rw [HX.out, ← hU]
                        exact Sl.of_own (F := F) hrow (List.length_map _).symm (rpAll_flatU (fun p hp => (hG p hp).keeps hK HFar.out)) (fun b hb => Nat.lt_of_lt_of_le (HFb.out b hb).1 hK.size) (fun b hb => (hrow.lt b hb).2)
                      clear hT hlt hj hU hG hK t' hrow
                      go_wp2_with fail
                      go_ret
                      exact ⟨_, rfl, HSl.out, HE.out⟩
end If
end Go.Proofs.YtcbkihplchdhhaaDoor
