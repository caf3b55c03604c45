/- classes.super. -/
import Derived.Test.YtdljlpogljjldaaDoorCCheck
namespace Go.Proofs.YtdljlpogljjldaaDoor
open Go.RowKit Go.Shelf Go.Sort

theorem infoPf : (Tryd.prog.info? 27).map (fun i => (i.zero, i.size, i.bytes)) = some (some (.agg #[.int .i64 0, .int .i64 0, .slice none 0 0]), 3, 24 + 16) := by kernel_rfl
/-- Superclasses are known. -/
def Known (l : List ClassSig) : Prop := ∀ c ∈ l, ∀ s ∈ c.super, (findC l s).isSome = true
theorem findC_mem {l : List ClassSig} {n : ByteArray} {c : ClassSig} (h : findC l n = some c) : c ∈ l ∧ c.name = n := by
  unfold findC at h
  exact ⟨List.mem_of_find?_eq_some h, by simpa using List.find?_some h⟩
theorem findC_name {l : List ClassSig} {n : ByteArray} (h : (findC l n).isSome = true) : n ∈ l.map ClassSig.name := by
  cases hc : findC l n with
  | none => rw [hc] at h; cases h
  | some c => obtain ⟨h1, h2⟩ := findC_mem hc; exact List.mem_map.2 ⟨c, h1, h2⟩
theorem nodup_le {α : Type} : ∀ {s l : List α}, s.Nodup → (∀ y ∈ s, y ∈ l) → s.length ≤ l.length
  | [], _, _, _ => Nat.zero_le _
  | x :: s, l, hn, h => by
    have hx : x ∈ l := h x List.mem_cons_self
    obtain ⟨l1, l2, rfl⟩ := List.append_of_mem hx
    have h2 := List.nodup_cons.1 hn
    have := nodup_le (s := s) (l := l1 ++ l2) h2.2 (fun y hy => by
      have h3 := h y (List.mem_cons_of_mem _ hy)
      rcases List.mem_append.1 h3 with h3 | h3
      · exact List.mem_append.2 (.inl h3)
      · rcases List.mem_cons.1 h3 with rfl | h3
        · exact absurd hy h2.1
        · exact List.mem_append.2 (.inr h3))
    simp only [List.length_append, List.length_cons] at *
    omega
/-- The names that were seen: different names of classes. -/
structure Seen (l : List ClassSig) (seen : List ByteArray) : Prop where
  nd : seen.Nodup
  sub : ∀ y ∈ seen, y ∈ l.map ClassSig.name
theorem Seen.len {l : List ClassSig} {seen : List ByteArray} (h : Seen l seen) : seen.length ≤ l.length := by
  have := nodup_le h.nd h.sub
  rwa [List.length_map] at this
theorem hasN_iff {l : List ByteArray} {s : ByteArray} : hasN l s = true ↔ s ∈ l := by
  unfold hasN
  rw [List.any_eq_true]
  constructor
  · rintro ⟨y, hy, h⟩; rw [of_decide_eq_true h]; exact hy
  · intro h; exact ⟨s, h, by simp⟩
theorem Seen.add {l : List ClassSig} {seen : List ByteArray} (h : Seen l seen) {n : ByteArray} (hn : (findC l n).isSome = true) (hs : hasN seen n = false) : Seen l (seen ++ [n]) := by
  refine ⟨?_, fun y hy => ?_⟩
  · rw [List.nodup_append]
    refine ⟨h.nd, by simp, fun a ha b hb e => ?_⟩
    rw [List.mem_singleton] at hb
    subst hb
    subst e
    rw [hasN_iff.2 ha] at hs; cases hs
  · rcases List.mem_append.1 hy with hy | hy
    · exact h.sub y hy
    · rw [List.mem_singleton.1 hy]; exact findC_name hn
/-- The variable that holds the names that were seen. -/
structure SeenV (W : World) (bs : Nat) (dv : Value) (seen : List ByteArray) : Prop where
  box : Blk W bs 39 [dv]
  own : W.ownsRow 0 9 1 dv seen.length (seen.map Value.string)
  sz : ∀ y ∈ seen, y.size ≤ maxLen
  ne : ¬ dv.ownBlock = some bs
theorem SeenV.keeps {W W' : World} {bs : Nat} {dv : Value} {seen : List ByteArray} {X : Nat → Prop} (h : SeenV W bs dv seen) (hk : Keeps X W W') (h1 : ¬ X bs) (h2 : ∀ i, dv.ownBlock = some i → ¬ X i) : SeenV W' bs dv seen :=
  ⟨h.box.keeps hk h1, own_keeps h.own hk h2, h.sz, h.ne⟩
/-- Blocks that super leaves alone. -/
def Safe (W : World) (bs : Nat) (dv : Value) (b : Nat) : Prop := b < W.heap.size ∧ b ≠ bs ∧ ¬ dv.ownBlock = some b
/-- What super leaves and answers. -/
def SuperPost (bs : Nat) (dv : Value) (G : Nat → Prop) (W : World) (r : Option Pf) (seen : List ByteArray) (e : Ending) (w' : World) : Prop :=
  ∃ dv', SeenV w' bs dv' seen ∧ (dv'.ownBlock = dv.ownBlock ∨ ∀ b, dv'.ownBlock = some b → W.heap.size ≤ b) ∧ Keeps (fun i => i = bs ∨ dv.ownBlock = some i) W w' ∧
    ((∃ p A c, r = some p ∧ e = .returned (.tuple #[.agg #[.int .i64 p.kind, .int .i64 p.num, .slice A p.subs.length c], .bool true]) ∧ PfC w' (fun b => (G b ∨ W.heap.size ≤ b) ∧ Safe w' bs dv' b) p (.slice A p.subs.length c)) ∨
     (r = none ∧ e = .returned (.tuple #[.agg #[.int .i64 0, .int .i64 0, .slice none 0 0], .bool false])))
def SuperAt (l : List ClassSig) (want : ByteArray) (q : Nat) : Prop := ∀ (W : World) (F G : Nat → Prop) (v dv : Value) (A : Option Addr) (c : Nat) (have_ : ByteArray) (p : Pf) (seen : List ByteArray) (bs : Nat) (r : Option Pf) (seen' : List ByteArray),
  Sl W F ClassSig.d l v → (∀ b, F b → Safe W bs dv b) → PfC W G p (.slice A p.subs.length c) → (∀ b, G b → Safe W bs dv b) → SeenV W bs dv seen → Seen l seen → (findC l have_).isSome = true → have_.size ≤ maxLen →
  superP l want q have_ p seen = some (r, seen') →
  Calls Tryd.prog 33 #[v, .string have_, .string want, .agg #[.int .i64 p.kind, .int .i64 p.num, .slice A p.subs.length c], .pointer (some ⟨bs, 0, none⟩)] W (fun e w' => SuperPost bs dv G W r seen' e w' ∧ Seen l seen')
theorem superL_step (f : ByteArray → Pf → List ByteArray → Option (Option Pf × List ByteArray)) (p : Pf) (s : List ByteArray) (j : Nat) (h : j < s.length) (seen : List ByteArray) : superL f p j (s.drop j) seen = match f s[j] (.mk 1 (j : Int) [p]) seen with
    | none => none
    | some (some q, seen') => some (some q, seen')
    | some (none, seen') => superL f p (j + 1) (s.drop (j + 1)) seen' := by
  rw [List.drop_eq_getElem_cons h, superL]
  rfl
theorem wf_nat (j : Nat) (h : j ≤ 9223372036854775807) : (Lit.int .i64 (j : Int)).wf = true := by
  have h1 : IntKind.i64.min = -9223372036854775808 := by decide
  have h2 : IntKind.i64.max = 9223372036854775807 := by decide
  simp [Lit.wf, h1, h2]
  omega
/-- A proof of a superclass, out of one. -/
theorem pf_one {W : World} {G : Nat → Prop} {p : Pf} {A : Option Addr} {c g : Nat} (k : Int) (n : Nat) (hk : (Lit.int .i64 k).wf = true) (hn : n ≤ 9223372036854775807) (hp : PfC W G p (.slice A p.subs.length c)) (hb : Blk W g 27 [.int .i64 p.kind, .int .i64 p.num, .slice A p.subs.length c]) :
    PfC W (fun b => G b ∨ b = g) (.mk k (n : Int) [p]) (.slice (some ⟨g, 0, none⟩) 1 1) := by
  refine ⟨hk, wf_nat n hn, ?_⟩
  show Sl W _ pfD [p] _
  unfold Sl
  simp only [Rp]
  refine ⟨_, 1, rfl, Nat.le_refl _, by unfold maxLen; omega, (fun h => nomatch h), fun _ => ⟨g, 0, _, rfl, .inr rfl, ?_, fun j u hj => by rw [Nat.zero_add]; exact hb.cell hj⟩⟩
  simp only [List.map_cons, List.map_nil]
  exact RpAll.one (pfD.rp.2 ⟨_, rfl, hp.mono (fun _ h => .inl h)⟩)
set_option maxRecDepth 100000 in
set_option maxHeartbeats 8000000 in
theorem super_step (l : List ClassSig) (hK : Known l) (hll : l.length ≤ 4096) (want : ByteArray) (q : Nat) (ih : SuperAt l want q) : SuperAt l want (q + 1) := by
  intro W F G v dv A c have_ p seen bs r seen' hv hF hp hG hS hsn hhv hhs hr
  obtain ⟨i0, hi0, hz0, hz1, hz2⟩ := info_parts infoStr
  obtain ⟨b8, hb8⟩ : ∃ b8, W.heap.size = b8 := ⟨_, rfl⟩
  obtain ⟨W0, hW0⟩ : ∃ W0, (W.alloc (.cells #[.int .i64 p.kind, .int .i64 p.num, .slice A p.subs.length c] 27)).alloc (.cells #[.int .i64 0, .int .i64 0, .slice none 0 0] 27) = W0 := ⟨_, rfl⟩
  have hk0 : Keeps (fun _ => False) W W0 := by rw [← hW0]; exact ((Keeps.refl _ _).alloc _).alloc _
  have hB8 : Blk W0 b8 27 [.int .i64 p.kind, .int .i64 p.num, .slice A p.subs.length c] := by
    rw [← hW0, ← hb8]; exact (Blk.new W _ [_, _, _]).alloc _
  have hB10 : Blk W0 (b8 + 1) 27 [.int .i64 0, .int .i64 0, .slice none 0 0] := by
    have := Blk.new (W.alloc (.cells #[.int .i64 p.kind, .int .i64 p.num, .slice A p.subs.length c] 27)) 27 [.int .i64 0, .int .i64 0, .slice none 0 0]
    rw [hW0] at this
    simpa [hb8] using this
  have hz0' : W0.heap.size = b8 + 2 := by rw [← hW0, ← hb8]; simp
  have hbs := hS.box.lt
  have hS0 := hS.keeps hk0 (fun h => h) (fun _ _ h => h)
  have hdvl : ∀ i, dv.ownBlock = some i → i < b8 := fun i hi => by have := (hS.own.lt i hi).2; omega
  have hbs8 : bs ≠ b8 := by omega
  have hbs10 : bs ≠ b8 + 1 := by omega
  have hp0 := hp.keeps hk0 (fun _ _ h => h)
  have hv0 := hv.keeps hk0 (fun _ _ h => h)
  have HK0 := Lib.hid hk0
  have HB8 := Lib.hid hB8
  have HB10 := Lib.hid hB10
  have HW0 := Lib.hid hW0
  have HZ0 := Lib.hid hz0'
  have HBn := Lib.hid hb8
  have HS0 := Lib.hid hS0
  have HDV := Lib.hid hdvl
  have HP0 := Lib.hid hp0
  have HV0 := Lib.hid hv0
  have HF := Lib.hid hF
  have HG := Lib.hid hG
  have HSN := Lib.hid hsn
  have HHV := Lib.hid hhv
  have HHS := Lib.hid hhs
  have HIH := Lib.hid ih
  have HKn := Lib.hid hK
  rw [superP] at hr
  have HR := Lib.hid hr
  have s0 := hS0.box.cell (i := 0) rfl
  have p0 := hB8.cell (i := 0) rfl
  have p1 := hB8.cell (i := 1) rfl
  have p2 := hB8.cell (i := 2) rfl
  have r0 := hB10.cell (i := 0) rfl
  have r1 := hB10.cell (i := 1) rfl
  have r2 := hB10.cell (i := 2) rfl
  have f0 := hB10.free 0
  have f1 := hB10.free 1
  have f2 := hB10.free 2
  have hl8 := hB8.lt
  have hl10 := hB10.lt
  clear hk0 hB8 hB10 hW0 hz0' hb8 hS0 hdvl hp0 hv0 hF hG hsn hhv hhs ih hK hr hS hv hp
  go_enter Tryd.func33, Tryd.ntmps33
  go_upto_region 1 with (fail)
  rw [HW0.out, HBn.out]
  by_cases hw : have_ = want
  · have hr := HR.out
    rw [if_pos hw] at hr
    simp only [Option.some.injEq, Prod.mk.injEq] at hr
    obtain ⟨rfl, rfl⟩ := hr
    have e := str_yes hw
    clear hw
    go_wp2_with fail
    obtain ⟨hB3, hK3⟩ := three HB10.out (.int .i64 p.kind) (.int .i64 p.num) (.slice A p.subs.length c)
    have hK3' : Keeps (fun i => i = b8 + 1) W0 _ := hK3
    have hb8 := HBn.out
    have hz3 := hK3.size
    have hz0 := HK0.out.size
    have hSf : SeenV _ bs dv seen := HS0.out.keeps hK3 hbs10 (fun i hi h => by have := HDV.out i hi; have h2 : i = b8 + 1 := h; omega)
    have hKf := Keeps.of_below (X := fun i => i = bs ∨ dv.ownBlock = some i) (((HK0.out.mono (Y := fun i => b8 ≤ i) (fun _ _ h => h.elim)).trans hK3 (fun i _ h => by have h2 : i = b8 + 1 := h; show b8 ≤ i; omega)).below (fun i hi => by have h2 : b8 ≤ i := hi; omega) (Nat.le_refl _))
    exact ret_row1 Tryd.results33 rfl rfl hB3 Tryd.underlying27 (by kernel_rfl) rfl
      ⟨⟨dv, hSf, .inl rfl, hKf, .inl ⟨p, A, c, rfl, rfl, (HP0.out.keeps hK3 (fun i hi h => by have := (HG.out i hi).1; have h2 : i = b8 + 1 := h; omega)).mono (fun b hb => ⟨.inl hb, by have := HG.out b hb; exact ⟨by have := this.1; omega, this.2.1, this.2.2⟩⟩)⟩⟩, HSN.out⟩
  have HR1 : Hid ((if hasN seen have_ = true then some (none, seen) else superL (superP l want q) p 0 (supOf l have_) (seen ++ [have_])) = some (r, seen')) := (if_neg hw).symm.trans HR.out
  have e := str_no hw
  obtain ⟨Ad, cd, rfl⟩ := own_slform HS0.out.own
  clear hw HR
  have hSl : Sl W0 (fun _ => True) dStr seen (.slice Ad seen.length cd) := Sl.of_own (F := fun _ => False) HS0.out.own rfl (rp_strs _ _ HS0.out.sz _) (fun _ h => h.elim) (fun _ _ => trivial)
  obtain ⟨qs, hqs⟩ : ∃ qs, hasN seen have_ = qs := ⟨_, rfl⟩
  have hCo := strContains seen have_ _ _ W0 hSl
  rw [show seen.any (fun y => decide (have_ = y)) = qs from hqs] at hCo
  have HCo := Lib.hid hCo
  have HQS := Lib.hid hqs
  clear hSl hCo hqs
  go_wp2_with fail
  with_reducible refine HCo.out.mono ?_
  rintro e w1 ⟨rfl, rfl⟩
  cases qs
  rotate_left
  · have hr := HR1.out
    rw [if_pos HQS.out] at hr
    simp only [Option.some.injEq, Prod.mk.injEq] at hr
    obtain ⟨rfl, rfl⟩ := hr
    go_wp2_with fail
    obtain ⟨hB3, hK3⟩ := three HB10.out (.int .i64 0) (.int .i64 0) (.slice none 0 0)
    have hb8 := HBn.out
    have hz3 := hK3.size
    have hz0 := HK0.out.size
    have hSf : SeenV _ bs _ seen := HS0.out.keeps hK3 hbs10 (fun i hi h => by have := HDV.out i hi; have h2 : i = b8 + 1 := h; omega)
    have hKf := Keeps.of_below (X := fun i => i = bs ∨ (Value.slice Ad seen.length cd).ownBlock = some i) (((HK0.out.mono (Y := fun i => b8 ≤ i) (fun _ _ h => h.elim)).trans hK3 (fun i _ h => by have h2 : i = b8 + 1 := h; show b8 ≤ i; omega)).below (fun i hi => by have h2 : b8 ≤ i := hi; omega) (Nat.le_refl _))
    exact ret_row1 Tryd.results33 rfl rfl hB3 Tryd.underlying27 (by kernel_rfl) rfl ⟨⟨_, hSf, .inl rfl, hKf, .inr ⟨rfl, rfl⟩⟩, HSN.out⟩
  have HR2 : Hid (superL (superP l want q) p 0 (supOf l have_) (seen ++ [have_]) = some (r, seen')) := (if_neg (by rw [HQS.out]; simp)).symm.trans HR1.out
  have HSN1 := Lib.hid (HSN.out.add HHV.out HQS.out)
  have hlen : (seen ++ [have_]).length = seen.length + 1 := by simp
  have hn1 : seen.length + 1 ≤ 281474976710 := by have := HSN.out.len; omega
  clear HR1 HQS HSN
  go_wp2_with (at_builtin; refine wpList_append_lies _ rfl _ _ 39 rfl 0 9 i0 _ 1 16 Tryd.underlying39 hi0 hz0 hz1 hz2 rfl (by omega) _ seen.length _ rfl (World.ownsRow.alloc HS0.out.own _) ⟨W0.heap.size, 0, none⟩ 1 1 [.string have_] rfl rfl (World.news_of_block (cs := #[.string have_]) (t := 9) (fr := (0, 0)) (heap_alloc_new _ _)) (by simp [Value.oneCell']) (by omega) (by unfold maxLen; omega) (by omega) (by omega) (W0.heap.size + 1) (by simp) ?_; intro gg cap w2 hown1 hgrow hat hlt1; have hk2 : Keeps (fun i => (Value.slice Ad seen.length cd).ownBlock = some i) W0 w2 := ((Keeps.refl _ _).alloc _).grown hgrow (fun j hj hjl => hj); have hD2 := HS0.out.box.keeps hk2 HS0.out.ne; have d2 := hD2.cell (i := 0) rfl; have g2 := hD2.free 0)
  have hat1 : (Value.slice Ad seen.length cd).ownBlock = some gg ∨ W0.heap.size ≤ gg := hat.imp id (fun h => by omega)
  have hne1 : gg ≠ bs := fun e => by
    rcases hat1 with h | h
    · exact HS0.out.ne (by rw [h, e])
    · have := HS0.out.box.lt; omega
  have hgl : gg < w2.heap.size := (hown1.lt gg rfl).2
  obtain ⟨W3, hW3⟩ : ∃ W3, w2.setCell ⟨bs, 0, none⟩ (.slice (some ⟨gg, 0, none⟩) (seen.length + 1) cap) = W3 := ⟨_, rfl⟩
  have hKs : Keeps (· = bs) w2 W3 := by rw [← hW3]; exact (Keeps.refl (· = bs) w2).setCell (p := ⟨bs, 0, none⟩) (fun _ => rfl) _
  have hS3 : SeenV W3 bs (.slice (some ⟨gg, 0, none⟩) (seen.length + 1) cap) (seen ++ [have_]) := by
    refine ⟨by rw [← hW3]; exact hD2.set_ 0 _, ?_, fun y hy => ?_, fun h => hne1 (by simpa [Value.ownBlock] using h)⟩
    · rw [hlen, List.map_append]
      exact own_keeps hown1 hKs (fun i hi e => by
        have e2 : gg = i := by simpa [Value.ownBlock] using hi
        have e3 : i = bs := e
        omega)
    · rcases List.mem_append.1 hy with hy | hy
      · exact HS0.out.sz y hy
      · rw [List.mem_singleton.1 hy]; exact HHS.out
  have hK3 : Keeps (fun i => i = bs ∨ (Value.slice Ad seen.length cd).ownBlock = some i) W0 W3 := (hk2.mono (fun i _ h => .inr h)).trans hKs (fun i _ h => .inl h)
  rw [hW3]
  have hXno : ∀ b, b < W.heap.size → Safe W bs (.slice Ad seen.length cd) b → ¬ (b = bs ∨ (Value.slice Ad seen.length cd).ownBlock = some b) := fun b _ h hx => by
    rcases hx with hx | hx
    · exact h.2.1 hx
    · exact h.2.2 hx
  have hV3 := HV0.out.keeps hK3 (fun i hi hx => hXno i (HF.out i hi).1 (HF.out i hi) hx)
  have hP3 := HP0.out.keeps hK3 (fun i hi hx => hXno i (HG.out i hi).1 (HG.out i hi) hx)
  have hWb := HBn.out
  have hz0 := HZ0.out
  have hz3 := hK3.size
  have hX8 : ¬ (b8 = bs ∨ (Value.slice Ad seen.length cd).ownBlock = some b8) := fun h => by
    rcases h with h | h
    · exact hbs8 h.symm
    · have := HDV.out _ h; omega
  have hX10 : ¬ (b8 + 1 = bs ∨ (Value.slice Ad seen.length cd).ownBlock = some (b8 + 1)) := fun h => by
    rcases h with h | h
    · exact hbs10 h.symm
    · have := HDV.out _ h; omega
  have hB83 := HB8.out.keeps hK3 hX8
  have hB103 := HB10.out.keeps hK3 hX10
  have hg8 : gg ≠ b8 := fun e => by
    rcases hat1 with h | h
    · have := HDV.out _ h; omega
    · omega
  have hg10 : gg ≠ b8 + 1 := fun e => by
    rcases hat1 with h | h
    · have := HDV.out _ h; omega
    · omega
  have hg3 : gg < W3.heap.size := by have := hKs.size; omega
  have HFi := Lib.hid (find_any l have_ v F W3 hV3 (fun b hb => by have := (HF.out b hb).1; omega))
  have HS3 := Lib.hid hS3
  have HV3 := Lib.hid hV3
  have HP3 := Lib.hid hP3
  have HB83 := Lib.hid hB83
  have HB103 := Lib.hid hB103
  have HK3 : Hid (Keeps (fun i => i = bs ∨ (Value.slice Ad seen.length cd).ownBlock = some i) W W3) := (HK0.out.mono (fun _ _ h => h.elim)).trans hK3 (fun _ _ h => h)
  have HA1 := Lib.hid hat1
  clear hS3 hV3 hP3 hB83 hB103 hK3 hKs hW3 hown1 hgrow hat hlt1 hk2 hD2 d2 g2 hat1 hXno hX8 hX10 hgl hne1 HS0 HV0 HP0 HB8 HB10 HCo s0 p0 p1 p2 r0 r1 r2 f0 f1 f2 hl8 hl10
  with_reducible refine HFi.out.mono ?_
  rintro e w4 ⟨hk4, (⟨cc, A3, q3, A4, n4, q4, hfc, rfl, hsup⟩ | ⟨hfc, rfl⟩)⟩
  rotate_left
  · have := HHV.out
    rw [hfc] at this; cases this
  have hso : supOf l have_ = cc.super := by unfold supOf; rw [hfc]
  have hccm := (findC_mem hfc).1
  have HCC := Lib.hid hccm
  have HRL : Hid (superL (superP l want q) p 0 cc.super (seen ++ [have_]) = some (r, seen')) := by show _ = _; rw [← hso]; exact HR2.out
  obtain ⟨sup, hsp⟩ : ∃ sup, cc.super = sup := ⟨_, rfl⟩
  have HSPs : Hid (∀ s ∈ sup, (findC l s).isSome = true) := fun s hs => HKn.out cc hccm s (by rw [hsp]; exact hs)
  rw [hsp] at HRL hsup ⊢
  obtain ⟨_, _, _, hs1, hs2, _⟩ := hsup.form
  have hs63 : (sup.length : Int) ≤ 9223372036854775807 := by unfold maxLen at hs2; omega
  obtain ⟨dv1, hdv1⟩ : ∃ dv1, Value.slice (some ⟨gg, 0, none⟩) (seen.length + 1) cap = dv1 := ⟨_, rfl⟩
  rw [hdv1] at HS3
  have hown1 : ∀ i, dv1.ownBlock = some i → i = gg := fun i hi => by rw [← hdv1] at hi; simpa [Value.ownBlock] using hi.symm
  have HO2 : Hid (dv1.ownBlock = (Value.slice Ad seen.length cd).ownBlock ∨ ∀ b, dv1.ownBlock = some b → W.heap.size ≤ b) := by
    show _ ∨ _
    rcases HA1.out with h | h
    · exact .inl (by rw [h, ← hdv1]; rfl)
    · exact .inr (fun b hb => by have := hown1 b hb; have := HZ0.out; have := HBn.out; omega)
  clear hso hfc hccm HR2 hdv1 hsp
  go_wp2_with fail
  obtain ⟨W5, hW5⟩ : ∃ W5, w4.alloc (.cells #[.string cc.name, .slice A3 sup.length q3, .slice A4 n4 q4] 42) = W5 := ⟨_, rfl⟩
  have hk5 : Keeps (fun _ => False) W3 W5 := by rw [← hW5]; exact hk4.alloc _
  have hk45 : Keeps (fun _ => False) w4 W5 := by rw [← hW5]; exact (Keeps.refl _ _).alloc _
  rw [hW5]
  have hWb := HBn.out
  have hz0 := HZ0.out
  have hs5 := hk5.size
  have HK5 : Hid (Keeps (fun i => i = bs ∨ (Value.slice Ad seen.length cd).ownBlock = some i) W W5) := HK3.out.trans hk5 (fun _ _ h => h.elim)
  have HV5 := Lib.hid (HV3.out.keeps hk5 (fun _ _ h => h))
  have HP5 := Lib.hid (HP3.out.keeps hk5 (fun _ _ h => h))
  have HU5 := Lib.hid (hsup.keeps hk45 (fun _ _ h => h))
  have HS5 := Lib.hid (HS3.out.keeps hk5 (fun h => h) (fun _ _ h => h))
  have HB85 := Lib.hid (HB83.out.keeps hk5 (fun h => h))
  have HB105 := Lib.hid (HB103.out.keeps hk5 (fun h => h))
  have hb8l := HB85.out.lt
  have hb10l := HB105.out.lt
  have hWW5 : W.heap.size ≤ W5.heap.size := by omega
  have HNo : Hid (∀ b, b < W.heap.size → Safe W bs (.slice Ad seen.length cd) b → b ≠ bs ∧ ¬ dv1.ownBlock = some b) := fun b hbl h => ⟨h.2.1, fun hx => by
    have e := hown1 b hx
    rcases HA1.out with h1 | h1
    · exact h.2.2 (by rw [h1, e])
    · omega⟩
  have H8 : Hid (¬ dv1.ownBlock = some b8 ∧ ¬ dv1.ownBlock = some (b8 + 1)) := ⟨fun h => hg8 (hown1 _ h).symm, fun h => hg10 (hown1 _ h).symm⟩
  have HO1 : Hid (∀ b, dv1.ownBlock = some b → (Value.slice Ad seen.length cd).ownBlock = some b ∨ W.heap.size ≤ b) := fun b hb => by
    rw [hown1 b hb]
    exact HA1.out.imp id (fun h => by omega)
  have hsl9 : sup.length ≤ 9223372036854775807 := by unfold maxLen at hs2; omega
  clear hW5 hk5 hk45 hk4 hWb hz0 hz3 hs5 hown1 hg8 hg10 hg3 HV3 HP3 HS3 HB83 HB103 HK3 HA1 HFi hsup hs1 hs2 hb8l hb10l
  go_loopw [45] (fun i wr => ∃ (j : Nat) (sn : List ByteArray) (dj : Value), j ≤ sup.length ∧ .int .i64 (j : Int) = i ∧ SeenV wr bs dj sn ∧ Seen l sn ∧ (dj.ownBlock = dv1.ownBlock ∨ ∀ b, dj.ownBlock = some b → W5.heap.size ≤ b) ∧ Keeps (fun i => i = bs ∨ dv1.ownBlock = some i) W5 wr ∧ Hid (superL (superP l want q) p j (sup.drop j) sn = some (r, seen'))) (fun i _ => sup.length - (intOf i).toNat)
  case atStart => exact ⟨0, _, dv1, Nat.zero_le _, rfl, HS5.out, HSN1.out, .inl rfl, Keeps.refl _ _, HRL.out⟩
  case round =>
    clear HS5 HSN1 HRL
    obtain ⟨j, sn, dj, hj, rfl, hsv, hsn, hdj, hkr, hrl⟩ := hrel
    obtain ⟨wx, hwx⟩ : ∃ wx, wx = wr := ⟨_, rfl⟩
    rw [← hwx] at hsv hkr ⊢
    clear hwx
    have h85 := HB85.out.lt
    have h105 := HB105.out.lt
    have hsx := hkr.size
    have hX8 : ¬ (b8 = bs ∨ dv1.ownBlock = some b8) := fun h => by
      rcases h with h | h
      · exact hbs8 h.symm
      · exact H8.out.1 h
    have hX10 : ¬ (b8 + 1 = bs ∨ dv1.ownBlock = some (b8 + 1)) := fun h => by
      rcases h with h | h
      · exact hbs10 h.symm
      · exact H8.out.2 h
    have hBx8 := HB85.out.keeps hkr hX8
    have hBx10 := HB105.out.keeps hkr hX10
    have hdjn : ∀ b, b < W5.heap.size → ¬ dv1.ownBlock = some b → ¬ dj.ownBlock = some b := fun b hb hn hx => by
      rcases hdj with h | h
      · exact hn (h ▸ hx)
      · have := h b hx; omega
    have hXF : ∀ i, F i → ¬ (i = bs ∨ dv1.ownBlock = some i) := fun i hi hx => by
      have := HNo.out i (HF.out i hi).1 (HF.out i hi)
      rcases hx with hx | hx
      · exact this.1 hx
      · exact this.2 hx
    have hXG : ∀ i, G i → ¬ (i = bs ∨ dv1.ownBlock = some i) := fun i hi hx => by
      have := HNo.out i (HG.out i hi).1 (HG.out i hi)
      rcases hx with hx | hx
      · exact this.1 hx
      · exact this.2 hx
    have p0 := hBx8.cell (i := 0) rfl
    have p1 := hBx8.cell (i := 1) rfl
    have p2 := hBx8.cell (i := 2) rfl
    have r0 := hBx10.cell (i := 0) rfl
    have r1 := hBx10.cell (i := 1) rfl
    have r2 := hBx10.cell (i := 2) rfl
    have f0 := hBx10.free 0
    have f1 := hBx10.free 1
    have f2 := hBx10.free 2
    have hl8 := hBx8.lt
    have hl10 := hBx10.lt
    have HBx10 := Lib.hid hBx10
    have HBx8 := Lib.hid hBx8
    by_cases hlt : j < sup.length
    · have hst := superL_step (superP l want q) p sup j hlt sn
      obtain ⟨gs, offs, hadr, hgs, c0, hss⟩ := dStr.get (HU5.out.keeps hkr hXF) hlt
      obtain rfl := hadr
      have hfx := HSPs.out _ (List.getElem_mem hlt)
      obtain ⟨x, hx⟩ : ∃ x, sup[j] = x := ⟨_, rfl⟩
      rw [hx] at hst c0 hss hfx
      have hr2 := hst.symm.trans hrl.out
      clear hst
      cases hc : superP l want q x (.mk 1 (j : Int) [p]) sn with
      | none => rw [hc] at hr2; cases hr2
      | some res =>
        obtain ⟨ro, sn'⟩ := res
        rw [hc] at hr2
        obtain ⟨bN, hbN⟩ : ∃ bN, wx.heap.size = bN := ⟨_, rfl⟩
        obtain ⟨X, hX⟩ : ∃ X, wx.alloc (.cells #[.int .i64 p.kind, .int .i64 p.num, .slice A p.subs.length c] 27) = X := ⟨_, rfl⟩
        have hkX : Keeps (fun _ => False) wx X := by rw [← hX]; exact (Keeps.refl _ _).alloc _
        have hBN : Blk X bN 27 [.int .i64 p.kind, .int .i64 p.num, .slice A p.subs.length c] := by rw [← hX, ← hbN]; exact Blk.new wx _ [_, _, _]
        have hsX := hkX.size
        have hbNl := hBN.lt
        have hWW : W.heap.size ≤ W5.heap.size := hWW5
        have hdl : ∀ i, dj.ownBlock = some i → i < wx.heap.size := fun i hi => (hsv.own.lt i hi).2
        have hbsl := hsv.box.lt
        have HC := Lib.hid (HIH.out X F (fun b => G b ∨ b = bN) v dj (some ⟨bN, 0, none⟩) 1 x (.mk 1 (j : Int) [p]) sn bs ro sn' ((HV5.out.keeps hkr hXF).keeps hkX (fun _ _ h => h))
          (fun b hb => by
            have h1 := HNo.out b (HF.out b hb).1 (HF.out b hb)
            have h2 := (HF.out b hb).1
            exact ⟨by omega, h1.1, hdjn b (by omega) h1.2⟩)
          (pf_one 1 j (by decide) (by omega) ((HP5.out.keeps hkr hXG).keeps hkX (fun _ _ h => h)) hBN)
          (fun b hb => by
            rcases hb with hb | hb
            · have h1 := HNo.out b (HG.out b hb).1 (HG.out b hb)
              have h2 := (HG.out b hb).1
              exact ⟨by omega, h1.1, hdjn b (by omega) h1.2⟩
            · subst hb
              exact ⟨hbNl, by omega, fun h => by have := hdl _ h; omega⟩)
          (hsv.keeps hkX (fun h => h) (fun _ _ h => h)) hsn hfx hss hc)
        have HXn := Lib.hid hX
        have HKX := Lib.hid hkX
        have HSV := Lib.hid hsv
        have HDJ := Lib.hid hdj
        have HKR := Lib.hid hkr
        have HR2 := Lib.hid hr2
        have HDL := Lib.hid hdl
        have HBnN := Lib.hid hbN
        have hjl : (j : Int) < (sup.length : Int) := by omega
        have hj0 : (0 : Int) ≤ (j : Int) := by omega
        have HWW := Lib.hid hWW
        have HDN := Lib.hid hdjn
        clear hc hr2 hrl hfx hx hss hX hkX hBN hsX hbNl hdl hbsl hsv hdj hkr hXF hXG hBx8 hBx10 hsn hdjn hWW hbN
        go_wp2_with fail
        rw [HXn.out, HBnN.out]
        refine HC.out.mono ?_
        rintro e w6 ⟨⟨dv6, hsv6, hdv6, hk6, (⟨pr, A6, c6, hro, rfl, hpr⟩ | ⟨hro, rfl⟩)⟩, hsn6⟩
        · have hr3 := HR2.out
          rw [hro] at hr3
          simp only [Option.some.injEq, Prod.mk.injEq] at hr3
          obtain ⟨rfl, rfl⟩ := hr3
          have hd10 : ¬ (b8 + 1 = bs ∨ dj.ownBlock = some (b8 + 1)) := fun h => by
            rcases h with h | h
            · exact hbs10 h.symm
            · exact HDN.out _ h105 H8.out.2 h
          have hb10 := (HBx10.out.keeps HKX.out (fun h => h)).keeps hk6 hd10
          have r0 := hb10.cell (i := 0) rfl
          have r1 := hb10.cell (i := 1) rfl
          have r2 := hb10.cell (i := 2) rfl
          have f0 := hb10.free 0
          have f1 := hb10.free 1
          have f2 := hb10.free 2
          have hl10 := hb10.lt
          have HB10 := Lib.hid hb10
          have hsX := HKX.out.size
          have hs6 := hk6.size
          have hWb := HBn.out
          have hWWo := HWW.out
          have HKT : Hid (Keeps (fun i => i = bs ∨ (Value.slice Ad seen.length cd).ownBlock = some i) W w6) := by
            have hy : ∀ i, i < W.heap.size → dv1.ownBlock = some i → (Value.slice Ad seen.length cd).ownBlock = some i := fun i hi h => by
              rcases HO1.out i h with h2 | h2
              · exact h2
              · omega
            refine ((HK5.out.trans HKR.out (fun i hi h => h.imp id (hy i hi))).trans HKX.out (fun _ _ h => h.elim)).trans hk6 (fun i hi h => h.imp id (fun h => ?_))
            rcases HDJ.out with h2 | h2
            · exact hy i hi (h2 ▸ h)
            · have := h2 i h; omega
          have HDV6 : Hid (dv6.ownBlock = (Value.slice Ad seen.length cd).ownBlock ∨ ∀ b, dv6.ownBlock = some b → W.heap.size ≤ b) := by
            show _ ∨ _
            rcases hdv6 with h | h
            · rcases HDJ.out with h2 | h2
              · rw [h, h2]; exact HO2.out
              · exact .inr (fun b hb => by rw [h] at hb; have := h2 b hb; omega)
            · exact .inr (fun b hb => by have := h b hb; omega)
          have HD610 : Hid (¬ dv6.ownBlock = some (b8 + 1)) := fun h => by
            rcases hdv6 with h2 | h2
            · exact hd10 (.inr (h2 ▸ h))
            · have := h2 _ h; omega
          have HSV6 := Lib.hid hsv6
          have HPR := Lib.hid hpr
          have HSN6 := Lib.hid hsn6
          have hz1 := HKR.out.size
          clear hb10 hd10 hk6 hsv6 hdv6 hpr hro p0 p1 p2 hsn6
          go_wp2_with fail
          obtain ⟨hB3, hK3⟩ := three HB10.out (.int .i64 pr.kind) (.int .i64 pr.num) (.slice A6 pr.subs.length c6)
          have hK3a := hK3.alloc (.cells #[.int .i64 pr.kind, .int .i64 pr.num, .slice A6 pr.subs.length c6] 27)
          have hz3 := hK3a.size
          refine ret_row1 Tryd.results33 rfl rfl (hB3.alloc _) Tryd.underlying27 (by kernel_rfl) rfl ⟨⟨dv6, ?_, HDV6.out, ?_, .inl ⟨pr, A6, c6, rfl, rfl, ?_⟩⟩, HSN6.out⟩
          · exact HSV6.out.keeps hK3a hbs10 (fun i hi h => HD610.out (by have h2 : i = b8 + 1 := h; rw [← h2]; exact hi))
          · exact HKT.out.trans hK3a (fun i hi h => by have h2 : i = b8 + 1 := h; omega)
          · exact (HPR.out.keeps hK3a (fun i hi h => by
              have h2 : i = b8 + 1 := h
              rcases hi.1 with (h3 | h3) | h3
              · have := (HG.out i h3).1; omega
              · have := HBnN.out; omega
              · omega)).mono (fun b hb => ⟨by
                rcases hb.1 with (h3 | h3) | h3
                · exact .inl h3
                · exact .inr (by have := HBnN.out; omega)
                · exact .inr (by omega), ⟨by have := hb.2.1; omega, hb.2.2.1, hb.2.2.2⟩⟩)
        · have hr3 := HR2.out
          rw [hro] at hr3
          have HRN : Hid (superL (superP l want q) p (j + 1) (sup.drop (j + 1)) sn' = some (r, seen')) := hr3
          have hd10 : ¬ (b8 + 1 = bs ∨ dj.ownBlock = some (b8 + 1)) := fun h => by
            rcases h with h | h
            · exact hbs10 h.symm
            · exact HDN.out _ h105 H8.out.2 h
          have hb10 := (HBx10.out.keeps HKX.out (fun h => h)).keeps hk6 hd10
          have r0 := hb10.cell (i := 0) rfl
          have r1 := hb10.cell (i := 1) rfl
          have r2 := hb10.cell (i := 2) rfl
          have f0 := hb10.free 0
          have f1 := hb10.free 1
          have f2 := hb10.free 2
          have hl10 := hb10.lt
          have HB10 := Lib.hid hb10
          have hsX := HKX.out.size
          have hs6 := hk6.size
          have hWb := HBn.out
          have hWWo := HWW.out
          have HKT : Hid (Keeps (fun i => i = bs ∨ (Value.slice Ad seen.length cd).ownBlock = some i) W w6) := by
            have hy : ∀ i, i < W.heap.size → dv1.ownBlock = some i → (Value.slice Ad seen.length cd).ownBlock = some i := fun i hi h => by
              rcases HO1.out i h with h2 | h2
              · exact h2
              · omega
            refine ((HK5.out.trans HKR.out (fun i hi h => h.imp id (hy i hi))).trans HKX.out (fun _ _ h => h.elim)).trans hk6 (fun i hi h => h.imp id (fun h => ?_))
            rcases HDJ.out with h2 | h2
            · exact hy i hi (h2 ▸ h)
            · have := h2 i h; omega
          have HDV6 : Hid (dv6.ownBlock = (Value.slice Ad seen.length cd).ownBlock ∨ ∀ b, dv6.ownBlock = some b → W.heap.size ≤ b) := by
            show _ ∨ _
            rcases hdv6 with h | h
            · rcases HDJ.out with h2 | h2
              · rw [h, h2]; exact HO2.out
              · exact .inr (fun b hb => by rw [h] at hb; have := h2 b hb; omega)
            · exact .inr (fun b hb => by have := h b hb; omega)
          have HKW : Hid (Keeps (fun i => i = bs ∨ dv1.ownBlock = some i) W5 w6) := by
            refine (HKR.out.trans HKX.out (fun _ _ h => h.elim)).trans hk6 (fun i hi h => h.imp id (fun h => ?_))
            rcases HDJ.out with h2 | h2
            · exact h2 ▸ h
            · have := h2 i h; omega
          have HDJ6 : Hid (dv6.ownBlock = dv1.ownBlock ∨ ∀ b, dv6.ownBlock = some b → W5.heap.size ≤ b) := by
            show _ ∨ _
            rcases hdv6 with h | h
            · rcases HDJ.out with h2 | h2
              · exact .inl (h.trans h2)
              · exact .inr (fun b hb => h2 b (h ▸ hb))
            · exact .inr (fun b hb => by have := h b hb; have := HKR.out.size; omega)
          have HSV6 := Lib.hid hsv6
          have HSN6 := Lib.hid hsn6
          clear hb10 hd10 hk6 hsv6 hdv6 hro p0 p1 p2 hsn6 hr3
          go_wp2_with fail
          go_roundw
          case rel => exact ⟨j + 1, sn', dv6, by omega, by go_num, HSV6.out.keeps ((Keeps.refl (fun _ => False) _).alloc _) (fun h => h) (fun _ _ h => h), HSN6.out, HDJ6.out, HKW.out.alloc _, HRN.out⟩
          case measure => simp [intOf]; omega
    · have hd : sup.drop j = [] := List.drop_eq_nil_of_le (by omega)
      have hr3 := hrl.out
      rw [hd, superL] at hr3
      simp only [Option.some.injEq, Prod.mk.injEq] at hr3
      obtain ⟨rfl, rfl⟩ := hr3
      have hjl : ¬ (j : Int) < (sup.length : Int) := by omega
      have HKT : Hid (Keeps (fun i => i = bs ∨ (Value.slice Ad seen.length cd).ownBlock = some i) W wx) := by
        refine HK5.out.trans hkr (fun i hi h => h.imp id (fun h => ?_))
        rcases HO1.out i h with h2 | h2
        · exact h2
        · omega
      have HDV6 : Hid (dj.ownBlock = (Value.slice Ad seen.length cd).ownBlock ∨ ∀ b, dj.ownBlock = some b → W.heap.size ≤ b) := by
        show _ ∨ _
        rcases hdj with h2 | h2
        · rw [h2]; exact HO2.out
        · exact .inr (fun b hb => by have := h2 b hb; omega)
      have HD610 : Hid (¬ dj.ownBlock = some (b8 + 1)) := hdjn _ h105 H8.out.2
      have HSV := Lib.hid hsv
      have HSN6 := Lib.hid hsn
      have hWb := HBn.out
      clear hd hsv hdj hkr hrl hdjn hXF hXG hBx8 hBx10 hsn
      go_wp2_with fail
      obtain ⟨hB3, hK3⟩ := three HBx10.out (.int .i64 0) (.int .i64 0) (.slice none 0 0)
      refine ret_row1 Tryd.results33 rfl rfl hB3 Tryd.underlying27 (by kernel_rfl) rfl ⟨⟨dj, ?_, HDV6.out, ?_, .inr ⟨rfl, rfl⟩⟩, HSN6.out⟩
      · exact HSV.out.keeps hK3 hbs10 (fun i hi h => HD610.out (by have h2 : i = b8 + 1 := h; rw [← h2]; exact hi))
      · exact HKT.out.trans hK3 (fun i hi h => by have h2 : i = b8 + 1 := h; omega)
theorem super_any (l : List ClassSig) (hK : Known l) (hll : l.length ≤ 4096) (want : ByteArray) : ∀ q, SuperAt l want q
  | 0 => fun W F G v dv A c have_ p seen bs r seen' _ _ _ _ _ _ _ _ h => by cases h
  | q + 1 => super_step l hK hll want q (super_any l hK hll want q)
end Go.Proofs.YtdljlpogljjldaaDoor
