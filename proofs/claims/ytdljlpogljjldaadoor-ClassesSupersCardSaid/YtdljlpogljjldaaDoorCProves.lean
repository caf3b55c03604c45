/- classes.proves, at proofs that are accepted. -/
import Derived.Test.YtdljlpogljjldaaDoorCPrvL
namespace Go.Proofs.YtdljlpogljjldaaDoor
open Go.RowKit Go.Shelf Go.Sort

theorem provesAll_get {l : List ClassSig} {s : List InstSig} {hs : List Pred} : ∀ (subs : List Pf) (needs : List Pred), provesAll l s hs subs needs = true → ∀ (j : Nat) (h : j < subs.length) (h2 : j < needs.length), provesP l s hs subs[j] needs[j].ty = some needs[j].cls
  | [], _, _, _, h, _ => by simp at h
  | _ :: _, [], _, _, _, h => by simp at h
  | p :: subs, n :: needs, ha, 0, _, _ => by
    rw [provesAll] at ha
    split at ha
    · assumption
    · cases ha
  | p :: subs, n :: needs, ha, j + 1, h, h2 => by
    rw [provesAll] at ha
    split at ha
    · exact provesAll_get subs needs ha j (by simpa using h) (by simpa using h2)
    · cases ha
/-- proves at a proof that is accepted. -/
def ProvAt (l : List ClassSig) (s : List InstSig) (hs : List Pred) (p : Pf) : Prop := ∀ (W : World) (F G Gt : Nat → Prop) (vl vi vh : Value) (A : Option Addr) (c : Nat) (t : Ty) (At : Option Addr) (ct : Nat) (name : ByteArray),
  Sl W F ClassSig.d l vl → Sl W F InstSig.d s vi → Sl W F Pred.d hs vh → (∀ b, F b → b < W.heap.size) → PfC W G p (.slice A p.subs.length c) → (∀ b, G b → b < W.heap.size) → TyC W Gt t (.slice At t.args.length ct) → (∀ b, Gt b → b < W.heap.size) → t.Wf → nodes t ≤ 4096 → provesP l s hs p t = some name →
  Calls Tryd.prog 23 #[vl, vi, vh, .agg #[.int .i64 p.kind, .int .i64 p.num, .slice A p.subs.length c], .agg #[.int .i64 t.kind, .string t.name, .int .i64 t.var, .slice At t.args.length ct]] W (fun e w' => e = .returned (.tuple #[.string name, .bool true]) ∧ Keeps (fun _ => False) W w')
set_option maxRecDepth 100000 in
set_option maxHeartbeats 16000000 in
theorem proves_step (l : List ClassSig) (s : List InstSig) (hs : List Pred) (hE : EnvOk l s hs) (k n : Int) (subs : List Pf) (ih : ∀ q ∈ subs, ProvAt l s hs q) : ProvAt l s hs (.mk k n subs) := by
  intro W F G Gt vl vi vh A c t At ct name hvl hvi hvh hF hp hG hT hGt hwf hnd hr
  obtain ⟨Ah, ch, rfl, hhc, hhm, _⟩ := hvh.form
  obtain ⟨Ai, ci, rfl, hic, him, _⟩ := hvi.form
  have hh63 : hs.length ≤ 9223372036854775807 := by unfold maxLen at hhm; omega
  have hi63 : s.length ≤ 9223372036854775807 := by unfold maxLen at him; omega
  obtain ⟨L, hL⟩ : ∃ L, subs.length = L := ⟨_, rfl⟩
  have hp0 : PfC W G (.mk k n subs) (.slice A subs.length c) := hp
  rw [provesP] at hr
  show Calls Tryd.prog 23 #[vl, .slice Ai s.length ci, .slice Ah hs.length ch, .agg #[.int .i64 k, .int .i64 n, .slice A subs.length c], .agg #[.int .i64 t.kind, .string t.name, .int .i64 t.var, .slice At t.args.length ct]] W _
  rw [hL] at hp0 hr ⊢
  have HLq := Lib.hid hL
  obtain ⟨b8, hb8⟩ : ∃ b8, W.heap.size = b8 := ⟨_, rfl⟩
  obtain ⟨W0, hW0⟩ : ∃ W0, (W.alloc (.cells #[.int .i64 k, .int .i64 n, .slice A L c] 27)).alloc (.cells #[.int .i64 t.kind, .string t.name, .int .i64 t.var, .slice At t.args.length ct] 24) = W0 := ⟨_, rfl⟩
  have hk0 : Keeps (fun _ => False) W W0 := by rw [← hW0]; exact ((Keeps.refl _ _).alloc _).alloc _
  have hB8 : Blk W0 b8 27 [.int .i64 k, .int .i64 n, .slice A L c] := by
    rw [← hW0, ← hb8]; exact (Blk.new W _ [_, _, _]).alloc _
  have hB9 : Blk W0 (b8 + 1) 24 [.int .i64 t.kind, .string t.name, .int .i64 t.var, .slice At t.args.length ct] := by
    have := Blk.new (W.alloc (.cells #[.int .i64 k, .int .i64 n, .slice A L c] 27)) 24 [.int .i64 t.kind, .string t.name, .int .i64 t.var, .slice At t.args.length ct]
    rw [hW0] at this
    simpa [hb8] using this
  have hz0' : W0.heap.size = b8 + 2 := by rw [← hW0, ← hb8]; simp
  have hp' : PfC W G (.mk k n subs) (.slice A L c) := hp0
  have HVl := Lib.hid (hvl.keeps hk0 (fun _ _ h => h))
  have HVi := Lib.hid (hvi.keeps hk0 (fun _ _ h => h))
  have HVh := Lib.hid (hvh.keeps hk0 (fun _ _ h => h))
  have HSb : Hid (Sl W0 G pfD subs (.slice A L c)) := hp'.subs.keeps hk0 (fun _ _ h => h)
  have HT := Lib.hid (hT.keeps hk0 (fun _ _ h => h))
  have HF : Hid (∀ b, F b → b < W0.heap.size) := fun b hb => by have := hF b hb; omega
  have HG : Hid (∀ b, G b → b < W0.heap.size) := fun b hb => by have := hG b hb; omega
  have HGt : Hid (∀ b, Gt b → b < W0.heap.size) := fun b hb => by have := hGt b hb; omega
  have HK0 := Lib.hid hk0
  have HB8 := Lib.hid hB8
  have HB9 := Lib.hid hB9
  have HW0 := Lib.hid hW0
  have HBn := Lib.hid hb8
  have HZ0 := Lib.hid hz0'
  have HWf := Lib.hid hwf
  have HNd := Lib.hid hnd
  have HE := Lib.hid hE
  have HIH := Lib.hid ih
  have HNw := Lib.hid (show (Lit.int .i64 n).wf = true from hp0.num)
  have HR := Lib.hid hr
  have p0 := hB8.cell (i := 0) rfl
  have p1 := hB8.cell (i := 1) rfl
  have p2 := hB8.cell (i := 2) rfl
  have t0 := hB9.cell (i := 0) rfl
  have t1 := hB9.cell (i := 1) rfl
  have t2 := hB9.cell (i := 2) rfl
  have t3 := hB9.cell (i := 3) rfl
  have hl8 := hB8.lt
  have hl9 := hB9.lt
  clear hvl hvi hvh hF hp hp' hp0 hL hG hT hGt hwf hnd hE ih hr hk0 hB8 hB9 hW0 hb8 hz0' hhc hhm hic him
  by_cases h1 : k = 0 ∧ 0 ≤ n ∧ n < (hs.length : Int) ∧ L = 0
  · have hr := HR.out
    rw [if_pos h1] at hr
    obtain ⟨rfl, hn0, hn1, rfl⟩ := h1
    obtain ⟨m, rfl⟩ : ∃ m : Nat, (m : Int) = n := ⟨n.toNat, by omega⟩
    have hlt : m < hs.length := by omega
    have hx : hs[((m : Int)).toNat]? = some hs[m] := by simp [hlt]
    rw [hx] at hr
    dsimp only at hr
    obtain ⟨g, off, v1, hadr, hg, c0, c1, c2, c3, c4, hcs, hTh⟩ := Pred.get HVh.out hlt
    obtain rfl := hadr
    obtain ⟨A1, q1, rfl, _⟩ := hTh.form
    have hhv := HE.out.have_ _ (List.getElem_mem hlt)
    obtain ⟨h, hh⟩ : ∃ h, hs[m] = h := ⟨_, rfl⟩
    rw [hh] at hr c0 c1 c2 c3 c4 hTh hhv
    have hsb : sameB h.ty t = true := by
      cases hq : sameB h.ty t with
      | true => rfl
      | false => rw [hq] at hr; simp at hr
    rw [if_pos hsb] at hr
    simp only [Option.some.injEq] at hr
    subst hr
    have HSame : Hid (∀ X, Keeps (fun _ => False) W0 X → Calls Tryd.prog 32 #[.agg #[.int .i64 h.ty.kind, .string h.ty.name, .int .i64 h.ty.var, .slice A1 h.ty.args.length q1], .agg #[.int .i64 t.kind, .string t.name, .int .i64 t.var, .slice At t.args.length ct]] X (fun e w' => e = .returned (.bool true) ∧ Keeps (fun _ => False) X w')) := fun X hk => by
      have hsz := hk.size
      have hx := same_any h.ty t X (fun b => b < X.heap.size) _ _ ((hTh.keeps hk (fun _ _ h => h)).mono (fun b hb => by have := HF.out b hb; omega)) ((HT.out.keeps hk (fun _ _ h => h)).mono (fun b hb => by have := HGt.out b hb; omega)) (fun _ h => h) hhv.2.1.nok HWf.out.nok (by have := hhv.2.2; omega) (by have := HNd.out; omega)
      unfold tyV at hx
      refine hx.mono ?_
      rintro e w' ⟨he, hb⟩
      exact ⟨by rw [he]; exact congrArg (fun z => Ending.returned (.bool z)) hsb, Keeps.of_below (X := fun _ => False) hb⟩
    have hQ : Hid (∀ X, Keeps (fun _ => False) W0 X → (X.cell? ⟨b8, 1, none⟩ = some (.int .i64 (m : Int)) ∧ X.cell? ⟨g, off + m * 5, none⟩ = some (.string h.cls) ∧ X.cell? ⟨g, off + m * 5 + 1, none⟩ = some (.int .i64 h.ty.kind) ∧ X.cell? ⟨g, off + m * 5 + 2, none⟩ = some (.string h.ty.name) ∧ X.cell? ⟨g, off + m * 5 + 3, none⟩ = some (.int .i64 h.ty.var) ∧ X.cell? ⟨g, off + m * 5 + 4, none⟩ = some (.slice A1 h.ty.args.length q1) ∧ X.cell? ⟨b8 + 1, 0, none⟩ = some (.int .i64 t.kind) ∧ X.cell? ⟨b8 + 1, 1, none⟩ = some (.string t.name) ∧ X.cell? ⟨b8 + 1, 2, none⟩ = some (.int .i64 t.var) ∧ X.cell? ⟨b8 + 1, 3, none⟩ = some (.slice At t.args.length ct))) := fun X hk => by
      have hx := HB8.out.keeps hk (fun h => h)
      have hy := HB9.out.keeps hk (fun h => h)
      exact ⟨hx.cell (i := 1) rfl, hk.cell c0 (fun h => h), hk.cell c1 (fun h => h), hk.cell c2 (fun h => h), hk.cell c3 (fun h => h), hk.cell c4 (fun h => h), hy.cell (i := 0) rfl, hy.cell (i := 1) rfl, hy.cell (i := 2) rfl, hy.cell (i := 3) rfl⟩
    clear hh hTh hhv hsb hcs hx
    go_enter Tryd.func23, Tryd.ntmps23
    go_upto_region 1 with (fail)
    rw [HW0.out, HBn.out]
    go_upto_region 2 with (fail)
    clear p0 p1 p2 t0 t1 t2 t3 c0 c1 c2 c3 c4
    refine wp_region_noPanic ?_
    refine wp_region_till [] (fun X => X.cell? ⟨b8, 1, none⟩ = some (.int .i64 (m : Int)) ∧ X.cell? ⟨g, off + m * 5, none⟩ = some (.string h.cls) ∧ X.cell? ⟨g, off + m * 5 + 1, none⟩ = some (.int .i64 h.ty.kind) ∧ X.cell? ⟨g, off + m * 5 + 2, none⟩ = some (.string h.ty.name) ∧ X.cell? ⟨g, off + m * 5 + 3, none⟩ = some (.int .i64 h.ty.var) ∧ X.cell? ⟨g, off + m * 5 + 4, none⟩ = some (.slice A1 h.ty.args.length q1) ∧ X.cell? ⟨b8 + 1, 0, none⟩ = some (.int .i64 t.kind) ∧ X.cell? ⟨b8 + 1, 1, none⟩ = some (.string t.name) ∧ X.cell? ⟨b8 + 1, 2, none⟩ = some (.int .i64 t.var) ∧ X.cell? ⟨b8 + 1, 3, none⟩ = some (.slice At t.args.length ct)) (by kernel_rfl) ?_ (fun hE => ?_)
    · exact hQ.out _ (by repeat (first | (with_reducible assumption) | (with_reducible exact Keeps.refl _ _) | (with_reducible refine Keeps.drewN ?_ _) | (with_reducible refine Keeps.drew ?_) | with_reducible refine Keeps.setCell ?_ (by first | (intro _; exact rfl) | (intro _; exact Or.inl rfl) | (intro _; exact Or.inr rfl) | (simp; done) | (simp; omega)) _ | (with_reducible refine Keeps.alloc ?_ _)))
    have hS := hE (by kernel_rfl)
    refine wpAnyT_pure (i := 0) (oi := { dst := some 45, op := Op.move (Operand.tmp 2), type := 36, pos := "classes.go:198", after := #[], guard := none }) (v := ?v2_0_1) rfl (by kernel_rfl) (fun _ _ _ h => h) (Or.inl ⟨by rfl, ?y2_0_1⟩) (fun _ => hS) ?_
    case y2_0_1 => (intro w hSw; go_simp; try with_reducible rfl)
    try simp only [Act.put, List.setIfInBounds_toArray, List.set_cons_zero, List.set_cons_succ]
    refine wpAnyT_pure (i := 1) (oi := { dst := some 46, op := Op.fieldAddr 27 (Operand.tmp 8) 1, type := 0, pos := "classes.go:198", after := #[], guard := none }) (v := ?v2_1_2) rfl (by kernel_rfl) (fun _ _ _ h => h) (Or.inl ⟨by rfl, ?y2_1_2⟩) (fun _ => hS) ?_
    case y2_1_2 => (intro w hSw; go_simp; try with_reducible rfl)
    try simp only [Act.put, List.setIfInBounds_toArray, List.set_cons_zero, List.set_cons_succ]
    refine wpAnyT_take (i := 2) (oi := { dst := some 47, op := Op.load 3 (Operand.tmp 46), type := 3, pos := "classes.go:198", after := #[⟨1, .data⟩], guard := none }) (v := ?v2_2_3) rfl (by kernel_rfl) (fun _ _ _ h => h) (Or.inl ⟨by rfl, ?y2_2_3⟩) hS ?_
    case y2_2_3 => (intro w hSw; (try dsimp only at hSw); go_simp; try with_reducible rfl)
    try simp only [Act.put, List.setIfInBounds_toArray, List.set_cons_zero, List.set_cons_succ]
    refine wpAnyT_pure (i := 3) (oi := { dst := some 48, op := Op.indexAddr 36 (Operand.tmp 45) (Operand.tmp 47), type := 0, pos := "classes.go:198", after := #[⟨0, .data⟩, ⟨2, .data⟩], guard := none }) (v := ?v2_3_4) rfl (by kernel_rfl) (fun _ _ _ h => h) (Or.inl ⟨by rfl, ?y2_3_4⟩) (fun _ => hS) ?_
    case y2_3_4 => (intro w hSw; go_simp; try with_reducible rfl)
    try simp only [Act.put, List.setIfInBounds_toArray, List.set_cons_zero, List.set_cons_succ]
    refine wpAnyT_pure (i := 4) (oi := { dst := some 49, op := Op.fieldAddr 35 (Operand.tmp 48) 0, type := 0, pos := "classes.go:198", after := #[⟨3, .data⟩], guard := none }) (v := ?v2_4_5) rfl (by kernel_rfl) (fun _ _ _ h => h) (Or.inl ⟨by rfl, ?y2_4_5⟩) (fun _ => hS) ?_
    case y2_4_5 => (intro w hSw; go_simp; try with_reducible rfl)
    try simp only [Act.put, List.setIfInBounds_toArray, List.set_cons_zero, List.set_cons_succ]
    refine wpAnyT_take (i := 5) (oi := { dst := some 50, op := Op.load 9 (Operand.tmp 49), type := 9, pos := "classes.go:198", after := #[⟨4, .data⟩], guard := none }) (v := ?v2_5_6) rfl (by kernel_rfl) (fun _ _ _ h => h) (Or.inl ⟨by rfl, ?y2_5_6⟩) hS ?_
    case y2_5_6 => (intro w hSw; (try dsimp only at hSw); go_simp; try with_reducible rfl)
    try simp only [Act.put, List.setIfInBounds_toArray, List.set_cons_zero, List.set_cons_succ]
    refine wpAnyT_pure (i := 6) (oi := { dst := some 51, op := Op.move (Operand.tmp 2), type := 36, pos := "classes.go:198", after := #[], guard := none }) (v := ?v2_6_7) rfl (by kernel_rfl) (fun _ _ _ h => h) (Or.inl ⟨by rfl, ?y2_6_7⟩) (fun _ => hS) ?_
    case y2_6_7 => (intro w hSw; go_simp; try with_reducible rfl)
    try simp only [Act.put, List.setIfInBounds_toArray, List.set_cons_zero, List.set_cons_succ]
    refine wpAnyT_pure (i := 7) (oi := { dst := some 52, op := Op.fieldAddr 27 (Operand.tmp 8) 1, type := 0, pos := "classes.go:198", after := #[], guard := none }) (v := ?v2_7_8) rfl (by kernel_rfl) (fun _ _ _ h => h) (Or.inl ⟨by rfl, ?y2_7_8⟩) (fun _ => hS) ?_
    case y2_7_8 => (intro w hSw; go_simp; try with_reducible rfl)
    try simp only [Act.put, List.setIfInBounds_toArray, List.set_cons_zero, List.set_cons_succ]
    refine wpAnyT_take (i := 8) (oi := { dst := some 53, op := Op.load 3 (Operand.tmp 52), type := 3, pos := "classes.go:198", after := #[⟨7, .data⟩], guard := none }) (v := ?v2_8_9) rfl (by kernel_rfl) (fun _ _ _ h => h) (Or.inl ⟨by rfl, ?y2_8_9⟩) hS ?_
    case y2_8_9 => (intro w hSw; (try dsimp only at hSw); go_simp; try with_reducible rfl)
    try simp only [Act.put, List.setIfInBounds_toArray, List.set_cons_zero, List.set_cons_succ]
    refine wpAnyT_pure (i := 9) (oi := { dst := some 54, op := Op.indexAddr 36 (Operand.tmp 51) (Operand.tmp 53), type := 0, pos := "classes.go:198", after := #[⟨6, .data⟩, ⟨8, .data⟩], guard := none }) (v := ?v2_9_10) rfl (by kernel_rfl) (fun _ _ _ h => h) (Or.inl ⟨by rfl, ?y2_9_10⟩) (fun _ => hS) ?_
    case y2_9_10 => (intro w hSw; go_simp; try with_reducible rfl)
    try simp only [Act.put, List.setIfInBounds_toArray, List.set_cons_zero, List.set_cons_succ]
    refine wpAnyT_pure (i := 10) (oi := { dst := some 55, op := Op.fieldAddr 35 (Operand.tmp 54) 1, type := 0, pos := "classes.go:198", after := #[⟨9, .data⟩], guard := none }) (v := ?v2_10_11) rfl (by kernel_rfl) (fun _ _ _ h => h) (Or.inl ⟨by rfl, ?y2_10_11⟩) (fun _ => hS) ?_
    case y2_10_11 => (intro w hSw; go_simp; try with_reducible rfl)
    try simp only [Act.put, List.setIfInBounds_toArray, List.set_cons_zero, List.set_cons_succ]
    refine wpAnyT_take (i := 11) (oi := { dst := some 56, op := Op.load 24 (Operand.tmp 55), type := 24, pos := "classes.go:198", after := #[⟨10, .data⟩], guard := none }) (v := ?v2_11_12) rfl (by kernel_rfl) (fun _ _ _ h => h) (Or.inl ⟨by rfl, ?y2_11_12⟩) hS ?_
    case y2_11_12 => (intro w hSw; (try dsimp only at hSw); go_simp; try with_reducible rfl)
    try simp only [Act.put, List.setIfInBounds_toArray, List.set_cons_zero, List.set_cons_succ]
    refine wpAnyT_take (i := 12) (oi := { dst := some 57, op := Op.load 24 (Operand.tmp 9), type := 24, pos := "classes.go:198", after := #[], guard := none }) (v := ?v2_12_13) rfl (by kernel_rfl) (fun _ _ _ h => h) (Or.inl ⟨by rfl, ?y2_12_13⟩) hS ?_
    case y2_12_13 => (intro w hSw; (try dsimp only at hSw); go_simp; try with_reducible rfl)
    try simp only [Act.put, List.setIfInBounds_toArray, List.set_cons_zero, List.set_cons_succ]
    refine wpAnyT_ready (rs := [13]) (by kernel_rfl) rfl ?_
    refine AllT.cons (o := { dst := some 58, op := Op.call { callee := Callee.value (Operand.func 32), args := #[Operand.tmp 56, Operand.tmp 57], argTypes := #[24, 24] }, type := 4, pos := "classes.go:198", after := #[⟨11, .data⟩, ⟨12, .data⟩], guard := none }) rfl (fun K hK => ?_) ?_
    · (go_simp; go_at_call 32; with_reducible refine (HSame.out _ (by repeat (first | (with_reducible assumption) | (with_reducible exact Keeps.refl _ _) | (with_reducible refine Keeps.drewN ?_ _) | (with_reducible refine Keeps.drew ?_) | with_reducible refine Keeps.setCell ?_ (by first | (intro _; exact rfl) | (intro _; exact Or.inl rfl) | (intro _; exact Or.inr rfl) | (simp; done) | (simp; omega)) _ | (with_reducible refine Keeps.alloc ?_ _)))).mono ?_; rintro e wq ⟨rfl, hkq⟩; go_wp2_with fail; have hkQ := Keeps.trans (show Keeps (fun _ => False) W0 _ from (by repeat (first | (with_reducible assumption) | (with_reducible exact Keeps.refl _ _) | (with_reducible refine Keeps.drewN ?_ _) | (with_reducible refine Keeps.drew ?_) | with_reducible refine Keeps.setCell ?_ (by first | (intro _; exact rfl) | (intro _; exact Or.inl rfl) | (intro _; exact Or.inr rfl) | (simp; done) | (simp; omega)) _ | (with_reducible refine Keeps.alloc ?_ _)))) hkq (fun _ _ h => h))
      refine hK.out _ _ (fun _ => ?_) (fun hE => ?_)
      · exact hQ.out _ (by repeat (first | (with_reducible assumption) | (with_reducible exact Keeps.refl _ _) | (with_reducible refine Keeps.drewN ?_ _) | (with_reducible refine Keeps.drew ?_) | with_reducible refine Keeps.setCell ?_ (by first | (intro _; exact rfl) | (intro _; exact Or.inl rfl) | (intro _; exact Or.inr rfl) | (simp; done) | (simp; omega)) _ | (with_reducible refine Keeps.alloc ?_ _)))
      have hS := hE (by kernel_rfl)
      clear hK K hE
      try simp only [Act.put, List.setIfInBounds_toArray, List.set_cons_zero, List.set_cons_succ]
      refine wpAnyT_ready (rs := [14]) (by kernel_rfl) rfl ?_
      refine AllT.cons (o := { dst := some 10, op := Op.assign (Operand.tmp 50), type := 9, pos := "classes.go:198", after := #[⟨5, .data⟩, ⟨13, .chain⟩, ⟨0, .phase⟩, ⟨1, .phase⟩, ⟨2, .phase⟩, ⟨3, .phase⟩, ⟨4, .phase⟩, ⟨5, .phase⟩, ⟨6, .textOnly .lateStores⟩, ⟨7, .textOnly .lateStores⟩, ⟨8, .textOnly .lateStores⟩, ⟨9, .textOnly .lateStores⟩, ⟨10, .textOnly .lateStores⟩, ⟨11, .textOnly .lateStores⟩, ⟨12, .textOnly .lateStores⟩, ⟨13, .textOnly .lateStoresUnsure⟩], guard := none }) rfl (fun K hK => ?_) ?_
      · go_simp
        refine hK.out _ _ (fun _ => ?_) (fun hE => ?_)
        · exact hQ.out _ (by repeat (first | (with_reducible assumption) | (with_reducible exact Keeps.refl _ _) | (with_reducible refine Keeps.drewN ?_ _) | (with_reducible refine Keeps.drew ?_) | with_reducible refine Keeps.setCell ?_ (by first | (intro _; exact rfl) | (intro _; exact Or.inl rfl) | (intro _; exact Or.inr rfl) | (simp; done) | (simp; omega)) _ | (with_reducible refine Keeps.alloc ?_ _)))
        have hS := hE (by kernel_rfl)
        clear hK K hE
        try simp only [Act.put, List.setIfInBounds_toArray, List.set_cons_zero, List.set_cons_succ]
        refine wpAnyT_ready (rs := [15]) (by kernel_rfl) rfl ?_
        refine AllT.cons (o := { dst := some 11, op := Op.assign (Operand.tmp 58), type := 4, pos := "classes.go:198", after := #[⟨13, .data⟩, ⟨14, .chain⟩, ⟨0, .phase⟩, ⟨1, .phase⟩, ⟨2, .phase⟩, ⟨3, .phase⟩, ⟨4, .phase⟩, ⟨5, .phase⟩, ⟨6, .phase⟩, ⟨7, .phase⟩, ⟨8, .phase⟩, ⟨9, .phase⟩, ⟨10, .phase⟩, ⟨11, .phase⟩, ⟨12, .phase⟩, ⟨13, .phase⟩, ⟨14, .phase⟩], guard := none }) rfl (fun K hK => ?_) ?_
        · go_simp
          refine hK.out _ _ (fun _ => ?_) (fun hE => ?_)
          · exact hQ.out _ (by repeat (first | (with_reducible assumption) | (with_reducible exact Keeps.refl _ _) | (with_reducible refine Keeps.drewN ?_ _) | (with_reducible refine Keeps.drew ?_) | with_reducible refine Keeps.setCell ?_ (by first | (intro _; exact rfl) | (intro _; exact Or.inl rfl) | (intro _; exact Or.inr rfl) | (simp; done) | (simp; omega)) _ | (with_reducible refine Keeps.alloc ?_ _)))
          have hS := hE (by kernel_rfl)
          clear hK K hE
          try simp only [Act.put, List.setIfInBounds_toArray, List.set_cons_zero, List.set_cons_succ]
          refine wpAnyT_done (by kernel_rfl) ?_ _
          refine NoPanic.normal ?_
          have HKQ := Lib.hid hkQ
          clear hkq hkQ hS
          go_wp2_with fail
          go_ret2
          exact ⟨rfl, HK0.out.trans HKQ.out (fun _ _ h => h)⟩
        exact AllT.nil
      exact AllT.nil
    exact AllT.nil
  · by_cases h2 : k = 1 ∧ L = 1
    · have hr := HR.out
      rw [if_neg h1, if_pos h2] at hr
      obtain ⟨rfl, rfl⟩ := h2
      obtain ⟨s1, hs1⟩ : ∃ s1, subs = [s1] := by
        have := HLq.out
        cases hsub : subs with
        | nil => rw [hsub] at this; cases this
        | cons x r => cases r with
          | nil => exact ⟨x, rfl⟩
          | cons y r => rw [hsub] at this; simp at this
      rw [hs1] at hr
      rw [provesOne] at hr
      cases hn1 : provesP l s hs s1 t with
      | none => rw [hn1] at hr; cases hr
      | some name1 =>
      rw [hn1] at hr
      dsimp only at hr
      cases hfc : findC l name1 with
      | none => rw [hfc] at hr; cases hr
      | some cc =>
      rw [hfc] at hr
      dsimp only at hr
      by_cases hnn : 0 ≤ n ∧ n < (cc.super.length : Int)
      case neg => rw [if_neg hnn] at hr; cases hr
      rw [if_pos hnn] at hr
      obtain ⟨hn0, hn2⟩ := hnn
      obtain ⟨m, rfl⟩ : ∃ m : Nat, (m : Int) = n := ⟨n.toNat, by omega⟩
      have hlt : m < cc.super.length := by omega
      have hnm : cc.super[m] = name := by
        have := (List.getElem?_eq_some_iff.1 hr).2
        simpa using this
      have hS0 := HSb.out
      have hlen1 : 0 < subs.length := by rw [hs1]; simp
      obtain ⟨g, off, v1, hadr, hg, c0, c1, c2, hP1⟩ := pfD.get hS0 hlen1
      obtain rfl := hadr
      have he1 : subs[0] = s1 := by simp [hs1]
      rw [he1] at c0 c1 hP1
      obtain ⟨A1, q1, rfl, _⟩ := hP1.form
      simp only [Nat.zero_mul, Nat.add_zero] at c0 c1 c2
      have hmem : s1 ∈ subs := by rw [hs1]; exact List.mem_cons_self
      have HC : Hid (∀ X, Keeps (fun _ => False) W0 X → Calls Tryd.prog 23 #[vl, .slice Ai s.length ci, .slice Ah hs.length ch, .agg #[.int .i64 s1.kind, .int .i64 s1.num, .slice A1 s1.subs.length q1], .agg #[.int .i64 t.kind, .string t.name, .int .i64 t.var, .slice At t.args.length ct]] X (fun e w' => e = .returned (.tuple #[.string name1, .bool true]) ∧ Keeps (fun _ => False) X w')) := fun X hk => by
        have hsz := hk.size
        exact HIH.out s1 hmem X F G Gt vl _ _ A1 q1 t At ct name1 (HVl.out.keeps hk (fun _ _ h => h)) (HVi.out.keeps hk (fun _ _ h => h)) (HVh.out.keeps hk (fun _ _ h => h)) (fun b hb => by have := HF.out b hb; omega) (hP1.keeps hk (fun _ _ h => h)) (fun b hb => by have := HG.out b hb; omega) (HT.out.keeps hk (fun _ _ h => h)) (fun b hb => by have := HGt.out b hb; omega) HWf.out HNd.out hn1
      have hQ : Hid (∀ X, Keeps (fun _ => False) W0 X → (X.cell? ⟨b8, 2, none⟩ = some (.slice (some ⟨g, off, none⟩) 1 c) ∧ X.cell? ⟨g, off, none⟩ = some (.int .i64 s1.kind) ∧ X.cell? ⟨g, off + 1, none⟩ = some (.int .i64 s1.num) ∧ X.cell? ⟨g, off + 2, none⟩ = some (.slice A1 s1.subs.length q1) ∧ X.cell? ⟨b8 + 1, 0, none⟩ = some (.int .i64 t.kind) ∧ X.cell? ⟨b8 + 1, 1, none⟩ = some (.string t.name) ∧ X.cell? ⟨b8 + 1, 2, none⟩ = some (.int .i64 t.var) ∧ X.cell? ⟨b8 + 1, 3, none⟩ = some (.slice At t.args.length ct))) := fun X hk => by
        have hx := HB8.out.keeps hk (fun h => h)
        have hy := HB9.out.keeps hk (fun h => h)
        exact ⟨hx.cell (i := 2) rfl, hk.cell c0 (fun h => h), hk.cell c1 (fun h => h), hk.cell c2 (fun h => h), hy.cell (i := 0) rfl, hy.cell (i := 1) rfl, hy.cell (i := 2) rfl, hy.cell (i := 3) rfl⟩
      have HFc := Lib.hid hfc
      have HNm := Lib.hid hnm
      clear hn1 hfc hr hnm hS0 hlen1 hP1 he1 hmem hs1 c0 c1 c2 h1 hn2
      go_enter Tryd.func23, Tryd.ntmps23
      go_upto_region 1 with (fail)
      rw [HW0.out, HBn.out]
      go_upto_region 4 with (fail)
      clear p0 p1 p2 t0 t1 t2 t3
      go_cut [12, 13] (fun v12 v13 wd => v12 = .string name1 ∧ v13 = .bool true ∧ Keeps (fun _ => False) W0 wd)
      case first =>
        refine wp_region_noPanic ?_
        refine wp_region_till [] (fun X => X.cell? ⟨b8, 2, none⟩ = some (.slice (some ⟨g, off, none⟩) 1 c) ∧ X.cell? ⟨g, off, none⟩ = some (.int .i64 s1.kind) ∧ X.cell? ⟨g, off + 1, none⟩ = some (.int .i64 s1.num) ∧ X.cell? ⟨g, off + 2, none⟩ = some (.slice A1 s1.subs.length q1) ∧ X.cell? ⟨b8 + 1, 0, none⟩ = some (.int .i64 t.kind) ∧ X.cell? ⟨b8 + 1, 1, none⟩ = some (.string t.name) ∧ X.cell? ⟨b8 + 1, 2, none⟩ = some (.int .i64 t.var) ∧ X.cell? ⟨b8 + 1, 3, none⟩ = some (.slice At t.args.length ct)) (by kernel_rfl) ?_ (fun hE => ?_)
        · exact hQ.out _ (by repeat (first | (with_reducible assumption) | (with_reducible exact Keeps.refl _ _) | (with_reducible refine Keeps.drewN ?_ _) | (with_reducible refine Keeps.drew ?_) | with_reducible refine Keeps.setCell ?_ (by first | (intro _; exact rfl) | (intro _; exact Or.inl rfl) | (intro _; exact Or.inr rfl) | (simp; done) | (simp; omega)) _ | (with_reducible refine Keeps.alloc ?_ _)))
        have hS := hE (by kernel_rfl)
        refine wpAnyT_pure (i := 0) (oi := { dst := some 70, op := Op.move (Operand.tmp 0), type := 31, pos := "classes.go:200", after := #[], guard := none }) (v := ?v4_0_1) rfl (by kernel_rfl) (fun _ _ _ h => h) (Or.inl ⟨by rfl, ?y4_0_1⟩) (fun _ => hS) ?_
        case y4_0_1 => (intro w hSw; go_simp; try with_reducible rfl)
        try simp only [Act.put, List.setIfInBounds_toArray, List.set_cons_zero, List.set_cons_succ]
        refine wpAnyT_pure (i := 1) (oi := { dst := some 71, op := Op.move (Operand.tmp 1), type := 45, pos := "classes.go:200", after := #[], guard := none }) (v := ?v4_1_2) rfl (by kernel_rfl) (fun _ _ _ h => h) (Or.inl ⟨by rfl, ?y4_1_2⟩) (fun _ => hS) ?_
        case y4_1_2 => (intro w hSw; go_simp; try with_reducible rfl)
        try simp only [Act.put, List.setIfInBounds_toArray, List.set_cons_zero, List.set_cons_succ]
        refine wpAnyT_pure (i := 2) (oi := { dst := some 72, op := Op.move (Operand.tmp 2), type := 36, pos := "classes.go:200", after := #[], guard := none }) (v := ?v4_2_3) rfl (by kernel_rfl) (fun _ _ _ h => h) (Or.inl ⟨by rfl, ?y4_2_3⟩) (fun _ => hS) ?_
        case y4_2_3 => (intro w hSw; go_simp; try with_reducible rfl)
        try simp only [Act.put, List.setIfInBounds_toArray, List.set_cons_zero, List.set_cons_succ]
        refine wpAnyT_pure (i := 3) (oi := { dst := some 73, op := Op.fieldAddr 27 (Operand.tmp 8) 2, type := 0, pos := "classes.go:200", after := #[], guard := none }) (v := ?v4_3_4) rfl (by kernel_rfl) (fun _ _ _ h => h) (Or.inl ⟨by rfl, ?y4_3_4⟩) (fun _ => hS) ?_
        case y4_3_4 => (intro w hSw; go_simp; try with_reducible rfl)
        try simp only [Act.put, List.setIfInBounds_toArray, List.set_cons_zero, List.set_cons_succ]
        refine wpAnyT_take (i := 4) (oi := { dst := some 74, op := Op.load 25 (Operand.tmp 73), type := 25, pos := "classes.go:200", after := #[⟨3, .data⟩], guard := none }) (v := ?v4_4_5) rfl (by kernel_rfl) (fun _ _ _ h => h) (Or.inl ⟨by rfl, ?y4_4_5⟩) hS ?_
        case y4_4_5 => (intro w hSw; (try dsimp only at hSw); go_simp; try with_reducible rfl)
        try simp only [Act.put, List.setIfInBounds_toArray, List.set_cons_zero, List.set_cons_succ]
        refine wpAnyT_pure (i := 5) (oi := { dst := some 75, op := Op.indexAddr 25 (Operand.tmp 74) (Operand.const (Value.int IntKind.i64 0)), type := 0, pos := "classes.go:200", after := #[⟨4, .data⟩], guard := none }) (v := ?v4_5_6) rfl (by kernel_rfl) (fun _ _ _ h => h) (Or.inl ⟨by rfl, ?y4_5_6⟩) (fun _ => hS) ?_
        case y4_5_6 => (intro w hSw; go_simp; try with_reducible rfl)
        try simp only [Act.put, List.setIfInBounds_toArray, List.set_cons_zero, List.set_cons_succ]
        refine wpAnyT_take (i := 6) (oi := { dst := some 76, op := Op.load 27 (Operand.tmp 75), type := 27, pos := "classes.go:200", after := #[⟨5, .data⟩], guard := none }) (v := ?v4_6_7) rfl (by kernel_rfl) (fun _ _ _ h => h) (Or.inl ⟨by rfl, ?y4_6_7⟩) hS ?_
        case y4_6_7 => (intro w hSw; (try dsimp only at hSw); go_simp; try with_reducible rfl)
        try simp only [Act.put, List.setIfInBounds_toArray, List.set_cons_zero, List.set_cons_succ]
        refine wpAnyT_take (i := 7) (oi := { dst := some 77, op := Op.load 24 (Operand.tmp 9), type := 24, pos := "classes.go:200", after := #[], guard := none }) (v := ?v4_7_8) rfl (by kernel_rfl) (fun _ _ _ h => h) (Or.inl ⟨by rfl, ?y4_7_8⟩) hS ?_
        case y4_7_8 => (intro w hSw; (try dsimp only at hSw); go_simp; try with_reducible rfl)
        try simp only [Act.put, List.setIfInBounds_toArray, List.set_cons_zero, List.set_cons_succ]
        refine wpAnyT_ready (rs := [8]) (by kernel_rfl) rfl ?_
        refine AllT.cons (o := { dst := some 78, op := Op.call { callee := Callee.value (Operand.func 23), args := #[Operand.tmp 70, Operand.tmp 71, Operand.tmp 72, Operand.tmp 76, Operand.tmp 77], argTypes := #[31, 45, 36, 27, 24] }, type := 64, pos := "classes.go:200", after := #[⟨0, .data⟩, ⟨1, .data⟩, ⟨2, .data⟩, ⟨6, .data⟩, ⟨7, .data⟩], guard := none }) rfl (fun K hK => ?_) ?_
        · (go_simp; go_at_call 23; with_reducible refine (HC.out _ (by repeat (first | (with_reducible assumption) | (with_reducible exact Keeps.refl _ _) | (with_reducible refine Keeps.drewN ?_ _) | (with_reducible refine Keeps.drew ?_) | with_reducible refine Keeps.setCell ?_ (by first | (intro _; exact rfl) | (intro _; exact Or.inl rfl) | (intro _; exact Or.inr rfl) | (simp; done) | (simp; omega)) _ | (with_reducible refine Keeps.alloc ?_ _)))).mono ?_; rintro e wq ⟨rfl, hkq⟩; go_wp2_with fail; have hkQ := Keeps.trans (show Keeps (fun _ => False) W0 _ from (by repeat (first | (with_reducible assumption) | (with_reducible exact Keeps.refl _ _) | (with_reducible refine Keeps.drewN ?_ _) | (with_reducible refine Keeps.drew ?_) | with_reducible refine Keeps.setCell ?_ (by first | (intro _; exact rfl) | (intro _; exact Or.inl rfl) | (intro _; exact Or.inr rfl) | (simp; done) | (simp; omega)) _ | (with_reducible refine Keeps.alloc ?_ _)))) hkq (fun _ _ h => h))
          refine hK.out _ _ (fun _ => ?_) (fun hE => ?_)
          · exact hQ.out _ (by repeat (first | (with_reducible assumption) | (with_reducible exact Keeps.refl _ _) | (with_reducible refine Keeps.drewN ?_ _) | (with_reducible refine Keeps.drew ?_) | with_reducible refine Keeps.setCell ?_ (by first | (intro _; exact rfl) | (intro _; exact Or.inl rfl) | (intro _; exact Or.inr rfl) | (simp; done) | (simp; omega)) _ | (with_reducible refine Keeps.alloc ?_ _)))
          have hS := hE (by kernel_rfl)
          clear hK K hE
          try simp only [Act.put, List.setIfInBounds_toArray, List.set_cons_zero, List.set_cons_succ]
          refine wpAnyT_pure (i := 9) (oi := { dst := some 69, op := Op.move (Operand.tmp 78), type := 64, pos := "classes.go:200", after := #[⟨8, .data⟩], guard := none }) (v := ?v4_9_9) rfl (by kernel_rfl) (fun _ _ _ h => h) (Or.inl ⟨by rfl, ?y4_9_9⟩) (fun _ => hS) ?_
          case y4_9_9 => (intro w hSw; go_simp; try with_reducible rfl)
          try simp only [Act.put, List.setIfInBounds_toArray, List.set_cons_zero, List.set_cons_succ]
          refine wpAnyT_pure (i := 10) (oi := { dst := some 79, op := Op.extract (Operand.tmp 69) 0, type := 9, pos := "classes.go:200", after := #[⟨9, .data⟩], guard := none }) (v := ?v4_10_10) rfl (by kernel_rfl) (fun _ _ _ h => h) (Or.inl ⟨by rfl, ?y4_10_10⟩) (fun _ => hS) ?_
          case y4_10_10 => (intro w hSw; go_simp; try with_reducible rfl)
          try simp only [Act.put, List.setIfInBounds_toArray, List.set_cons_zero, List.set_cons_succ]
          refine wpAnyT_pure (i := 11) (oi := { dst := some 80, op := Op.extract (Operand.tmp 69) 1, type := 4, pos := "classes.go:200", after := #[⟨9, .data⟩, ⟨12, .gcOnly .lateStores⟩], guard := none }) (v := ?v4_11_11) rfl (by kernel_rfl) (fun _ _ _ h => h) (Or.inl ⟨by rfl, ?y4_11_11⟩) (fun _ => hS) ?_
          case y4_11_11 => (intro w hSw; go_simp; try with_reducible rfl)
          try simp only [Act.put, List.setIfInBounds_toArray, List.set_cons_zero, List.set_cons_succ]
          refine wpAnyT_ready (rs := [12]) (by kernel_rfl) rfl ?_
          refine AllT.cons (o := { dst := some 12, op := Op.assign (Operand.tmp 79), type := 9, pos := "classes.go:200", after := #[⟨10, .data⟩, ⟨8, .chain⟩, ⟨0, .phase⟩, ⟨1, .phase⟩, ⟨2, .phase⟩, ⟨3, .phase⟩, ⟨4, .phase⟩, ⟨5, .phase⟩, ⟨6, .phase⟩, ⟨7, .phase⟩, ⟨8, .phase⟩, ⟨9, .phase⟩, ⟨10, .phase⟩, ⟨11, .textOnly .lateStores⟩], guard := none }) rfl (fun K hK => ?_) ?_
          · go_simp
            refine hK.out _ _ (fun _ => ?_) (fun hE => ?_)
            · exact hQ.out _ (by repeat (first | (with_reducible assumption) | (with_reducible exact Keeps.refl _ _) | (with_reducible refine Keeps.drewN ?_ _) | (with_reducible refine Keeps.drew ?_) | with_reducible refine Keeps.setCell ?_ (by first | (intro _; exact rfl) | (intro _; exact Or.inl rfl) | (intro _; exact Or.inr rfl) | (simp; done) | (simp; omega)) _ | (with_reducible refine Keeps.alloc ?_ _)))
            have hS := hE (by kernel_rfl)
            clear hK K hE
            try simp only [Act.put, List.setIfInBounds_toArray, List.set_cons_zero, List.set_cons_succ]
            refine wpAnyT_ready (rs := [13]) (by kernel_rfl) rfl ?_
            refine AllT.cons (o := { dst := some 13, op := Op.assign (Operand.tmp 80), type := 4, pos := "classes.go:200", after := #[⟨11, .data⟩, ⟨12, .chain⟩, ⟨0, .phase⟩, ⟨1, .phase⟩, ⟨2, .phase⟩, ⟨3, .phase⟩, ⟨4, .phase⟩, ⟨5, .phase⟩, ⟨6, .phase⟩, ⟨7, .phase⟩, ⟨8, .phase⟩, ⟨9, .phase⟩, ⟨10, .phase⟩, ⟨11, .phase⟩, ⟨12, .phase⟩], guard := none }) rfl (fun K hK => ?_) ?_
            · go_simp
              refine hK.out _ _ (fun _ => ?_) (fun hE => ?_)
              · exact hQ.out _ (by repeat (first | (with_reducible assumption) | (with_reducible exact Keeps.refl _ _) | (with_reducible refine Keeps.drewN ?_ _) | (with_reducible refine Keeps.drew ?_) | with_reducible refine Keeps.setCell ?_ (by first | (intro _; exact rfl) | (intro _; exact Or.inl rfl) | (intro _; exact Or.inr rfl) | (simp; done) | (simp; omega)) _ | (with_reducible refine Keeps.alloc ?_ _)))
              have hS := hE (by kernel_rfl)
              clear hK K hE
              try simp only [Act.put, List.setIfInBounds_toArray, List.set_cons_zero, List.set_cons_succ]
              refine wpAnyT_done (by kernel_rfl) ?_ _
              refine NoPanic.normal ?_
              have HKQ := Lib.hid hkQ
              clear hkq hkQ hS
              go_wp2_with fail
              go_meet
              exact ⟨rfl, rfl, HKQ.out⟩
            exact AllT.nil
          exact AllT.nil
        exact AllT.nil
      case rest =>
        obtain ⟨rfl, rfl, hk⟩ := hcut
        have hsz := hk.size
        have HFi := Lib.hid (find_any l name1 vl F wc (HVl.out.keeps hk (fun _ _ h => h)) (fun b hb => by have := HF.out b hb; omega))
        have HKc := Lib.hid hk
        have hhl := HB8.out
        clear hk HC hQ
        go_wp2_with fail
        with_reducible refine HFi.out.mono ?_
        rintro e w6 ⟨hk6, (⟨c3, A3, q3, A4, n4, q4, hfc, rfl, hS3⟩ | ⟨hfc, rfl⟩)⟩
        · have hcc : c3 = cc := by
            have := hfc.symm.trans HFc.out
            simpa using this
          subst hcc
          obtain ⟨b14, hb14⟩ : ∃ b14, w6.heap.size = b14 := ⟨_, rfl⟩
          obtain ⟨W6, hW6⟩ : ∃ W6, w6.alloc (.cells #[.string c3.name, .slice A3 c3.super.length q3, .slice A4 n4 q4] 42) = W6 := ⟨_, rfl⟩
          have hk7 : Keeps (fun _ => False) w6 W6 := by rw [← hW6]; exact (Keeps.refl _ _).alloc _
          have hB14 : Blk W6 b14 42 [.string c3.name, .slice A3 c3.super.length q3, .slice A4 n4 q4] := by rw [← hW6, ← hb14]; exact Blk.new w6 _ [_, _, _]
          have hkw := (HKc.out.trans hk6 (fun _ _ h => h)).trans hk7 (fun _ _ h => h)
          obtain ⟨g3, off3, hadr, _, d0, _⟩ := dStr.get (hS3.keeps hk7 (fun _ _ h => h)) hlt
          obtain rfl := hadr
          rw [HNm.out] at d0
          have p1 := (HB8.out.keeps hkw (fun h => h)).cell (i := 1) rfl
          have a1 := hB14.cell (i := 1) rfl
          have hml : ¬ (c3.super.length : Int) ≤ (m : Int) := by omega
          have hml2 : (m : Int) < (c3.super.length : Int) := by omega
          have HKw := Lib.hid hkw
          have HW6 := Lib.hid hW6
          have HBn6 := Lib.hid hb14
          clear hk6 hk7 hkw hfc hS3 hB14 hW6 hb14 hhl
          go_upto_region 6 with (fail)
          rw [HW6.out, HBn6.out]
          go_wp2_with fail
          go_ret2
          exact ⟨rfl, HK0.out.trans HKw.out (fun _ _ h => h)⟩
        · rw [HFc.out] at hfc
          cases hfc
    · by_cases h3 : k = 2 ∧ 0 ≤ n ∧ n < (s.length : Int)
      case neg =>
        have hr := HR.out
        rw [if_neg h1, if_neg h2, if_neg h3] at hr
        cases hr
      have hr := HR.out
      rw [if_neg h1, if_neg h2, if_pos h3] at hr
      obtain ⟨rfl, hn0, hn1⟩ := h3
      obtain ⟨m, rfl⟩ : ∃ m : Nat, (m : Int) = n := ⟨n.toNat, by omega⟩
      have hlt : m < s.length := by omega
      have hx : s[((m : Int)).toNat]? = some s[m] := by simp [hlt]
      rw [hx] at hr
      dsimp only at hr
      obtain ⟨g, off, v1, v2, hadr, hg, c0, c1, c2, c3, c4, c5, hcs, hTh, hPs⟩ := InstSig.get HVi.out hlt
      obtain rfl := hadr
      obtain ⟨x, hxe⟩ : ∃ x, s[m] = x := ⟨_, rfl⟩
      rw [hxe] at hr c0 hcs
      cases hin : instanceP ⟨x.cls, t⟩ 0 s with
      | none => rw [hin] at hr; cases hr
      | some y =>
      obtain ⟨i, needs⟩ := y
      rw [hin] at hr
      dsimp only at hr
      by_cases hc3 : (i : Int) = (m : Int) ∧ needs.length = L ∧ provesAll l s hs subs needs = true
      case neg => rw [if_neg hc3] at hr; cases hr
      rw [if_pos hc3] at hr
      simp only [Option.some.injEq] at hr
      obtain ⟨him, hnl, hall⟩ := hc3
      have him : i = m := by omega
      subst him
      have hnL : needs.length = L := hnl
      have hnm : ∀ n ∈ needs, n.ty.Wf ∧ nodes n.ty ≤ 4096 := by
        obtain ⟨x', _, _, hnx, _, _⟩ := instanceP_some hin
        intro n hn
        rw [hnx] at hn
        have h1 := (needs_mem hn).1
        have h5 := nodes_arg h1
        have h6 : nodes (⟨x.cls, t⟩ : Pred).ty ≤ 4096 := HNd.out
        exact ⟨HWf.out.arg h1, by omega⟩
      have HIn : Hid (∀ X, Keeps (fun _ => False) W0 X → Calls Tryd.prog 34 #[.slice (some ⟨g, off, none⟩) s.length ci, .agg #[.string x.cls, .int .i64 t.kind, .string t.name, .int .i64 t.var, .slice At t.args.length ct]] X (fun e w' => Keeps (fun _ => False) X w' ∧ ∃ An cn, e = .returned (.tuple #[.int .i64 (i : Int), .slice An L cn, .bool true]) ∧ Sl w' (fun b => b < w'.heap.size) Pred.d needs (.slice An L cn))) := fun X hk => by
        have hsz := hk.size
        refine (instance_any s HE.out.inst ⟨x.cls, t⟩ _ F Gt X At ct (HVi.out.keeps hk (fun _ _ h => h)) (fun b hb => by have := HF.out b hb; omega) (HT.out.keeps hk (fun _ _ h => h)) (fun b hb => by have := HGt.out b hb; omega)).mono ?_
        rintro e w' ⟨hk2, (⟨ii, nd, An, cn, h4, he, hSn⟩ | ⟨h4, _⟩)⟩
        · rw [hin] at h4
          simp only [Option.some.injEq, Prod.mk.injEq] at h4
          obtain ⟨rfl, rfl⟩ := h4
          rw [hnL] at he hSn
          exact ⟨hk2, An, cn, he, hSn.mono (fun b hb => hb.2)⟩
        · rw [hin] at h4; cases h4
      have hQ : Hid (∀ X, Keeps (fun _ => False) W0 X → (X.cell? ⟨b8, 1, none⟩ = some (.int .i64 (i : Int)) ∧ X.cell? ⟨g, off + i * 6, none⟩ = some (.string x.cls) ∧ X.cell? ⟨b8 + 1, 0, none⟩ = some (.int .i64 t.kind) ∧ X.cell? ⟨b8 + 1, 1, none⟩ = some (.string t.name) ∧ X.cell? ⟨b8 + 1, 2, none⟩ = some (.int .i64 t.var) ∧ X.cell? ⟨b8 + 1, 3, none⟩ = some (.slice At t.args.length ct))) := fun X hk => by
        have hx := HB8.out.keeps hk (fun h => h)
        have hy := HB9.out.keeps hk (fun h => h)
        exact ⟨hx.cell (i := 1) rfl, hk.cell c0 (fun h => h), hy.cell (i := 0) rfl, hy.cell (i := 1) rfl, hy.cell (i := 2) rfl, hy.cell (i := 3) rfl⟩
      have HNL := Lib.hid hnL
      have HAll := Lib.hid hall
      have HNM := Lib.hid hnm
      have HC0 := Lib.hid c0
      have hxn : x.cls = name := hr
      subst hxn
      clear hin hr hnL hall hnm hxe hcs hTh hPs hx hnl him h1 h2 c0 c1 c2 c3 c4 c5
      go_enter Tryd.func23, Tryd.ntmps23
      go_upto_region 1 with (fail)
      rw [HW0.out, HBn.out]
      go_upto_region 10 with (fail)
      clear p0 p1 p2 t0 t1 t2 t3
      go_cut [16, 17, 18] (fun v16 v17 v18 wd => v16 = .int .i64 (i : Int) ∧ v18 = .bool true ∧ ∃ An cn, v17 = .slice An L cn ∧ Keeps (fun _ => False) W0 wd ∧ Sl wd (fun b => b < wd.heap.size) Pred.d needs (.slice An L cn))
      case first =>
        refine wp_region_noPanic ?_
        refine wp_region_till [] (fun X => X.cell? ⟨b8, 1, none⟩ = some (.int .i64 (i : Int)) ∧ X.cell? ⟨g, off + i * 6, none⟩ = some (.string x.cls) ∧ X.cell? ⟨b8 + 1, 0, none⟩ = some (.int .i64 t.kind) ∧ X.cell? ⟨b8 + 1, 1, none⟩ = some (.string t.name) ∧ X.cell? ⟨b8 + 1, 2, none⟩ = some (.int .i64 t.var) ∧ X.cell? ⟨b8 + 1, 3, none⟩ = some (.slice At t.args.length ct)) (by kernel_rfl) ?_ (fun hE => ?_)
        · exact hQ.out _ (by repeat (first | (with_reducible assumption) | (with_reducible exact Keeps.refl _ _) | (with_reducible refine Keeps.drewN ?_ _) | (with_reducible refine Keeps.drew ?_) | with_reducible refine Keeps.setCell ?_ (by first | (intro _; exact rfl) | (intro _; exact Or.inl rfl) | (intro _; exact Or.inr rfl) | (simp; done) | (simp; omega)) _ | (with_reducible refine Keeps.alloc ?_ _)))
        have hS := hE (by kernel_rfl)
        refine wpAnyT_pure (i := 0) (oi := { dst := some 129, op := Op.move (Operand.tmp 1), type := 45, pos := "classes.go:207", after := #[], guard := none }) (v := ?v10_0_1) rfl (by kernel_rfl) (fun _ _ _ h => h) (Or.inl ⟨by rfl, ?y10_0_1⟩) (fun _ => hS) ?_
        case y10_0_1 => (intro w hSw; go_simp; try with_reducible rfl)
        try simp only [Act.put, List.setIfInBounds_toArray, List.set_cons_zero, List.set_cons_succ]
        refine wpAnyT_pure (i := 1) (oi := { dst := some 130, op := Op.move (Operand.tmp 1), type := 45, pos := "classes.go:207", after := #[], guard := none }) (v := ?v10_1_2) rfl (by kernel_rfl) (fun _ _ _ h => h) (Or.inl ⟨by rfl, ?y10_1_2⟩) (fun _ => hS) ?_
        case y10_1_2 => (intro w hSw; go_simp; try with_reducible rfl)
        try simp only [Act.put, List.setIfInBounds_toArray, List.set_cons_zero, List.set_cons_succ]
        refine wpAnyT_pure (i := 2) (oi := { dst := some 131, op := Op.fieldAddr 27 (Operand.tmp 8) 1, type := 0, pos := "classes.go:207", after := #[], guard := none }) (v := ?v10_2_3) rfl (by kernel_rfl) (fun _ _ _ h => h) (Or.inl ⟨by rfl, ?y10_2_3⟩) (fun _ => hS) ?_
        case y10_2_3 => (intro w hSw; go_simp; try with_reducible rfl)
        try simp only [Act.put, List.setIfInBounds_toArray, List.set_cons_zero, List.set_cons_succ]
        refine wpAnyT_take (i := 3) (oi := { dst := some 132, op := Op.load 3 (Operand.tmp 131), type := 3, pos := "classes.go:207", after := #[⟨2, .data⟩], guard := none }) (v := ?v10_3_4) rfl (by kernel_rfl) (fun _ _ _ h => h) (Or.inl ⟨by rfl, ?y10_3_4⟩) hS ?_
        case y10_3_4 => (intro w hSw; (try dsimp only at hSw); go_simp; try with_reducible rfl)
        try simp only [Act.put, List.setIfInBounds_toArray, List.set_cons_zero, List.set_cons_succ]
        refine wpAnyT_pure (i := 4) (oi := { dst := some 133, op := Op.indexAddr 45 (Operand.tmp 130) (Operand.tmp 132), type := 0, pos := "classes.go:207", after := #[⟨1, .data⟩, ⟨3, .data⟩], guard := none }) (v := ?v10_4_5) rfl (by kernel_rfl) (fun _ _ _ h => h) (Or.inl ⟨by rfl, ?y10_4_5⟩) (fun _ => hS) ?_
        case y10_4_5 => (intro w hSw; go_simp; try with_reducible rfl)
        try simp only [Act.put, List.setIfInBounds_toArray, List.set_cons_zero, List.set_cons_succ]
        refine wpAnyT_pure (i := 5) (oi := { dst := some 134, op := Op.fieldAddr 71 (Operand.tmp 133) 0, type := 0, pos := "classes.go:207", after := #[⟨4, .data⟩], guard := none }) (v := ?v10_5_6) rfl (by kernel_rfl) (fun _ _ _ h => h) (Or.inl ⟨by rfl, ?y10_5_6⟩) (fun _ => hS) ?_
        case y10_5_6 => (intro w hSw; go_simp; try with_reducible rfl)
        try simp only [Act.put, List.setIfInBounds_toArray, List.set_cons_zero, List.set_cons_succ]
        refine wpAnyT_take (i := 6) (oi := { dst := some 135, op := Op.load 9 (Operand.tmp 134), type := 9, pos := "classes.go:207", after := #[⟨5, .data⟩], guard := none }) (v := ?v10_6_7) rfl (by kernel_rfl) (fun _ _ _ h => h) (Or.inl ⟨by rfl, ?y10_6_7⟩) hS ?_
        case y10_6_7 => (intro w hSw; (try dsimp only at hSw); go_simp; try with_reducible rfl)
        try simp only [Act.put, List.setIfInBounds_toArray, List.set_cons_zero, List.set_cons_succ]
        refine wpAnyT_take (i := 7) (oi := { dst := some 136, op := Op.load 24 (Operand.tmp 9), type := 24, pos := "classes.go:207", after := #[], guard := none }) (v := ?v10_7_8) rfl (by kernel_rfl) (fun _ _ _ h => h) (Or.inl ⟨by rfl, ?y10_7_8⟩) hS ?_
        case y10_7_8 => (intro w hSw; (try dsimp only at hSw); go_simp; try with_reducible rfl)
        try simp only [Act.put, List.setIfInBounds_toArray, List.set_cons_zero, List.set_cons_succ]
        refine wpAnyT_pure (i := 8) (oi := { dst := some 137, op := Op.build 35 #[(0, Operand.tmp 135), (1, Operand.tmp 136)], type := 35, pos := "classes.go:207", after := #[⟨6, .data⟩, ⟨7, .data⟩], guard := none }) (v := ?v10_8_9) rfl (by kernel_rfl) (fun _ _ _ h => h) (Or.inl ⟨by rfl, ?y10_8_9⟩) (fun _ => hS) ?_
        case y10_8_9 => (intro w hSw; go_simp; try with_reducible rfl)
        try simp only [Act.put, List.setIfInBounds_toArray, List.set_cons_zero, List.set_cons_succ]
        refine wpAnyT_ready (rs := [9]) (by kernel_rfl) rfl ?_
        refine AllT.cons (o := { dst := some 138, op := Op.call { callee := Callee.value (Operand.func 34), args := #[Operand.tmp 129, Operand.tmp 137], argTypes := #[45, 35] }, type := 82, pos := "classes.go:207", after := #[⟨0, .data⟩, ⟨8, .data⟩], guard := none }) rfl (fun K hK => ?_) ?_
        · (go_simp; go_at_call 34; with_reducible refine (HIn.out _ (by repeat (first | (with_reducible assumption) | (with_reducible exact Keeps.refl _ _) | (with_reducible refine Keeps.drewN ?_ _) | (with_reducible refine Keeps.drew ?_) | with_reducible refine Keeps.setCell ?_ (by first | (intro _; exact rfl) | (intro _; exact Or.inl rfl) | (intro _; exact Or.inr rfl) | (simp; done) | (simp; omega)) _ | (with_reducible refine Keeps.alloc ?_ _)))).mono ?_; rintro e wq ⟨hkq, An, cn, rfl, hsn⟩; go_wp2_with fail; have hkQ := Keeps.trans (show Keeps (fun _ => False) W0 _ from (by repeat (first | (with_reducible assumption) | (with_reducible exact Keeps.refl _ _) | (with_reducible refine Keeps.drewN ?_ _) | (with_reducible refine Keeps.drew ?_) | with_reducible refine Keeps.setCell ?_ (by first | (intro _; exact rfl) | (intro _; exact Or.inl rfl) | (intro _; exact Or.inr rfl) | (simp; done) | (simp; omega)) _ | (with_reducible refine Keeps.alloc ?_ _)))) hkq (fun _ _ h => h))
          refine hK.out _ _ (fun _ => ?_) (fun hE => ?_)
          · exact hQ.out _ (by repeat (first | (with_reducible assumption) | (with_reducible exact Keeps.refl _ _) | (with_reducible refine Keeps.drewN ?_ _) | (with_reducible refine Keeps.drew ?_) | with_reducible refine Keeps.setCell ?_ (by first | (intro _; exact rfl) | (intro _; exact Or.inl rfl) | (intro _; exact Or.inr rfl) | (simp; done) | (simp; omega)) _ | (with_reducible refine Keeps.alloc ?_ _)))
          have hS := hE (by kernel_rfl)
          clear hK K hE
          try simp only [Act.put, List.setIfInBounds_toArray, List.set_cons_zero, List.set_cons_succ]
          refine wpAnyT_pure (i := 10) (oi := { dst := some 128, op := Op.move (Operand.tmp 138), type := 82, pos := "classes.go:207", after := #[⟨9, .data⟩], guard := none }) (v := ?v10_10_10) rfl (by kernel_rfl) (fun _ _ _ h => h) (Or.inl ⟨by rfl, ?y10_10_10⟩) (fun _ => hS) ?_
          case y10_10_10 => (intro w hSw; go_simp; try with_reducible rfl)
          try simp only [Act.put, List.setIfInBounds_toArray, List.set_cons_zero, List.set_cons_succ]
          refine wpAnyT_pure (i := 11) (oi := { dst := some 139, op := Op.extract (Operand.tmp 128) 0, type := 3, pos := "classes.go:207", after := #[⟨10, .data⟩], guard := none }) (v := ?v10_11_11) rfl (by kernel_rfl) (fun _ _ _ h => h) (Or.inl ⟨by rfl, ?y10_11_11⟩) (fun _ => hS) ?_
          case y10_11_11 => (intro w hSw; go_simp; try with_reducible rfl)
          try simp only [Act.put, List.setIfInBounds_toArray, List.set_cons_zero, List.set_cons_succ]
          refine wpAnyT_pure (i := 12) (oi := { dst := some 140, op := Op.extract (Operand.tmp 128) 1, type := 36, pos := "classes.go:207", after := #[⟨10, .data⟩, ⟨14, .gcOnly .lateStores⟩], guard := none }) (v := ?v10_12_12) rfl (by kernel_rfl) (fun _ _ _ h => h) (Or.inl ⟨by rfl, ?y10_12_12⟩) (fun _ => hS) ?_
          case y10_12_12 => (intro w hSw; go_simp; try with_reducible rfl)
          try simp only [Act.put, List.setIfInBounds_toArray, List.set_cons_zero, List.set_cons_succ]
          refine wpAnyT_pure (i := 13) (oi := { dst := some 141, op := Op.extract (Operand.tmp 128) 2, type := 4, pos := "classes.go:207", after := #[⟨10, .data⟩, ⟨15, .gcOnly .lateStores⟩], guard := none }) (v := ?v10_13_13) rfl (by kernel_rfl) (fun _ _ _ h => h) (Or.inl ⟨by rfl, ?y10_13_13⟩) (fun _ => hS) ?_
          case y10_13_13 => (intro w hSw; go_simp; try with_reducible rfl)
          try simp only [Act.put, List.setIfInBounds_toArray, List.set_cons_zero, List.set_cons_succ]
          refine wpAnyT_ready (rs := [14]) (by kernel_rfl) rfl ?_
          refine AllT.cons (o := { dst := some 16, op := Op.assign (Operand.tmp 139), type := 3, pos := "classes.go:207", after := #[⟨11, .data⟩, ⟨9, .chain⟩, ⟨0, .phase⟩, ⟨1, .phase⟩, ⟨2, .phase⟩, ⟨3, .phase⟩, ⟨4, .phase⟩, ⟨5, .phase⟩, ⟨6, .phase⟩, ⟨7, .phase⟩, ⟨8, .phase⟩, ⟨9, .phase⟩, ⟨10, .phase⟩, ⟨11, .phase⟩, ⟨12, .textOnly .lateStores⟩, ⟨13, .textOnly .lateStores⟩], guard := none }) rfl (fun K hK => ?_) ?_
          · go_simp
            refine hK.out _ _ (fun _ => ?_) (fun hE => ?_)
            · exact hQ.out _ (by repeat (first | (with_reducible assumption) | (with_reducible exact Keeps.refl _ _) | (with_reducible refine Keeps.drewN ?_ _) | (with_reducible refine Keeps.drew ?_) | with_reducible refine Keeps.setCell ?_ (by first | (intro _; exact rfl) | (intro _; exact Or.inl rfl) | (intro _; exact Or.inr rfl) | (simp; done) | (simp; omega)) _ | (with_reducible refine Keeps.alloc ?_ _)))
            have hS := hE (by kernel_rfl)
            clear hK K hE
            try simp only [Act.put, List.setIfInBounds_toArray, List.set_cons_zero, List.set_cons_succ]
            refine wpAnyT_ready (rs := [15]) (by kernel_rfl) rfl ?_
            refine AllT.cons (o := { dst := some 17, op := Op.assign (Operand.tmp 140), type := 36, pos := "classes.go:207", after := #[⟨12, .data⟩, ⟨14, .chain⟩, ⟨0, .phase⟩, ⟨1, .phase⟩, ⟨2, .phase⟩, ⟨3, .phase⟩, ⟨4, .phase⟩, ⟨5, .phase⟩, ⟨6, .phase⟩, ⟨7, .phase⟩, ⟨8, .phase⟩, ⟨9, .phase⟩, ⟨10, .phase⟩, ⟨11, .phase⟩, ⟨12, .phase⟩, ⟨13, .textOnly .lateStores⟩, ⟨14, .phase⟩], guard := none }) rfl (fun K hK => ?_) ?_
            · go_simp
              refine hK.out _ _ (fun _ => ?_) (fun hE => ?_)
              · exact hQ.out _ (by repeat (first | (with_reducible assumption) | (with_reducible exact Keeps.refl _ _) | (with_reducible refine Keeps.drewN ?_ _) | (with_reducible refine Keeps.drew ?_) | with_reducible refine Keeps.setCell ?_ (by first | (intro _; exact rfl) | (intro _; exact Or.inl rfl) | (intro _; exact Or.inr rfl) | (simp; done) | (simp; omega)) _ | (with_reducible refine Keeps.alloc ?_ _)))
              have hS := hE (by kernel_rfl)
              clear hK K hE
              try simp only [Act.put, List.setIfInBounds_toArray, List.set_cons_zero, List.set_cons_succ]
              refine wpAnyT_ready (rs := [16]) (by kernel_rfl) rfl ?_
              refine AllT.cons (o := { dst := some 18, op := Op.assign (Operand.tmp 141), type := 4, pos := "classes.go:207", after := #[⟨13, .data⟩, ⟨15, .chain⟩, ⟨0, .phase⟩, ⟨1, .phase⟩, ⟨2, .phase⟩, ⟨3, .phase⟩, ⟨4, .phase⟩, ⟨5, .phase⟩, ⟨6, .phase⟩, ⟨7, .phase⟩, ⟨8, .phase⟩, ⟨9, .phase⟩, ⟨10, .phase⟩, ⟨11, .phase⟩, ⟨12, .phase⟩, ⟨13, .phase⟩, ⟨14, .phase⟩, ⟨15, .phase⟩], guard := none }) rfl (fun K hK => ?_) ?_
              · go_simp
                refine hK.out _ _ (fun _ => ?_) (fun hE => ?_)
                · exact hQ.out _ (by repeat (first | (with_reducible assumption) | (with_reducible exact Keeps.refl _ _) | (with_reducible refine Keeps.drewN ?_ _) | (with_reducible refine Keeps.drew ?_) | with_reducible refine Keeps.setCell ?_ (by first | (intro _; exact rfl) | (intro _; exact Or.inl rfl) | (intro _; exact Or.inr rfl) | (simp; done) | (simp; omega)) _ | (with_reducible refine Keeps.alloc ?_ _)))
                have hS := hE (by kernel_rfl)
                clear hK K hE
                try simp only [Act.put, List.setIfInBounds_toArray, List.set_cons_zero, List.set_cons_succ]
                refine wpAnyT_done (by kernel_rfl) ?_ _
                refine NoPanic.normal ?_
                have HKQ := Lib.hid hkQ
                have HSN := Lib.hid hsn
                clear hkq hkQ hsn hS
                go_wp2_with fail
                go_meet
                exact ⟨rfl, rfl, An, cn, rfl, HKQ.out, HSN.out⟩
              exact AllT.nil
            exact AllT.nil
          exact AllT.nil
        exact AllT.nil
      case rest =>
        obtain ⟨rfl, rfl, An, cn, rfl, hk, hSn⟩ := hcut
        have hlt' : i < s.length := hlt
        have hb8c := HB8.out.keeps hk (fun h => h)
        have p1 := hb8c.cell (i := 1) rfl
        have p2 := hb8c.cell (i := 2) rfl
        have hl8c := hb8c.lt
        have hLm : (L : Int) ≤ 9223372036854775807 := by
          obtain ⟨_, _, _, h5, h6, _⟩ := hSn.form
          have h7 := HNL.out
          unfold maxLen at h6
          omega
        have HKc := Lib.hid hk
        have HSN := Lib.hid hSn
        have HB8c := Lib.hid hb8c
        clear hk hSn hQ HIn hb8c
        go_wp2_with fail
        clear p1 p2
        go_loopw [160] (fun i wr => ∃ j : Nat, j ≤ L ∧ .int .i64 (j : Int) = i ∧ Keeps (fun _ => False) wc wr) (fun i _ => L - (intOf i).toNat)
        case atStart => exact ⟨0, Nat.zero_le _, rfl, Keeps.refl _ _⟩
        case round =>
          obtain ⟨j, hj, rfl, hkr⟩ := hrel
          obtain ⟨wy, hwy⟩ : ∃ wy, wy = wr := ⟨_, rfl⟩
          rw [← hwy] at hkr ⊢
          clear hwy
          have hb8y := HB8c.out.keeps hkr (fun h => h)
          by_cases hjt : j < L
          · have hjn : j < needs.length := by have := HNL.out; omega
            have hjs : j < subs.length := by have := HLq.out; omega
            obtain ⟨gn, offn, vn, hadr, hgn, n0, n1, n2, n3, n4, hncs, hTn⟩ := Pred.get (HSN.out.keeps hkr (fun _ _ h => h)) hjn
            obtain rfl := hadr
            obtain ⟨A1, q1, rfl, _⟩ := hTn.form
            obtain ⟨gs, offs, vs, hadr, hgs, e0, e1, e2, hPs⟩ := pfD.get (HSb.out.keeps (HKc.out.trans hkr (fun _ _ h => h)) (fun _ _ h => h)) hjs
            obtain rfl := hadr
            obtain ⟨As, qs, rfl, _⟩ := hPs.form
            have hpj := provesAll_get subs needs HAll.out j hjs hjn
            have hnj := HNM.out _ (List.getElem_mem hjn)
            have hmem : subs[j] ∈ subs := List.getElem_mem hjs
            obtain ⟨nj, hnje⟩ : ∃ nj, needs[j] = nj := ⟨_, rfl⟩
            obtain ⟨sj, hsje⟩ : ∃ sj, subs[j] = sj := ⟨_, rfl⟩
            rw [hnje] at n0 n1 n2 n3 n4 hncs hTn hpj hnj
            rw [hsje] at e0 e1 e2 hPs hpj hmem
            obtain ⟨b20, hb20⟩ : ∃ b20, wy.heap.size = b20 := ⟨_, rfl⟩
            obtain ⟨W20, hW20⟩ : ∃ W20, wy.alloc (.cells #[.string nj.cls, .int .i64 nj.ty.kind, .string nj.ty.name, .int .i64 nj.ty.var, .slice A1 nj.ty.args.length q1] 35) = W20 := ⟨_, rfl⟩
            have hk20 : Keeps (fun _ => False) wy W20 := by rw [← hW20]; exact (Keeps.refl _ _).alloc _
            have hB20 : Blk W20 b20 35 [.string nj.cls, .int .i64 nj.ty.kind, .string nj.ty.name, .int .i64 nj.ty.var, .slice A1 nj.ty.args.length q1] := by rw [← hW20, ← hb20]; exact Blk.new wy _ [_, _, _, _, _]
            have hk0c := (HKc.out.trans hkr (fun _ _ h => h)).trans hk20 (fun _ _ h => h)
            have hszy := hkr.size
            have hsz20 := hk20.size
            have hsz0 := hk0c.size
            have HC : Hid (∀ X, Keeps (fun _ => False) W20 X → Calls Tryd.prog 23 #[vl, .slice (some ⟨g, off, none⟩) s.length ci, .slice Ah hs.length ch, .agg #[.int .i64 sj.kind, .int .i64 sj.num, .slice As sj.subs.length qs], .agg #[.int .i64 nj.ty.kind, .string nj.ty.name, .int .i64 nj.ty.var, .slice A1 nj.ty.args.length q1]] X (fun e w' => e = .returned (.tuple #[.string nj.cls, .bool true]) ∧ Keeps (fun _ => False) X w')) := fun X hk => by
              have hsz := hk.size
              have hk0x := hk0c.trans hk (fun _ _ h => h)
              exact HIH.out sj hmem X F G (fun b => b < wc.heap.size) vl _ _ As qs nj.ty A1 q1 nj.cls (HVl.out.keeps hk0x (fun _ _ h => h)) (HVi.out.keeps hk0x (fun _ _ h => h)) (HVh.out.keeps hk0x (fun _ _ h => h)) (fun b hb => by have := HF.out b hb; omega) ((hPs.keeps hk20 (fun _ _ h => h)).keeps hk (fun _ _ h => h)) (fun b hb => by have := HG.out b hb; omega) ((hTn.keeps hk20 (fun _ _ h => h)).keeps hk (fun _ _ h => h)) (fun b hb => by omega) hnj.1 hnj.2 hpj
            have hbz := hb8y.keeps hk20 (fun h => h)
            have hQ : Hid (∀ X, Keeps (fun _ => False) W20 X → (X.cell? ⟨b8, 2, none⟩ = some (.slice (some ⟨gs, offs, none⟩) L c) ∧ X.cell? ⟨gs, offs + j * 3, none⟩ = some (.int .i64 sj.kind) ∧ X.cell? ⟨gs, offs + j * 3 + 1, none⟩ = some (.int .i64 sj.num) ∧ X.cell? ⟨gs, offs + j * 3 + 2, none⟩ = some (.slice As sj.subs.length qs) ∧ X.cell? ⟨b20, 1, none⟩ = some (.int .i64 nj.ty.kind) ∧ X.cell? ⟨b20, 2, none⟩ = some (.string nj.ty.name) ∧ X.cell? ⟨b20, 3, none⟩ = some (.int .i64 nj.ty.var) ∧ X.cell? ⟨b20, 4, none⟩ = some (.slice A1 nj.ty.args.length q1))) := fun X hk => by
              have hx := hbz.keeps hk (fun h => h)
              have hy := hB20.keeps hk (fun h => h)
              have h20 := hk20.trans hk (fun _ _ h => h)
              exact ⟨hx.cell (i := 2) rfl, h20.cell e0 (fun h => h), h20.cell e1 (fun h => h), h20.cell e2 (fun h => h), hy.cell (i := 1) rfl, hy.cell (i := 2) rfl, hy.cell (i := 3) rfl, hy.cell (i := 4) rfl⟩
            have hjl : (j : Int) < (L : Int) := by omega
            have hj0 : (0 : Int) ≤ (j : Int) := by omega
            have HKr := Lib.hid hkr
            have HK20 := Lib.hid hk20
            have HB20 := Lib.hid hB20
            have HW20 := Lib.hid hW20
            have HBn20 := Lib.hid hb20
            have hl20 := hB20.lt
            clear hkr hk20 hB20 hW20 hb20 hnje hsje hmem hnj hpj hPs hTn hncs hk0c hbz hb8y hszy hsz20 hsz0 e0 e1 e2
            go_upto_region 16 with (fail)
            rw [HW20.out, HBn20.out]
            clear n0 n1 n2 n3 n4
            go_cut [21, 22] from 165 to 178 (fun v21 v22 wd => v21 = .string nj.cls ∧ v22 = .bool true ∧ Keeps (fun _ => False) W20 wd)
            case first =>
              refine wp_region_noPanic ?_
              refine wp_region_till [] (fun X => X.cell? ⟨b8, 2, none⟩ = some (.slice (some ⟨gs, offs, none⟩) L c) ∧ X.cell? ⟨gs, offs + j * 3, none⟩ = some (.int .i64 sj.kind) ∧ X.cell? ⟨gs, offs + j * 3 + 1, none⟩ = some (.int .i64 sj.num) ∧ X.cell? ⟨gs, offs + j * 3 + 2, none⟩ = some (.slice As sj.subs.length qs) ∧ X.cell? ⟨b20, 1, none⟩ = some (.int .i64 nj.ty.kind) ∧ X.cell? ⟨b20, 2, none⟩ = some (.string nj.ty.name) ∧ X.cell? ⟨b20, 3, none⟩ = some (.int .i64 nj.ty.var) ∧ X.cell? ⟨b20, 4, none⟩ = some (.slice A1 nj.ty.args.length q1)) (by kernel_rfl) ?_ (fun hE => ?_)
              · exact hQ.out _ (by repeat (first | (with_reducible assumption) | (with_reducible exact Keeps.refl _ _) | (with_reducible refine Keeps.drewN ?_ _) | (with_reducible refine Keeps.drew ?_) | with_reducible refine Keeps.setCell ?_ (by first | (intro _; exact rfl) | (intro _; exact Or.inl rfl) | (intro _; exact Or.inr rfl) | (simp; done) | (simp; omega)) _ | (with_reducible refine Keeps.alloc ?_ _)))
              have hS := hE (by kernel_rfl)
              refine wpAnyT_pure (i := 0) (oi := { dst := some 166, op := Op.move (Operand.tmp 0), type := 31, pos := "classes.go:212", after := #[], guard := none }) (v := ?v16_0_1) rfl (by kernel_rfl) (fun _ _ _ h => h) (Or.inl ⟨by rfl, ?y16_0_1⟩) (fun _ => hS) ?_
              case y16_0_1 => (intro w hSw; go_simp; try with_reducible rfl)
              try simp only [Act.put, List.setIfInBounds_toArray, List.set_cons_zero, List.set_cons_succ]
              refine wpAnyT_pure (i := 1) (oi := { dst := some 167, op := Op.move (Operand.tmp 1), type := 45, pos := "classes.go:212", after := #[], guard := none }) (v := ?v16_1_2) rfl (by kernel_rfl) (fun _ _ _ h => h) (Or.inl ⟨by rfl, ?y16_1_2⟩) (fun _ => hS) ?_
              case y16_1_2 => (intro w hSw; go_simp; try with_reducible rfl)
              try simp only [Act.put, List.setIfInBounds_toArray, List.set_cons_zero, List.set_cons_succ]
              refine wpAnyT_pure (i := 2) (oi := { dst := some 168, op := Op.move (Operand.tmp 2), type := 36, pos := "classes.go:212", after := #[], guard := none }) (v := ?v16_2_3) rfl (by kernel_rfl) (fun _ _ _ h => h) (Or.inl ⟨by rfl, ?y16_2_3⟩) (fun _ => hS) ?_
              case y16_2_3 => (intro w hSw; go_simp; try with_reducible rfl)
              try simp only [Act.put, List.setIfInBounds_toArray, List.set_cons_zero, List.set_cons_succ]
              refine wpAnyT_pure (i := 3) (oi := { dst := some 169, op := Op.fieldAddr 27 (Operand.tmp 8) 2, type := 0, pos := "classes.go:212", after := #[], guard := none }) (v := ?v16_3_4) rfl (by kernel_rfl) (fun _ _ _ h => h) (Or.inl ⟨by rfl, ?y16_3_4⟩) (fun _ => hS) ?_
              case y16_3_4 => (intro w hSw; go_simp; try with_reducible rfl)
              try simp only [Act.put, List.setIfInBounds_toArray, List.set_cons_zero, List.set_cons_succ]
              refine wpAnyT_take (i := 4) (oi := { dst := some 170, op := Op.load 25 (Operand.tmp 169), type := 25, pos := "classes.go:212", after := #[⟨3, .data⟩], guard := none }) (v := ?v16_4_5) rfl (by kernel_rfl) (fun _ _ _ h => h) (Or.inl ⟨by rfl, ?y16_4_5⟩) hS ?_
              case y16_4_5 => (intro w hSw; (try dsimp only at hSw); go_simp; try with_reducible rfl)
              try simp only [Act.put, List.setIfInBounds_toArray, List.set_cons_zero, List.set_cons_succ]
              refine wpAnyT_pure (i := 5) (oi := { dst := some 171, op := Op.move (Operand.tmp 19), type := 3, pos := "classes.go:212", after := #[], guard := none }) (v := ?v16_5_6) rfl (by kernel_rfl) (fun _ _ _ h => h) (Or.inl ⟨by rfl, ?y16_5_6⟩) (fun _ => hS) ?_
              case y16_5_6 => (intro w hSw; go_simp; try with_reducible rfl)
              try simp only [Act.put, List.setIfInBounds_toArray, List.set_cons_zero, List.set_cons_succ]
              refine wpAnyT_pure (i := 6) (oi := { dst := some 172, op := Op.indexAddr 25 (Operand.tmp 170) (Operand.tmp 171), type := 0, pos := "classes.go:212", after := #[⟨4, .data⟩, ⟨5, .data⟩], guard := none }) (v := ?v16_6_7) rfl (by kernel_rfl) (fun _ _ _ h => h) (Or.inl ⟨by rfl, ?y16_6_7⟩) (fun _ => hS) ?_
              case y16_6_7 => (intro w hSw; go_simp; try with_reducible rfl)
              try simp only [Act.put, List.setIfInBounds_toArray, List.set_cons_zero, List.set_cons_succ]
              refine wpAnyT_take (i := 7) (oi := { dst := some 173, op := Op.load 27 (Operand.tmp 172), type := 27, pos := "classes.go:212", after := #[⟨6, .data⟩], guard := none }) (v := ?v16_7_8) rfl (by kernel_rfl) (fun _ _ _ h => h) (Or.inl ⟨by rfl, ?y16_7_8⟩) hS ?_
              case y16_7_8 => (intro w hSw; (try dsimp only at hSw); go_simp; try with_reducible rfl)
              try simp only [Act.put, List.setIfInBounds_toArray, List.set_cons_zero, List.set_cons_succ]
              refine wpAnyT_pure (i := 8) (oi := { dst := some 174, op := Op.fieldAddr 35 (Operand.tmp 20) 1, type := 0, pos := "classes.go:212", after := #[], guard := none }) (v := ?v16_8_9) rfl (by kernel_rfl) (fun _ _ _ h => h) (Or.inl ⟨by rfl, ?y16_8_9⟩) (fun _ => hS) ?_
              case y16_8_9 => (intro w hSw; go_simp; try with_reducible rfl)
              try simp only [Act.put, List.setIfInBounds_toArray, List.set_cons_zero, List.set_cons_succ]
              refine wpAnyT_take (i := 9) (oi := { dst := some 175, op := Op.load 24 (Operand.tmp 174), type := 24, pos := "classes.go:212", after := #[⟨8, .data⟩], guard := none }) (v := ?v16_9_10) rfl (by kernel_rfl) (fun _ _ _ h => h) (Or.inl ⟨by rfl, ?y16_9_10⟩) hS ?_
              case y16_9_10 => (intro w hSw; (try dsimp only at hSw); go_simp; try with_reducible rfl)
              try simp only [Act.put, List.setIfInBounds_toArray, List.set_cons_zero, List.set_cons_succ]
              refine wpAnyT_ready (rs := [10]) (by kernel_rfl) rfl ?_
              refine AllT.cons (o := { dst := some 176, op := Op.call { callee := Callee.value (Operand.func 23), args := #[Operand.tmp 166, Operand.tmp 167, Operand.tmp 168, Operand.tmp 173, Operand.tmp 175], argTypes := #[31, 45, 36, 27, 24] }, type := 64, pos := "classes.go:212", after := #[⟨0, .data⟩, ⟨1, .data⟩, ⟨2, .data⟩, ⟨7, .data⟩, ⟨9, .data⟩], guard := none }) rfl (fun K hK => ?_) ?_
              · (go_simp; go_at_call 23; with_reducible refine (HC.out _ (by repeat (first | (with_reducible assumption) | (with_reducible exact Keeps.refl _ _) | (with_reducible refine Keeps.drewN ?_ _) | (with_reducible refine Keeps.drew ?_) | with_reducible refine Keeps.setCell ?_ (by first | (intro _; exact rfl) | (intro _; exact Or.inl rfl) | (intro _; exact Or.inr rfl) | (simp; done) | (simp; omega)) _ | (with_reducible refine Keeps.alloc ?_ _)))).mono ?_; rintro e wq ⟨rfl, hkq⟩; go_wp2_with fail; have hkQ := Keeps.trans (show Keeps (fun _ => False) W20 _ from (by repeat (first | (with_reducible assumption) | (with_reducible exact Keeps.refl _ _) | (with_reducible refine Keeps.drewN ?_ _) | (with_reducible refine Keeps.drew ?_) | with_reducible refine Keeps.setCell ?_ (by first | (intro _; exact rfl) | (intro _; exact Or.inl rfl) | (intro _; exact Or.inr rfl) | (simp; done) | (simp; omega)) _ | (with_reducible refine Keeps.alloc ?_ _)))) hkq (fun _ _ h => h))
                refine hK.out _ _ (fun _ => ?_) (fun hE => ?_)
                · exact hQ.out _ (by repeat (first | (with_reducible assumption) | (with_reducible exact Keeps.refl _ _) | (with_reducible refine Keeps.drewN ?_ _) | (with_reducible refine Keeps.drew ?_) | with_reducible refine Keeps.setCell ?_ (by first | (intro _; exact rfl) | (intro _; exact Or.inl rfl) | (intro _; exact Or.inr rfl) | (simp; done) | (simp; omega)) _ | (with_reducible refine Keeps.alloc ?_ _)))
                have hS := hE (by kernel_rfl)
                clear hK K hE
                try simp only [Act.put, List.setIfInBounds_toArray, List.set_cons_zero, List.set_cons_succ]
                refine wpAnyT_pure (i := 11) (oi := { dst := some 165, op := Op.move (Operand.tmp 176), type := 64, pos := "classes.go:212", after := #[⟨10, .data⟩], guard := none }) (v := ?v16_11_11) rfl (by kernel_rfl) (fun _ _ _ h => h) (Or.inl ⟨by rfl, ?y16_11_11⟩) (fun _ => hS) ?_
                case y16_11_11 => (intro w hSw; go_simp; try with_reducible rfl)
                try simp only [Act.put, List.setIfInBounds_toArray, List.set_cons_zero, List.set_cons_succ]
                refine wpAnyT_pure (i := 12) (oi := { dst := some 177, op := Op.extract (Operand.tmp 165) 0, type := 9, pos := "classes.go:212", after := #[⟨11, .data⟩], guard := none }) (v := ?v16_12_12) rfl (by kernel_rfl) (fun _ _ _ h => h) (Or.inl ⟨by rfl, ?y16_12_12⟩) (fun _ => hS) ?_
                case y16_12_12 => (intro w hSw; go_simp; try with_reducible rfl)
                try simp only [Act.put, List.setIfInBounds_toArray, List.set_cons_zero, List.set_cons_succ]
                refine wpAnyT_pure (i := 13) (oi := { dst := some 178, op := Op.extract (Operand.tmp 165) 1, type := 4, pos := "classes.go:212", after := #[⟨11, .data⟩, ⟨14, .gcOnly .lateStores⟩], guard := none }) (v := ?v16_13_13) rfl (by kernel_rfl) (fun _ _ _ h => h) (Or.inl ⟨by rfl, ?y16_13_13⟩) (fun _ => hS) ?_
                case y16_13_13 => (intro w hSw; go_simp; try with_reducible rfl)
                try simp only [Act.put, List.setIfInBounds_toArray, List.set_cons_zero, List.set_cons_succ]
                refine wpAnyT_ready (rs := [14]) (by kernel_rfl) rfl ?_
                refine AllT.cons (o := { dst := some 21, op := Op.assign (Operand.tmp 177), type := 9, pos := "classes.go:212", after := #[⟨12, .data⟩, ⟨10, .chain⟩, ⟨0, .phase⟩, ⟨1, .phase⟩, ⟨2, .phase⟩, ⟨3, .phase⟩, ⟨4, .phase⟩, ⟨5, .phase⟩, ⟨6, .phase⟩, ⟨7, .phase⟩, ⟨8, .phase⟩, ⟨9, .phase⟩, ⟨10, .phase⟩, ⟨11, .phase⟩, ⟨12, .phase⟩, ⟨13, .textOnly .lateStores⟩], guard := none }) rfl (fun K hK => ?_) ?_
                · go_simp
                  refine hK.out _ _ (fun _ => ?_) (fun hE => ?_)
                  · exact hQ.out _ (by repeat (first | (with_reducible assumption) | (with_reducible exact Keeps.refl _ _) | (with_reducible refine Keeps.drewN ?_ _) | (with_reducible refine Keeps.drew ?_) | with_reducible refine Keeps.setCell ?_ (by first | (intro _; exact rfl) | (intro _; exact Or.inl rfl) | (intro _; exact Or.inr rfl) | (simp; done) | (simp; omega)) _ | (with_reducible refine Keeps.alloc ?_ _)))
                  have hS := hE (by kernel_rfl)
                  clear hK K hE
                  try simp only [Act.put, List.setIfInBounds_toArray, List.set_cons_zero, List.set_cons_succ]
                  refine wpAnyT_ready (rs := [15]) (by kernel_rfl) rfl ?_
                  refine AllT.cons (o := { dst := some 22, op := Op.assign (Operand.tmp 178), type := 4, pos := "classes.go:212", after := #[⟨13, .data⟩, ⟨14, .chain⟩, ⟨0, .phase⟩, ⟨1, .phase⟩, ⟨2, .phase⟩, ⟨3, .phase⟩, ⟨4, .phase⟩, ⟨5, .phase⟩, ⟨6, .phase⟩, ⟨7, .phase⟩, ⟨8, .phase⟩, ⟨9, .phase⟩, ⟨10, .phase⟩, ⟨11, .phase⟩, ⟨12, .phase⟩, ⟨13, .phase⟩, ⟨14, .phase⟩], guard := none }) rfl (fun K hK => ?_) ?_
                  · go_simp
                    refine hK.out _ _ (fun _ => ?_) (fun hE => ?_)
                    · exact hQ.out _ (by repeat (first | (with_reducible assumption) | (with_reducible exact Keeps.refl _ _) | (with_reducible refine Keeps.drewN ?_ _) | (with_reducible refine Keeps.drew ?_) | with_reducible refine Keeps.setCell ?_ (by first | (intro _; exact rfl) | (intro _; exact Or.inl rfl) | (intro _; exact Or.inr rfl) | (simp; done) | (simp; omega)) _ | (with_reducible refine Keeps.alloc ?_ _)))
                    have hS := hE (by kernel_rfl)
                    clear hK K hE
                    try simp only [Act.put, List.setIfInBounds_toArray, List.set_cons_zero, List.set_cons_succ]
                    refine wpAnyT_done (by kernel_rfl) ?_ _
                    refine NoPanic.normal ?_
                    have HKQ := Lib.hid hkQ
                    clear hkq hkQ hS
                    go_wp2_with fail
                    go_meet
                    exact ⟨rfl, rfl, HKQ.out⟩
                  exact AllT.nil
                exact AllT.nil
              exact AllT.nil
            case rest =>
              obtain ⟨rfl, rfl, hkw⟩ := hcut
              have n0 := (HB20.out.keeps hkw (fun h => h)).cell (i := 0) rfl
              have hne : (nj.cls.toList == nj.cls.toList) = true := by simp
              have HKw := Lib.hid ((HKr.out.trans HK20.out (fun _ _ h => h)).trans hkw (fun _ _ h => h))
              clear hkw HC hQ
              go_wp2_with fail
              go_roundw
              case rel => exact ⟨j + 1, by omega, by go_num, HKw.out⟩
              case measure => simp [intOf]; omega
          · have hjl : ¬ (j : Int) < (L : Int) := by omega
            have c0 := (HKc.out.trans hkr (fun _ _ h => h)).cell HC0.out (fun h => h)
            have p1 := hb8y.cell (i := 1) rfl
            have hil : (i : Int) < (s.length : Int) := by omega
            have HKr := Lib.hid (HKc.out.trans hkr (fun _ _ h => h))
            clear hkr hb8y
            go_wp2_with fail
            go_ret2
            exact ⟨rfl, HK0.out.trans HKr.out (fun _ _ h => h)⟩
end Go.Proofs.YtdljlpogljjldaaDoor
