/- unify.Walk. -/
import Derived.Test.YthchnabhbpdfgaaDoorUFree
import Derived.Deep.LoopGhost
namespace Go.Proofs.YthchnabhbpdfgaaDoor
open Go.RowKit Go.Shelf

/-- Following variables. -/
def walkP (σ : List Ty) : Nat → Ty → Option Ty
  | 0, _ => none
  | n + 1, t =>
    if t.kind = 0 ∧ t.var < (σ.length : Int) then
      match σ[t.var.toNat]? with
      | none => none
      | some x => if x.kind = 0 ∧ x.var = t.var then some t else walkP σ n x
    else some t
/-- Variables are not negative. -/
def VarOk (t : Ty) : Prop := t.kind = 0 → 0 ≤ t.var
def tyV (t : Ty) (av : Value) : Value := .agg #[.int .i64 t.kind, .string t.name, .int .i64 t.var, av]

/-- What a function that returns a type answers. -/
def TyRet (r : Ty) (G : Nat → Prop) (W : World) (e : Ending) (w' : World) : Prop := ∃ av, e = .returned (tyV r av) ∧ TyC w' G r av ∧ Below W.heap.size W w'
theorem infoTyW : (Tryd.prog.info? 24).map (fun i => (i.zero, i.size, i.bytes)) = some (some (.agg #[.int .i64 0, .string ⟨#[]⟩, .int .i64 0, .slice none 0 0]), 4, 56) := by kernel_rfl

/-- Four stores into a block. -/
theorem four {w : World} {g : Nat} {t : TypeId} {a b c d : Value} (h : Blk w g t [a, b, c, d]) (u0 u1 u2 u3 : Value) :
    Blk ((((w.setCell ⟨g, 0, none⟩ u0).setCell ⟨g, 1, none⟩ u1).setCell ⟨g, 2, none⟩ u2).setCell ⟨g, 3, none⟩ u3) g t [u0, u1, u2, u3] ∧
      Keeps (· = g) w ((((w.setCell ⟨g, 0, none⟩ u0).setCell ⟨g, 1, none⟩ u1).setCell ⟨g, 2, none⟩ u2).setCell ⟨g, 3, none⟩ u3) :=
  ⟨(((h.set_ 0 u0).set_ 1 u1).set_ 2 u2).set_ 3 u3, ((((Keeps.refl (· = g) w).setCell (p := ⟨g, 0, none⟩) (fun _ => rfl) u0).setCell (p := ⟨g, 1, none⟩) (fun _ => rfl) u1).setCell (p := ⟨g, 2, none⟩) (fun _ => rfl) u2).setCell (p := ⟨g, 3, none⟩) (fun _ => rfl) u3⟩

/-- A slice whose array lies in a block that satisfies H, and whose elements lead to blocks that satisfy F. -/
def SlE {α : Type} (w : World) (H F : Nat → Prop) (f : α → D) (l : List α) (v : Value) : Prop := ∃ A c, v = .slice A l.length c ∧ l.length ≤ c ∧ c ≤ maxLen ∧ (A = none → c = 0) ∧
  (l ≠ [] → ∃ g off xs, A = some ⟨g, off, none⟩ ∧ H g ∧ RpAll w F (l.map f) xs ∧ ∀ j u, xs[j]? = some u → w.cell? ⟨g, off + j, none⟩ = some u)
section
variable {α : Type} {w w' : World} {H F X : Nat → Prop} {f : α → D} {l : List α} {v : Value} {k : Nat}
theorem SlE.form (h : SlE w H F f l v) : ∃ A c, v = .slice A l.length c ∧ l.length ≤ c ∧ c ≤ maxLen ∧ (A = none → c = 0) := by
  obtain ⟨A, c, e, h1, h2, h3, _⟩ := h
  exact ⟨A, c, e, h1, h2, h3⟩
theorem SlE.of_sl (h : Sl w F f l v) : SlE w F F f l v := by
  unfold Sl at h
  simp only [Rp] at h
  obtain ⟨A, c, e, h1, h2, h3, h4⟩ := h
  rw [List.length_map] at e h1
  exact ⟨A, c, by simpa using e, h1, h2, h3, fun hne => h4 (by simpa using hne)⟩
theorem SlE.sl (h : SlE w H F f l v) {G : Nat → Prop} (hH : ∀ b, H b → G b) (hF : ∀ b, F b → G b) : Sl w G f l v := by
  obtain ⟨A, c, e, h1, h2, h3, h4⟩ := h
  unfold Sl
  simp only [Rp]
  refine ⟨A, c, by rw [List.length_map, e], by rwa [List.length_map], h2, h3, fun hne => ?_⟩
  obtain ⟨g, off, xs, ha, hg, hx, hc⟩ := h4 (fun e => hne (by rw [e]; rfl))
  exact ⟨g, off, xs, ha, hH g hg, hx.mono hF, hc⟩
theorem SlE.keeps (h : SlE w H F f l v) (hk : Keeps X w w') (hH : ∀ i, H i → ¬ X i) (hF : ∀ i, F i → ¬ X i) : SlE w' H F f l v := by
  obtain ⟨A, c, e, h1, h2, h3, h4⟩ := h
  refine ⟨A, c, e, h1, h2, h3, fun hne => ?_⟩
  obtain ⟨g, off, xs, ha, hg, hx, hc⟩ := h4 hne
  exact ⟨g, off, xs, ha, hg, hx.frame (fun _ h => h) (fun _ _ _ hg hc => hk.cell hc (hF _ hg)), fun j u hj => hk.cell (hc j u hj) (hH g hg)⟩
theorem SlE.get {A : Option Addr} {n c : Nat} (h : SlE w H F f l (.slice A n c)) (hk : Wide f k) {i : Nat} (hi : i < l.length) :
    ∃ g off cs, A = some ⟨g, off, none⟩ ∧ H g ∧ Rp w F (f l[i]) cs ∧ cs.length = k ∧ ∀ j u, cs[j]? = some u → w.cell? ⟨g, off + i * k + j, none⟩ = some u := by
  obtain ⟨A', c', e, _, _, _, h4⟩ := h
  have hne : l ≠ [] := by intro h0; subst h0; simp at hi
  obtain ⟨g, off, xs, hA, hg, hx, hc⟩ := h4 hne
  obtain ⟨cs, hcs, hlen, hat⟩ := RpAll.get hk l xs hx i hi
  have e' : A = A' := by simp at e; exact e.1
  exact ⟨g, off, cs, e'.trans hA, hg, hcs, hlen, fun j u hj => by rw [Nat.add_assoc]; exact hc _ _ (hat j u hj)⟩
end
theorem tyD.getE {w : World} {H F : Nat → Prop} {l : List Ty} {A : Option Addr} {n c : Nat} (h : SlE w H F tyD l (.slice A n c)) {i : Nat} (hi : i < l.length) :
    ∃ (g off : Nat) (v : Value), A = some ⟨g, off, none⟩ ∧ H g ∧ w.cell? ⟨g, off + i * 4, none⟩ = some (.int .i64 l[i].kind) ∧ w.cell? ⟨g, off + i * 4 + 1, none⟩ = some (.string l[i].name) ∧
      w.cell? ⟨g, off + i * 4 + 2, none⟩ = some (.int .i64 l[i].var) ∧ w.cell? ⟨g, off + i * 4 + 3, none⟩ = some v ∧ TyC w F l[i] v := by
  obtain ⟨g, off, cs, hA, hg, hr, _, hc⟩ := SlE.get h tyD.wide hi
  rw [tyD.rp] at hr
  obtain ⟨v, rfl, h1⟩ := hr
  exact ⟨g, off, v, hA, hg, hc 0 _ rfl, hc 1 _ rfl, hc 2 _ rfl, hc 3 _ rfl, h1⟩

set_option maxRecDepth 100000 in
set_option maxHeartbeats 4000000 in
theorem walk_any (σ : List Ty) (sv : Value) (H G : Nat → Prop) (W : World) (hS : SlE W H G tyD σ sv) (hH : ∀ b, H b → b < W.heap.size) (hG : ∀ b, G b → b < W.heap.size) (hv : ∀ x ∈ σ, VarOk x) (n : Nat) (t r : Ty) (av : Value) (hT : TyC W G t av) (hvt : VarOk t) (hr : walkP σ n t = some r) :
    Calls Tryd.prog 19 #[sv, tyV t av] W (TyRet r G W) := by
  obtain ⟨A, c, rfl, hlc, hcm, _⟩ := hS.form
  obtain ⟨A2, c2, rfl, _⟩ := hT.form
  have hlm : σ.length ≤ 9223372036854775807 := by unfold maxLen at hcm; omega
  have HT := Lib.hid hT
  have HS := Lib.hid hS
  have HR := Lib.hid hr
  have HV := Lib.hid hv
  have HVt := Lib.hid hvt
  have HG := Lib.hid hG
  have HH := Lib.hid hH
  clear hT hS hr hv hvt hG hH
  unfold tyV
  go_enter Tryd.func19, Tryd.ntmps19
  go_wp2
  obtain ⟨tb, htb⟩ : ∃ tb, W.heap.size = tb := ⟨_, rfl⟩
  have HTb := Lib.hid htb
  obtain ⟨W0, hW0⟩ : ∃ W0, (W.alloc (.cells #[.int .i64 t.kind, .string t.name, .int .i64 t.var, .slice A2 t.args.length c2] 24)).alloc (.cells #[.int .i64 0, .string ⟨#[]⟩, .int .i64 0, .slice none 0 0] 24) = W0 := ⟨_, rfl⟩
  have hk0 : Keeps (fun _ => False) W W0 := by rw [← hW0]; exact ((Keeps.refl _ _).alloc _).alloc _
  have hb0 : Blk W0 tb 24 [.int .i64 t.kind, .string t.name, .int .i64 t.var, .slice A2 t.args.length c2] := by
    rw [← hW0, ← htb]; exact (Blk.new W _ [_, _, _, _]).alloc _
  have hr0 : Blk W0 (tb + 1) 24 [.int .i64 0, .string ⟨#[]⟩, .int .i64 0, .slice none 0 0] := by
    have := Blk.new (W.alloc (.cells #[.int .i64 t.kind, .string t.name, .int .i64 t.var, .slice A2 t.args.length c2] 24)) 24 [.int .i64 0, .string ⟨#[]⟩, .int .i64 0, .slice none 0 0]
    rw [hW0] at this
    simpa [htb] using this
  rw [hW0, htb]
  have HK0 := Lib.hid hk0
  have HB0 := Lib.hid hb0
  have HR0 := Lib.hid hr0
  clear hW0 hk0 hb0 hr0 htb
  go_loopg [5] n (fun q _ wr => ∃ (cur : Ty) (cv : Value), Blk wr tb 24 [.int .i64 cur.kind, .string cur.name, .int .i64 cur.var, cv] ∧ TyC wr G cur cv ∧ VarOk cur ∧ Keeps (fun i => tb ≤ i ∧ i ≠ tb + 1) W wr ∧ Blk wr (tb + 1) 24 [.int .i64 0, .string ⟨#[]⟩, .int .i64 0, .slice none 0 0] ∧ Hid (walkP σ q cur = some r))
  case atStart => exact ⟨t, _, HB0.out, HT.out.keeps HK0.out (fun _ _ h => h), HVt.out, HK0.out.mono (fun _ _ h => h.elim), HR0.out, HR.out⟩
  case round =>
    obtain ⟨cur, cv, hbt, hTc, hvc, hk, hrb, hw⟩ := hrel
    obtain ⟨A3, c3, rfl, _⟩ := hTc.form
    have d0 := hbt.cell (i := 0) rfl
    have d1 := hbt.cell (i := 1) rfl
    have d2 := hbt.cell (i := 2) rfl
    have d3 := hbt.cell (i := 3) rfl
    have fd0 := hbt.free 0
    have fd1 := hbt.free 1
    have fd2 := hbt.free 2
    have fd3 := hbt.free 3
    have r0 := hrb.cell (i := 0) rfl
    have r1 := hrb.cell (i := 1) rfl
    have r2 := hrb.cell (i := 2) rfl
    have r3 := hrb.cell (i := 3) rfl
    have fr0 := hrb.free 0
    have fr1 := hrb.free 1
    have fr2 := hrb.free 2
    have fr3 := hrb.free 3
    have htl := hbt.lt
    have hrl := hrb.lt
    have hwz := hk.size
    cases gk with
    | zero => have := hw.out; rw [walkP] at this; cases this
    | succ q =>
      have hw1 := hw.out
      rw [walkP] at hw1
      have HTc := Lib.hid hTc
      have HK := Lib.hid hk
      have HG2 := HG.out
      by_cases hin : cur.kind = 0 ∧ cur.var < (σ.length : Int)
      · obtain ⟨hc0, hcl⟩ := hin
        rw [if_pos ⟨hc0, hcl⟩] at hw1
        have hv0 := hvc hc0
        obtain ⟨j, hj⟩ : ∃ j : Nat, cur.var = (j : Int) := ⟨cur.var.toNat, by omega⟩
        have hjl : j < σ.length := by omega
        rw [hj, Int.toNat_natCast, List.getElem?_eq_getElem hjl] at hw1
        dsimp only at hw1
        have hk' : Keeps (fun i => tb ≤ i) W wr := hk.mono (fun _ _ h => h.1)
        obtain ⟨g, off, xv, hadr, hg, e0, e1, e2, e3, hTx⟩ := tyD.getE (HS.out.keeps hk' (fun i hi => by have := HH.out i hi; have := HTb.out; omega) (fun i hi => by have := HG.out i hi; have := HTb.out; omega)) hjl
        obtain rfl := hadr
        have hvx := HV.out _ (List.getElem_mem hjl)
        obtain ⟨x, hx⟩ : ∃ x, σ[j] = x := ⟨_, rfl⟩
        rw [hx] at hw1 e0 e1 e2 hTx hvx
        obtain ⟨A4, c4, rfl, _⟩ := hTx.form
        have hgw := block_lt_of_cell e0
        have hgt : g < tb := by have := HH.out g hg; have := HTb.out; omega
        have hgn : g ≠ tb := by omega
        rw [hc0] at d0
        rw [hj] at d2
        have j0 : (0 : Int) ≤ (j : Int) := by omega
        have j1 : (j : Int) < (σ.length : Int) := by omega
        by_cases hst : x.kind = 0 ∧ x.var = (j : Int)
        · rw [if_pos hst] at hw1
          have hRq := Lib.hid (Option.some.inj hw1)
          rw [hst.1] at e0
          rw [hst.2] at e2
          have HC0 := Lib.hid hc0
          have HJ := Lib.hid hj
          have HRb := Lib.hid hrb
          have HBt := Lib.hid hbt
          clear hw hw1 hTc hk hvc hk' hTx hvx hx hc0 hj hst hcl hv0 hrb hbt
          go_wp2
          obtain ⟨hB4, hK4⟩ := four HRb.out (.int .i64 0) (.string cur.name) (.int .i64 (j : Int)) (.slice A3 cur.args.length c3)
          have hkk : Keeps (fun i => tb ≤ i) W _ := (HK.out.mono (Y := fun i => tb ≤ i) (fun _ _ h => h.1)).trans (hK4.alloc (.cells #[.int .i64 0, .string x.name, .int .i64 (j : Int), .slice A4 x.args.length c4] 24)) (fun i _ h => by omega)
          exact ret_row Tryd.results19 rfl (hB4.alloc _) Tryd.underlying24 (by kernel_rfl) rfl
            ⟨_, by rw [← hRq.out]; unfold tyV; rw [HC0.out, HJ.out], by rw [← hRq.out]; exact HTc.out.keeps (hK4.alloc _) (fun i hi => by have := HG.out i hi; have := HTb.out; omega), hkk.below (fun i hi => by have := HTb.out; omega) (Nat.le_refl _)⟩
        · have HW2 := Lib.hid ((if_neg hst).symm.trans hw1)
          have HTx := Lib.hid hTx
          have HVx := Lib.hid hvx
          have HRb := Lib.hid hrb
          have HBt := Lib.hid hbt
          have hrt : tb + 1 ≠ tb := by omega
          clear hw hw1 hTc hk hvc hk' hTx hvx hx hc0 hj hcl hv0 hrb hbt
          by_cases hx0 : x.kind = 0
          · have hxv : x.var ≠ (j : Int) := fun e => hst ⟨hx0, e⟩
            have hxb : (x.var == (j : Int)) = false := by rw [beq_eq_false_iff_ne]; exact hxv
            have hx0b : (x.kind == 0) = true := by rw [hx0]; rfl
            clear hst hxv
            have HX0 := Lib.hid hx0
            clear hx0
            go_wp2
            obtain ⟨hB4, hK4⟩ := four HBt.out (.int .i64 x.kind) (.string x.name) (.int .i64 x.var) (.slice A4 x.args.length c4)
            have hrel2 : Keeps (fun i => tb ≤ i ∧ i ≠ tb + 1) W _ := HK.out.trans (hK4.alloc (.cells #[.int .i64 x.kind, .string x.name, .int .i64 x.var, .slice A4 x.args.length c4] 24)) (fun i _ h => by omega)
            have hTn := HTx.out.keeps (hK4.alloc (.cells #[.int .i64 x.kind, .string x.name, .int .i64 x.var, .slice A4 x.args.length c4] 24)) (fun i hi => by have := HG.out i hi; have := HTb.out; omega)
            have hRn := HRb.out.keeps (hK4.alloc (.cells #[.int .i64 x.kind, .string x.name, .int .i64 x.var, .slice A4 x.args.length c4] 24)) hrt
            go_roundg q
            case measure => omega
            case rel => exact ⟨x, _, hB4.alloc _, hTn, HVx.out, hrel2, hRn, HW2.out⟩
          · have hx0b : (x.kind == 0) = false := by rw [beq_eq_false_iff_ne]; exact hx0
            clear hst hx0
            go_wp2
            obtain ⟨hB4, hK4⟩ := four HBt.out (.int .i64 x.kind) (.string x.name) (.int .i64 x.var) (.slice A4 x.args.length c4)
            have hrel2 : Keeps (fun i => tb ≤ i ∧ i ≠ tb + 1) W _ := HK.out.trans (hK4.alloc (.cells #[.int .i64 x.kind, .string x.name, .int .i64 x.var, .slice A4 x.args.length c4] 24)) (fun i _ h => by omega)
            have hTn := HTx.out.keeps (hK4.alloc (.cells #[.int .i64 x.kind, .string x.name, .int .i64 x.var, .slice A4 x.args.length c4] 24)) (fun i hi => by have := HG.out i hi; have := HTb.out; omega)
            have hRn := HRb.out.keeps (hK4.alloc (.cells #[.int .i64 x.kind, .string x.name, .int .i64 x.var, .slice A4 x.args.length c4] 24)) hrt
            go_roundg q
            case measure => omega
            case rel => exact ⟨x, _, hB4.alloc _, hTn, HVx.out, hrel2, hRn, HW2.out⟩
      · rw [if_neg hin] at hw1
        have hRq := Lib.hid (Option.some.inj hw1)
        have HTc2 := HTc.out
        have HRb := Lib.hid hrb
        clear hw hw1 hTc hk hvc hrb hbt
        obtain ⟨hB4, hK4⟩ := four HRb.out (.int .i64 cur.kind) (.string cur.name) (.int .i64 cur.var) (.slice A3 cur.args.length c3)
        have hkk : Keeps (fun i => tb ≤ i) W _ := (HK.out.mono (Y := fun i => tb ≤ i) (fun _ _ h => h.1)).trans hK4 (fun i _ h => by omega)
        have hTn := HTc.out.keeps hK4 (fun i hi => by have := HG.out i hi; have := HTb.out; omega)
        have HB4 := Lib.hid hB4
        have HKK := Lib.hid (hkk.below (fun i hi => by have := HTb.out; omega) (Nat.le_refl _))
        have HTN := Lib.hid hTn
        clear hB4 hK4 hkk hTn HTc2
        by_cases hc0 : cur.kind = 0
        · have hcb : (cur.kind == 0) = true := by rw [hc0]; rfl
          have hlt : ¬ cur.var < (σ.length : Int) := fun h => hin ⟨hc0, h⟩
          clear hc0 hin
          go_wp2
          exact ret_row Tryd.results19 rfl HB4.out Tryd.underlying24 (by kernel_rfl) rfl ⟨_, by rw [← hRq.out]; rfl, by rw [← hRq.out]; exact HTN.out, HKK.out⟩
        · have hcb : (cur.kind == 0) = false := by rw [beq_eq_false_iff_ne]; exact hc0
          clear hc0 hin
          go_wp2
          exact ret_row Tryd.results19 rfl HB4.out Tryd.underlying24 (by kernel_rfl) rfl ⟨_, by rw [← hRq.out]; rfl, by rw [← hRq.out]; exact HTN.out, HKK.out⟩
end Go.Proofs.YthchnabhbpdfgaaDoor
