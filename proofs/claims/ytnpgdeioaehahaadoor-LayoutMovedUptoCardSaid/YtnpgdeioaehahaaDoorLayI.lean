/- The layout's marker: opens, inner, before. -/
import Derived.Test.YtnpgdeioaehahaaDoorLayS
namespace Go.Proofs.YtnpgdeioaehahaaDoor
open Go.RowKit Go.Shelf

theorem sWhere_l : sWhere.toList = [119, 104, 101, 114, 101] := by decide +kernel
theorem sOf_l : sOf.toList = [111, 102] := by decide +kernel
theorem sLet_l : sLet.toList = [108, 101, 116] := by decide +kernel
theorem sWith_l : sWith.toList = [119, 105, 116, 104] := by decide +kernel
set_option maxHeartbeats 4000000 in
theorem opens_any (t : Tok) (W : World) :
    Calls Tryd.prog 56 #[.agg #[.int .i64 t.kind, .string t.text, .int .i64 t.n, .int .i64 t.line, .int .i64 t.col]] W (fun e w' => e = .returned (.bool (opensP t)) ∧ Keeps (fun _ => False) W w') := by
  by_cases h0 : t.kind = 4
  · have hk : (t.kind == 4) = true := by simpa using h0
    by_cases h1 : t.text = sWhere
    · have h1b : (t.text.toList == sWhere.toList) = true := str_yes h1
      have hr : opensP t = true := by unfold opensP; simp [h0, h1]
      rw [hr]
      clear hr h0 h1
      rw [sWhere_l] at h1b
      go_enter Tryd.func56, Tryd.ntmps56
      go_wp2_with fail
      go_ret
      exact ⟨rfl, (Keeps.refl _ _).alloc _⟩
    · have h1b : (t.text.toList == sWhere.toList) = false := str_no h1
      by_cases h2 : t.text = sOf
      · have h2b : (t.text.toList == sOf.toList) = true := str_yes h2
        have hr : opensP t = true := by unfold opensP; simp [h0, h2]
        rw [hr]
        clear hr h0 h1 h2
        rw [sWhere_l] at h1b
        rw [sOf_l] at h2b
        go_enter Tryd.func56, Tryd.ntmps56
        go_wp2_with fail
        go_ret
        exact ⟨rfl, (Keeps.refl _ _).alloc _⟩
      · have h2b : (t.text.toList == sOf.toList) = false := str_no h2
        by_cases h3 : t.text = sLet
        · have h3b : (t.text.toList == sLet.toList) = true := str_yes h3
          have hr : opensP t = true := by unfold opensP; simp [h0, h3]
          rw [hr]
          clear hr h0 h1 h2 h3
          rw [sWhere_l] at h1b
          rw [sOf_l] at h2b
          rw [sLet_l] at h3b
          go_enter Tryd.func56, Tryd.ntmps56
          go_wp2_with fail
          go_ret
          exact ⟨rfl, (Keeps.refl _ _).alloc _⟩
        · have h3b : (t.text.toList == sLet.toList) = false := str_no h3
          obtain ⟨q, hq⟩ : ∃ q : Bool, decide (t.text = sWith) = q := ⟨_, rfl⟩
          have h4b : (t.text.toList == sWith.toList) = q := by
            rw [← hq]
            by_cases h4 : t.text = sWith
            · rw [str_yes h4, decide_eq_true h4]
            · rw [str_no h4, decide_eq_false h4]
          have hr : opensP t = q := by unfold opensP; simp [h0, h1, h2, h3, hq]
          rw [hr]
          clear hr h0 h1 h2 h3 hq
          rw [sWhere_l] at h1b
          rw [sOf_l] at h2b
          rw [sLet_l] at h3b
          rw [sWith_l] at h4b
          go_enter Tryd.func56, Tryd.ntmps56
          go_wp2_with fail
          go_ret
          exact ⟨rfl, (Keeps.refl _ _).alloc _⟩
  · have hk : (t.kind == 4) = false := by simpa using h0
    have hr : opensP t = false := by unfold opensP; simp [h0]
    rw [hr]
    clear hr h0
    go_enter Tryd.func56, Tryd.ntmps56
    go_wp2_with fail
    go_ret
    exact ⟨rfl, (Keeps.refl _ _).alloc _⟩
theorem MkAt.sl {W : World} {B bm : Nat} {sv ov : Value} {m : Mk} (h : MkAt W B bm sv ov m) : Sl W (fun b => sv.ownBlock = some b) Ctx.d m.st sv :=
  Sl.of_own (F := fun _ => False) h.stk rfl (ctxs_rp m.st h.okc) (fun _ h => h.elim) (fun _ h => h)
set_option maxRecDepth 100000 in
set_option maxHeartbeats 4000000 in
theorem linner_any (W : World) (B bm : Nat) (sv ov : Value) (m : Mk) (h : MkAt W B bm sv ov m) :
    Calls Tryd.prog 90 #[.pointer (some ⟨bm, 0, none⟩)] W (fun e w' => Keeps (fun _ => False) W w' ∧ ∃ v, e = .returned v ∧ Sl w' (fun b => sv.ownBlock = some b) Ctx.d (innerP m.st) v) := by
  obtain ⟨A, cc, A2, c2, rfl, rfl, hc1, hc2, _, _⟩ := h.form
  have c0 := h.box.cell (i := 0) rfl
  have hl3 := h.box.lt
  have HM := Lib.hid h
  have HSl := Lib.hid h.sl
  obtain ⟨n, hn⟩ : ∃ n, m.st.length = n := ⟨_, rfl⟩
  rw [hn] at c0 hc1 HM HSl
  have HNn := Lib.hid hn
  have hcm : n ≤ 9223372036854775807 := by unfold maxLen at hc2; omega
  have hcc : cc ≤ 9223372036854775807 := by unfold maxLen at hc2; omega
  have hnc : (n : Int) ≤ (cc : Int) := by omega
  rw [hn]
  clear h hn hc2
  go_enter Tryd.func90, Tryd.ntmps90
  go_wp2_with fail
  go_loopw [3] (fun i wr => ∃ k : Nat, k ≤ n ∧ .int .i64 (k : Int) = i ∧ Hid (innerN m.st n = innerN m.st k) ∧ wr = W) (fun i _ => (intOf i).toNat)
  case atStart => exact ⟨n, Nat.le_refl _, rfl, rfl, rfl⟩
  case round =>
    obtain ⟨k, hk, rfl, hin, rfl⟩ := hrel
    have hfin : ∀ j : Nat, j ≤ n → innerN m.st n = j → Hid (∀ v, v = (Value.slice (if cc = j then A else A.map (·.add (j * 2))) (n - j) (cc - j)) → Sl wr (fun b => (Value.slice A n cc).ownBlock = some b) Ctx.d (innerP m.st) v) := fun j hj he v hv => by
      subst hv
      have := HSl.out.drop Ctx.wide (i := j) (by rw [HNn.out]; exact hj)
      unfold innerP
      rw [HNn.out, he]
      exact this
    by_cases hk0 : k = 0
    · subst hk0
      have hF := hfin 0 (Nat.zero_le _) hin.out
      clear hfin hin
      go_wp2_with fail
      go_ret
      refine ⟨Keeps.refl _ _, _, rfl, hF.out _ ?_⟩
      cases A <;> simp [Addr.add]
    · obtain ⟨j, rfl⟩ : ∃ j, k = j + 1 := ⟨k - 1, by omega⟩
      have hjl : j < m.st.length := by have := HNn.out; omega
      obtain ⟨g, off, hA, _, d0, d1, _, _⟩ := Ctx.get HSl.out hjl
      subst hA
      obtain ⟨c, hc⟩ : ∃ c, m.st[j] = c := ⟨_, rfl⟩
      rw [hc] at d0 d1
      have hstep : innerN m.st (j + 1) = if 0 < c.col then innerN m.st j else j + 1 := by
        rw [innerN, List.getElem?_eq_getElem hjl, hc]
      have hj0 : (0 : Int) < (j : Int) + 1 := by omega
      have hj1 : (j : Int) < (n : Int) := by omega
      have hj2 : (0 : Int) ≤ (j : Int) := by omega
      by_cases hcol : 0 < c.col
      · rw [if_pos hcol] at hstep
        have hin2 : Hid (innerN m.st n = innerN m.st j) := hin.out.trans hstep
        clear hstep hin hfin hc
        go_wp2_with fail
        go_roundw
        case rel => exact ⟨j, by omega, by go_num, hin2.out, trivial⟩
        case measure => simp [intOf]
      · rw [if_neg hcol] at hstep
        have hF := hfin (j + 1) hk (hin.out.trans hstep)
        clear hstep hin hfin hc hk0
        by_cases hcj : cc = j + 1
        · subst hcj
          go_wp2_with fail
          go_ret
          exact ⟨Keeps.refl _ _, _, rfl, (hF.out _ (by simp; omega)).mono (fun b hb => by simpa [Value.ownBlock] using hb)⟩
        · have hcj2 : ¬ j + 1 = cc := fun h => hcj h.symm
          go_wp2_with fail
          go_ret
          exact ⟨Keeps.refl _ _, _, rfl, (hF.out _ (by rw [if_neg hcj]; simp [Go.WideShapes.add_plain])).mono (fun b hb => by simpa [Value.ownBlock] using hb)⟩
theorem bclo1 (c : Ctx) (F : Nat → Prop) (W : World) (cs : List Value) (hr : Rp W F c.d cs) :
    Calls Tryd.prog 89 #[.agg cs.toArray] W fun e w' => e = .returned (.bool (decide (c.col = 0))) ∧ Below W.heap.size W w' := by
  rw [Ctx.rp] at hr
  obtain ⟨rfl, _, _⟩ := hr
  by_cases h : c.col = 0
  · have hb : (c.col == 0) = true := by simpa using h
    rw [decide_eq_true h]
    clear h
    go_enter Tryd.func89, Tryd.ntmps89
    go_wp2_with fail
    go_ret
    exact ⟨rfl, (Below.refl _ _).alloc (Nat.le_refl _) _⟩
  · have hb : (c.col == 0) = false := by simpa using h
    rw [decide_eq_false h]
    clear h
    go_enter Tryd.func89, Tryd.ntmps89
    go_wp2_with fail
    go_ret
    exact ⟨rfl, (Below.refl _ _).alloc (Nat.le_refl _) _⟩
theorem bclo2 (c : Ctx) (F : Nat → Prop) (W : World) (cs : List Value) (hr : Rp W F c.d cs) :
    Calls Tryd.prog 91 #[.agg cs.toArray] W fun e w' => e = .returned (.bool (decide (c.op = sLet))) ∧ Below W.heap.size W w' := by
  rw [Ctx.rp] at hr
  obtain ⟨rfl, _, _⟩ := hr
  by_cases h : c.op = sLet
  · have hb := str_yes h
    rw [decide_eq_true h]
    rw [sLet_l] at hb
    clear h
    go_enter Tryd.func91, Tryd.ntmps91
    go_wp2_with fail
    go_ret
    exact ⟨rfl, (Below.refl _ _).alloc (Nat.le_refl _) _⟩
  · have hb := str_no h
    rw [decide_eq_false h]
    rw [sLet_l] at hb
    clear h
    go_enter Tryd.func91, Tryd.ntmps91
    go_wp2_with fail
    go_ret
    exact ⟨rfl, (Below.refl _ _).alloc (Nat.le_refl _) _⟩
end Go.Proofs.YtnpgdeioaehahaaDoor
