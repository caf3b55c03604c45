/- scope.Sorted sorts located errors by place, keeps each and removes repetitions: ScopeSorted returns true at every list. No conditions but the form's own reach. -/
import Derived.Test.YtjofndhbpglfgaaScSorted
import Derived.BigRegion
namespace Go.Proofs.Ytjofndhbpglfgaa.scopeSorted
open Go.Proofs.Ytjofndhbpglfgaa Go.RowKit Go.ChangeShapes Go.WideShapes Go.Shelf Go.Sort

theorem lit_sl {w : World} {g n : Nat} {cs : List Value} {l : List Diag} (hb : Blk w g 25 cs) (hc : cs = (l.map Diag.v4).flatMap V4.cells) (hok : ∀ x ∈ l, x.Ok) (hn : l.length = n) (hm : n ≤ maxLen) : Sl w (· = g) Diag.d l (.slice (some ⟨g, 0, none⟩) n n) := by
  unfold Sl
  simp only [Rp, List.length_map]
  exact ⟨some ⟨g, 0, none⟩, n, by rw [hn], by omega, hm, (fun h => nomatch h), fun _ => ⟨g, 0, cs, rfl, rfl, diags_rp.2 ⟨hc, hok⟩, fun j u hj => by rw [Nat.zero_add]; exact hb.cell hj⟩⟩
def dA : Diag := ⟨1, 2, 1, ⟨#[]⟩⟩
def dB : Diag := ⟨1, 1, 9, ⟨#[]⟩⟩
theorem okA : dA.Ok := ⟨by decide, by decide, by decide, by unfold maxLen; decide⟩
theorem okB : dB.Ok := ⟨by decide, by decide, by decide, by unfold maxLen; decide⟩
theorem sample : sortP [dA, dB, dA] = [dB, dA] := by
  have h1 : ltD dA dB = false := by decide
  have h2 : ltD dB dA = true := by decide
  have h3 : ltD dA dA = false := by decide
  have h4 : Diag.eqB dA dA = true := (eqB_iff' _ _).2 rfl
  have h5 : Diag.eqB dA dB = false := by
    rw [← Bool.not_eq_true, eqB_iff']
    exact fun e => absurd (congrArg Diag.line e) (by decide)
  have m1 : Stab.merge ltD [dB] [dA] = [dB, dA] := by rw [Stab.merge_cons, h1, if_neg (by simp), Stab.merge_nil_left]
  have m2 : Stab.merge ltD [dA] [dB, dA] = [dB, dA, dA] := by rw [Stab.merge_cons, h2, if_pos rfl, Stab.merge_cons, h3, if_neg (by simp), Stab.merge_nil_left]
  show cpl (Stab.merge ltD [dA] (Stab.merge ltD [dB] (Stab.merge ltD [dA] []))) = _
  rw [Stab.merge_nil_right, m1, m2]
  simp [Cpt.cs, h4, h5]
set_option maxHeartbeats 1000000 in
theorem diagContains (l : List Diag) (v : Value) (F : Nat → Prop) (w : World) (hv : Sl w F Diag.d l v) (x : Diag) (hx : x ∈ l) :
    Calls Try.prog 6 #[v, .agg #[.int .i64 x.code, .int .i64 x.line, .int .i64 x.col, .string x.text]] w fun e w' => e = .returned (.bool true) ∧ Below w.heap.size w w' := by
  obtain ⟨A, c, rfl, _⟩ := hv.form
  have hsl := hv.later ((Below.refl w.heap.size w).alloc (Nat.le_refl _) (.cells #[.int .i64 x.code, .int .i64 x.line, .int .i64 x.col, .string x.text] 25))
  have HI := Lib.hid (diagIndex l _ _ _ hsl x)
  have hd : decide (0 ≤ diagIdx x l) = true := idx_mem hx
  obtain ⟨m, hm⟩ : ∃ m, diagIdx x l = m := ⟨_, rfl⟩
  rw [hm] at HI hd
  have hm0 : 0 ≤ m := of_decide_eq_true hd
  clear hsl hv hm hx
  go_enter Try.func6, Try.ntmps6
  go_wp2_with fail
  refine HI.out.mono ?_
  rintro e w1 ⟨rfl, hb⟩
  go_wp2
  go_ret
  exact ⟨rfl, ((Below.refl w.heap.size w).alloc (Nat.le_refl _) _).trans (hb.mono (by simp))⟩
set_option maxRecDepth 100000 in
set_option maxHeartbeats 8000000 in
theorem walk (l : List Diag) (v : Value) (W : World) (hv : Sl W (· < W.heap.size) Diag.d l v) (hlen : l.length * 40 ≤ 140737488351232) :
    Calls Try.prog 3 #[v] W fun e W' => e = .returned (.bool true) ∧ Below W.heap.size W W' := by
  obtain ⟨A, c, rfl, hlc, hcm, _⟩ := hv.form
  have HV := Lib.hid hv
  clear hv
  go_enter Try.func3, Try.ntmps3
  go_wp2_with fail
  obtain ⟨W1, hW1⟩ : ∃ W1, (W.alloc (.cells #[.int .i64 1, .int .i64 2, .int .i64 1, .string ⟨#[]⟩] 25)).alloc (.cells #[.int .i64 1, .int .i64 1, .int .i64 9, .string ⟨#[]⟩] 25) = W1 := ⟨_, rfl⟩
  have ha := (Blk.new W 25 [.int .i64 1, .int .i64 2, .int .i64 1, .string ⟨#[]⟩]).alloc (.cells #[.int .i64 1, .int .i64 1, .int .i64 9, .string ⟨#[]⟩] 25)
  have hb := Blk.new (W.alloc (.cells #[.int .i64 1, .int .i64 2, .int .i64 1, .string ⟨#[]⟩] 25)) 25 [.int .i64 1, .int .i64 1, .int .i64 9, .string ⟨#[]⟩]
  have hB1 : Below W.heap.size W W1 := by rw [← hW1]; exact ((Below.refl _ _).alloc (Nat.le_refl _) _).alloc (by simp) _
  have hz1 : W.heap.size + 1 + 1 = W1.heap.size := by rw [← hW1]; simp
  rw [hW1] at ha hb ⊢
  rw [World.size_alloc] at hb
  rw [hz1]
  obtain ⟨b0, hb0⟩ : ∃ b0, W.heap.size = b0 := ⟨_, rfl⟩
  simp only [hb0] at ha hb hz1 ⊢
  have hsl := lit_sl (Blk.new W1 25 [.int .i64 1, .int .i64 2, .int .i64 1, .string ⟨#[]⟩, .int .i64 1, .int .i64 1, .int .i64 9, .string ⟨#[]⟩, .int .i64 1, .int .i64 2, .int .i64 1, .string ⟨#[]⟩]) (l := [dA, dB, dA]) (n := 3) rfl
    (fun x hx => by simp only [List.mem_cons, List.not_mem_nil, or_false] at hx; rcases hx with rfl | rfl | rfl <;> first | exact okA | exact okB) rfl (by unfold maxLen; omega)
  have HA := Lib.hid ha
  have HB := Lib.hid hb
  have HB1 := Lib.hid hB1
  have HZ1 := Lib.hid hz1
  have HB0 := Lib.hid hb0
  have HS0 := Lib.hid (sorted_any [dA, dB, dA] _ _ _ hsl (fun b hb => by subst hb; simp) (by decide))
  clear ha hb hB1 hz1 hb0 hsl hW1
  with_reducible refine HS0.out.mono ?_
  rintro e w2 ⟨v2, rfl, hs2, hb2⟩
  rw [sample] at hs2
  have hb12 : Below W1.heap.size W1 w2 := ((Below.refl _ _).alloc (Nat.le_refl _) _).trans (hb2.mono (by simp))
  obtain ⟨A2, c2, rfl, _⟩ := hs2.form
  have a0 := (HA.out.later hb12).cell (i := 0) rfl
  have a1 := (HA.out.later hb12).cell (i := 1) rfl
  have a2 := (HA.out.later hb12).cell (i := 2) rfl
  have a3 := (HA.out.later hb12).cell (i := 3) rfl
  have e0 := (HB.out.later hb12).cell (i := 0) rfl
  have e1 := (HB.out.later hb12).cell (i := 1) rfl
  have e2 := (HB.out.later hb12).cell (i := 2) rfl
  have e3 := (HB.out.later hb12).cell (i := 3) rfl
  have HS2 := Lib.hid hs2
  have HB12 := Lib.hid hb12
  clear hs2 hb2 hb12 HS0
  go_wp2_with fail
  have hsl2 := lit_sl (Blk.new w2 25 [.int .i64 1, .int .i64 1, .int .i64 9, .string ⟨#[]⟩, .int .i64 1, .int .i64 2, .int .i64 1, .string ⟨#[]⟩]) (l := [dB, dA]) (n := 2) rfl
    (fun x hx => by simp only [List.mem_cons, List.not_mem_nil, or_false] at hx; rcases hx with rfl | rfl <;> first | exact okA | exact okB) rfl (by unfold maxLen; omega)
  have heq := diagEqual [dB, dA] [dB, dA] _ _ _ _ _ (HS2.out.later ((Below.refl _ w2).alloc (Nat.le_refl _) (.cells #[.int .i64 1, .int .i64 1, .int .i64 9, .string ⟨#[]⟩, .int .i64 1, .int .i64 2, .int .i64 1, .string ⟨#[]⟩] 25))) hsl2
  rw [eqBy_refl Diag.eqB (fun x => (eqB_iff' x x).2 rfl), show [dB, dA].length = 2 from rfl] at heq
  have HEQ := Lib.hid heq
  clear heq hsl2 a0 a1 a2 a3 e0 e1 e2 e3
  with_reducible refine HEQ.out.mono ?_
  rintro e w3 ⟨rfl, hb3⟩
  have hB3 : Below W.heap.size W w3 := by
    have h1 := HB12.out.trans ((((Below.refl w2.heap.size w2).alloc (Nat.le_refl _) _).trans (hb3.mono (by simp))).mono HB12.out.size)
    exact HB1.out.trans (h1.mono HB1.out.size)
  have hS0 := sorted_any l _ _ w3 (HV.out.later hB3) (fun b hb => Nat.lt_of_lt_of_le hb hB3.size) (by omega)
  have HS0 := Lib.hid hS0
  have HB3 := Lib.hid hB3
  clear hS0 hb3 hB3 HEQ HS2 HB12
  go_wp2_with ((go_at_call 4; with_reducible refine HS0.out.mono ?_); rintro e w4 ⟨v4, rfl, hs4, hb4⟩)
  obtain ⟨A4, c4, rfl, hmc, hcm4, _⟩ := hs4.form
  obtain ⟨out, hout⟩ : ∃ out, sortP l = out := ⟨_, rfl⟩
  rw [hout] at hs4 hmc ⊢
  have hlo : out.length ≤ l.length := by rw [← hout]; exact sortP_len l
  have HOUT := Lib.hid hout
  have HS4 := Lib.hid hs4
  have hB4 : Below W.heap.size W w4 := HB3.out.trans (hb4.mono HB3.out.size)
  have HB4 := Lib.hid hB4
  have hmz : out.length ≤ 9223372036854775807 := by omega
  clear hs4 hb4 hB4 hout HS0
  go_loopw [7] (fun s7 wr => ∃ i : Nat, s7 = .int .i64 i ∧ 1 ≤ i ∧ i ≤ out.length + 1 ∧ Below w4.heap.size w4 wr) (fun s7 _ => out.length + 1 - (intOf s7).toNat)
  case atStart => exact ⟨1, rfl, Nat.le_refl _, by omega, Below.refl _ _⟩
  case round =>
    obtain ⟨i, rfl, hi1, hi2, hb⟩ := hrel
    by_cases hlt : i < out.length
    · obtain ⟨ip, hip⟩ : ∃ ip : Nat, (i : Int) - 1 = (ip : Int) := ⟨i - 1, by omega⟩
      have hie : i = ip + 1 := by omega
      have ipl : ip < out.length := by omega
      obtain ⟨x, hx⟩ : ∃ x, out[ip] = x := ⟨_, rfl⟩
      obtain ⟨y, hy⟩ : ∃ y, out[i] = y := ⟨_, rfl⟩
      have hap := sortP_apart l (i := ip) (x := x) (y := y) (by rw [HOUT.out, List.getElem?_eq_getElem ipl, hx]) (by rw [HOUT.out, ← hie, List.getElem?_eq_getElem hlt, hy])
      obtain ⟨g, off, hadr, _, p0, p1, p2, p3, _⟩ := Diag.get (HS4.out.later hb) ipl
      obtain ⟨g', off', hadr', _, q0, q1, q2, q3, _⟩ := Diag.get (HS4.out.later hb) hlt
      obtain rfl := hadr
      simp only [Option.some.injEq, Addr.mk.injEq, and_true] at hadr'
      obtain ⟨rfl, rfl⟩ := hadr'
      rw [hx] at p0 p1 p2 p3
      rw [hy] at q0 q1 q2 q3
      obtain ⟨hne, hl1, hl2⟩ := hap
      have hn2 := fun (W : World) => (Diag.eql_run W x y).trans (by rw [hne])
      have iz : (i : Int) < (out.length : Int) := by omega
      have ipz : (ip : Int) < (out.length : Int) := by omega
      have hwp : IntKind.i64.wrap (ip : Int) = (ip : Int) := by rw [IntKind.wrap_i64]; omega
      have ip0 : (0 : Int) ≤ (ip : Int) := by omega
      have i0 : (0 : Int) ≤ (i : Int) := by omega
      have HXX := Lib.hid hl2
      have hl1' : ¬ y.line < x.line := fun h => by rw [hl1] at h; exact h
      have h5 : decide (x.line > y.line) = false := decide_eq_false hl1'
      have HIE := Lib.hid hie
      have HQ : Hid (∀ X, Below wr.heap.size wr X → (X.cell? ⟨g, off + ip * 4, none⟩ = some (.int .i64 x.code) ∧ X.cell? ⟨g, off + ip * 4 + 1, none⟩ = some (.int .i64 x.line) ∧ X.cell? ⟨g, off + ip * 4 + 2, none⟩ = some (.int .i64 x.col) ∧ X.cell? ⟨g, off + ip * 4 + 3, none⟩ = some (.string x.text) ∧ X.cell? ⟨g, off + i * 4, none⟩ = some (.int .i64 y.code) ∧ X.cell? ⟨g, off + i * 4 + 1, none⟩ = some (.int .i64 y.line) ∧ X.cell? ⟨g, off + i * 4 + 2, none⟩ = some (.int .i64 y.col) ∧ X.cell? ⟨g, off + i * 4 + 3, none⟩ = some (.string y.text))) := fun X hb =>
        ⟨(hb.cell (block_lt_of_cell p0)).trans p0, (hb.cell (block_lt_of_cell p1)).trans p1, (hb.cell (block_lt_of_cell p2)).trans p2, (hb.cell (block_lt_of_cell p3)).trans p3, (hb.cell (block_lt_of_cell q0)).trans q0, (hb.cell (block_lt_of_cell q1)).trans q1, (hb.cell (block_lt_of_cell q2)).trans q2, (hb.cell (block_lt_of_cell q3)).trans q3⟩
      have HBR := Lib.hid hb
      clear p0 p1 p2 p3 q0 q1 q2 q3 hb
      clear hx hy hne hl1 hl2 hie
      by_cases hle : x.line = y.line
      · have hcol : ¬ y.col < x.col := fun h => by rw [HXX.out hle] at h; exact h
        have h6 : decide (x.col > y.col) = false := decide_eq_false hcol
        have h7 : (x.line == y.line) = true := by rw [beq_iff_eq]; exact hle
        clear hle
        go_wp2_with fail
        go_region_held3 (fun X => X.cell? ⟨g, off + ip * 4, none⟩ = some (.int .i64 x.code) ∧ X.cell? ⟨g, off + ip * 4 + 1, none⟩ = some (.int .i64 x.line) ∧ X.cell? ⟨g, off + ip * 4 + 2, none⟩ = some (.int .i64 x.col) ∧ X.cell? ⟨g, off + ip * 4 + 3, none⟩ = some (.string x.text) ∧ X.cell? ⟨g, off + i * 4, none⟩ = some (.int .i64 y.code) ∧ X.cell? ⟨g, off + i * 4 + 1, none⟩ = some (.int .i64 y.line) ∧ X.cell? ⟨g, off + i * 4 + 2, none⟩ = some (.int .i64 y.col) ∧ X.cell? ⟨g, off + i * 4 + 3, none⟩ = some (.string y.text))
          (exact HQ.out _ (by repeat (first | (with_reducible assumption) | (with_reducible exact Below.refl _ _) | (with_reducible refine Below.drewN ?_ _) | (with_reducible refine Below.drew ?_) | with_reducible refine Below.setCell ?_ (by first | exact Nat.le_refl _ | (simp; done) | (simp; omega)) _ | with_reducible refine Below.alloc ?_ (by first | exact Nat.le_refl _ | omega | (simp; done) | (simp; omega)) _)))
          (fail)
        all_goals go_wp2
        all_goals
          go_roundw
          case rel => exact ⟨i + 1, by go_num, by omega, by omega, HBR.out.trans (Below.mono ((by repeat (first | (with_reducible assumption) | (with_reducible exact Below.refl _ _) | (with_reducible refine Below.drewN ?_ _) | (with_reducible refine Below.drew ?_) | with_reducible refine Below.setCell ?_ (by first | exact Nat.le_refl _ | (simp; done) | (simp; omega)) _ | with_reducible refine Below.alloc ?_ (by first | exact Nat.le_refl _ | omega | (simp; done) | (simp; omega)) _)) : Below wr.heap.size wr _) HBR.out.size)⟩
          case measure => simp [intOf]; omega
      · have h7 : (x.line == y.line) = false := by rw [beq_eq_false_iff_ne]; exact hle
        clear hle
        go_wp2_with fail
        go_region_held3 (fun X => X.cell? ⟨g, off + ip * 4, none⟩ = some (.int .i64 x.code) ∧ X.cell? ⟨g, off + ip * 4 + 1, none⟩ = some (.int .i64 x.line) ∧ X.cell? ⟨g, off + ip * 4 + 2, none⟩ = some (.int .i64 x.col) ∧ X.cell? ⟨g, off + ip * 4 + 3, none⟩ = some (.string x.text) ∧ X.cell? ⟨g, off + i * 4, none⟩ = some (.int .i64 y.code) ∧ X.cell? ⟨g, off + i * 4 + 1, none⟩ = some (.int .i64 y.line) ∧ X.cell? ⟨g, off + i * 4 + 2, none⟩ = some (.int .i64 y.col) ∧ X.cell? ⟨g, off + i * 4 + 3, none⟩ = some (.string y.text))
          (exact HQ.out _ (by repeat (first | (with_reducible assumption) | (with_reducible exact Below.refl _ _) | (with_reducible refine Below.drewN ?_ _) | (with_reducible refine Below.drew ?_) | with_reducible refine Below.setCell ?_ (by first | exact Nat.le_refl _ | (simp; done) | (simp; omega)) _ | with_reducible refine Below.alloc ?_ (by first | exact Nat.le_refl _ | omega | (simp; done) | (simp; omega)) _)))
          (fail)
        all_goals go_wp2
        all_goals
          go_roundw
          case rel => exact ⟨i + 1, by go_num, by omega, by omega, HBR.out.trans (Below.mono ((by repeat (first | (with_reducible assumption) | (with_reducible exact Below.refl _ _) | (with_reducible refine Below.drewN ?_ _) | (with_reducible refine Below.drew ?_) | with_reducible refine Below.setCell ?_ (by first | exact Nat.le_refl _ | (simp; done) | (simp; omega)) _ | with_reducible refine Below.alloc ?_ (by first | exact Nat.le_refl _ | omega | (simp; done) | (simp; omega)) _)) : Below wr.heap.size wr _) HBR.out.size)⟩
          case measure => simp [intOf]; omega
    · have iz : ¬ (i : Int) < (out.length : Int) := by omega
      go_wp2
      have HBR := Lib.hid hb
      clear hb
      go_loopw [68] (fun s wx => ∃ k : Nat, s = .int .i64 k ∧ k ≤ l.length ∧ Below w4.heap.size w4 wx) (fun s _ => l.length - (intOf s).toNat)
      case atStart => exact ⟨0, rfl, Nat.zero_le _, HBR.out⟩
      case round =>
        clear HBR
        obtain ⟨k, rfl, hk, hb⟩ := hrel
        have hBW : Below W.heap.size W _ := HB4.out.trans (hb.mono HB4.out.size)
        by_cases hlt : k < l.length
        · obtain ⟨g, off, rfl, _, p0, p1, p2, p3, _⟩ := Diag.get (HV.out.later hBW) hlt
          obtain ⟨x, hx⟩ : ∃ x, l[k] = x := ⟨_, rfl⟩
          rw [hx] at p0 p1 p2 p3
          have kz : (k : Int) < (l.length : Int) := by omega
          have hmem : x ∈ out := by rw [← HOUT.out, ← hx]; exact sortP_mem l (List.getElem_mem hlt)
          have HMEM := Lib.hid hmem
          have HBB := Lib.hid hb
          clear hx hmem hBW hb
          go_wp2_with fail
          have hb2 := HBB.out.alloc HBB.out.size (.cells #[.int .i64 x.code, .int .i64 x.line, .int .i64 x.col, .string x.text] 25)
          refine (diagContains out _ _ _ (HS4.out.later hb2) x HMEM.out).mono ?_
          rintro e w6 ⟨rfl, hb6⟩
          have hb7 := hb2.trans (hb6.mono hb2.size)
          have HB7 := Lib.hid hb7
          clear hb2 hb6 hb7
          go_wp2
          go_roundw
          case rel => exact ⟨k + 1, by go_num, by omega, HB7.out⟩
          case measure => simp [intOf]; omega
        · have kz : ¬ (k : Int) < (l.length : Int) := by omega
          have hfin : (out.length : Int) ≤ (l.length : Int) := by omega
          have HBW := Lib.hid hBW
          clear hBW hb
          go_wp2
          go_ret
          exact ⟨rfl, HBW.out⟩

theorem own : ownKnob Try.prog.godebug = none := by kernel_rfl
theorem laid : laidOutB Try.prog = true := by kernel_rfl

set_option maxRecDepth 100000 in
theorem lifted (os : Os) (started : os.Started) (H : Type) (enc : TypeId × Value → H) :
    ReturnsInHanded {} Try.checked os 3 .any (Rows.scopeSortedSpec.pre6 enc Try.prog Try.f3 Rows.scopeSortedRow.domain false) (Rows.scopeSortedSpec.post enc Try.prog Try.f3 false true false false) := by
  refine returnsInHanded_of_change_sized (C := Try.checked) own started (by kernel_rfl) Try.func3
    (ChangeSpec.witness6 (enc := enc) (C := Try.checked) false ⟨#[], #[.slice none 0 0], []⟩ 8 (by kernel_rfl) (by kernel_rfl) (by kernel_rfl) (by kernel_rfl)) ?_
  intro W base args ds gs before hval0 hW hcnd hsz0 _
  have hval : ∀ (j : Nat) t v, Try.f3.params[j]? = some t → args[j]? = some v → Value.okWide Try.prog W .any base t v := hval0
  have hW' := hW
  obtain ⟨p, q, hA0, hV, hbef, hfz, hnd⟩ := hW
  have hA : DataW.TrodAll enc Try.prog W 0 (fun _ => true) true Try.f3.params.toList args.toList ds p := hA0
  have hsz : (DataW.weightsEach Try.prog (Try.f3.params.toList ++ Rows.scopeSortedSpec.plain.varTypes Try.prog) (ds ++ gs)).all (· ≤ reachBytes) = true := hsz0
  rw [Try.params3] at hA hval hsz
  obtain ⟨v0, vs0, d0, ds0, p0, q0, hargs, hds, rfl, h0, r0⟩ := trodAll_cons hA
  obtain ⟨rfl, rfl, rfl⟩ := trodAll_nil r0
  obtain rfl : args = #[v0] := by cases args; simp_all
  obtain ⟨rfl, _⟩ := trodVars_none hV
  subst hds
  obtain ⟨a0, s0, b0⟩ := sl_of_arg_sized (f := Diag.d) (k := 4) Try.underlying22 (by kernel_rfl) (by decide) (fun _ _ _ h => Diag.of_trod h) (hval 0 22 v0 rfl rfl) h0 (weight_at hsz (j := 0) rfl rfl)
  rw [show Try.prog.bytesOf 25 = 40 from by kernel_rfl] at b0
  refine (walk a0 v0 W s0 b0).mono fun e W' ⟨he, hb⟩ => ?_
  subst he
  exact ⟨_, rfl, law_post laid (by kernel_rfl) rfl Try.underlying4 rfl rfl rfl rfl hW' hb⟩

theorem over : Rows.scopeSortedRow.holds Try.pinned (OpenSpec.ofChange Rows.scopeSortedSpec) :=
  OpenClaim.holds_of_wide 3 Try.f3 rfl rfl rfl rfl rfl rfl rfl ⟨rfl, rfl, rfl, rfl, rfl⟩ rfl rfl rfl rfl rfl (by kernel_rfl) Try.func3 (by kernel_rfl)
    (of_decide_eq_true (by kernel_rfl)) (by unfold Func.isWrapper; first | (rw [if_pos (by decide +kernel)]; kernel_rfl) | (rw [if_neg (by decide +kernel)]; exact ⟨rfl, rfl⟩))
    (fun os started H enc _ => lifted os started H enc)

theorem proved : Rows.ScopeSortedSaid :=
  over
#print axioms proved
end Go.Proofs.Ytjofndhbpglfgaa.scopeSorted
