/- ClassesSupers. -/
import Derived.Test.YtdljlpogljjldaaDoorCList
import Derived.Test.YtdljlpogljjldaaDoorCPrvW
import Derived.Test.YtdljlpogljjldaaDoorWithin
import Derived.Test.YtdljlpogljjldaaDoorHanded
import Derived.Lib.LaidTab
import Derived.LaidSub
namespace Go.Proofs.YtdljlpogljjldaaDoor.classesSupers
open Go.RowKit Go.Shelf Go.ChangeShapes Go.WideShapes Go.Sort Go.Proofs.YtdljlpogljjldaaDoor

def supChk (n h w : Nat) : Bool := match superP (clsList n) (nm w) (n + 1) (nm h) (.mk 0 0 []) [] with
  | some (some _, _) => decide (w ≤ h)
  | some (none, _) => decide (h < w)
  | none => false
def allChk : Bool := (List.range 8).all fun m => (instC (clsList (m + 1)) [] == 0) && (List.range (m + 1)).all fun h => (findC (clsList (m + 1)) (nm h)).isSome && (List.range (m + 1)).all fun w => supChk (m + 1) h w
theorem allChk_ok : allChk = true := by kernel_rfl
theorem sameB_self (t : Ty) : sameB t t = true := eqT_refl _
theorem clsList_len (n : Nat) : (clsList n).length = n := by simp [clsList]
/-- The plain law of ClassesSupers. -/
theorem sup_law (n h w : Nat) (h1 : 1 ≤ n) (h8 : n ≤ 8) (hh : h < n) (hw : w < n) (t : Ty) (hc : (chk t 4096 false 1).1 = 0) :
    ∃ p r, entailS (clsList n) [] [⟨nm h, t⟩] ⟨nm w, t⟩ (n + 1) 402 = some (p, r) ∧ (h < w → r = 11) ∧ (w ≤ h → r = 0) := by
  obtain ⟨m, rfl⟩ : ∃ m, n = m + 1 := ⟨n - 1, by omega⟩
  have hall := List.all_eq_true.1 (show allChk = true from allChk_ok) m (List.mem_range.2 (by omega))
  simp only [Bool.and_eq_true, beq_iff_eq, List.all_eq_true, List.mem_range] at hall
  obtain ⟨hi, hx⟩ := hall
  have hf := (hx h hh).1
  have hf2 := (hx w hw).1
  have hs := (hx h hh).2 w hw
  have hg : givenErr (clsList (m + 1)) ([⟨nm h, t⟩] ++ [⟨nm w, t⟩]) = 0 := givenErr_zero (fun x hx => by
    have : x = ⟨nm h, t⟩ ∨ x = ⟨nm w, t⟩ := by simpa using hx
    rcases this with rfl | rfl
    · exact ⟨hf, hc⟩
    · exact ⟨hf2, hc⟩)
  rw [entailS, hi, if_neg (by decide), if_neg (by simp), hg, if_neg (by decide), entailP, if_neg (by decide), givenP, if_pos (sameB_self t)]
  unfold supChk at hs
  cases hr : superP (clsList (m + 1)) (nm w) (m + 1 + 1) (nm h) (.mk 0 0 []) [] with
  | none => rw [hr] at hs; cases hs
  | some x =>
    obtain ⟨o, seen⟩ := x
    rw [hr] at hs
    cases o with
    | some p => exact ⟨p, 0, rfl, fun h2 => by have := of_decide_eq_true hs; omega, fun _ => rfl⟩
    | none =>
      refine ⟨zPf, 11, ?_, fun _ => rfl, fun h2 => by have := of_decide_eq_true hs; omega⟩
      simp [givenP, instanceP]
def c1P : Pred := ⟨⟨#[67, 49]⟩, numT⟩
def c0P : Pred := ⟨⟨#[67, 48]⟩, numT⟩
def p0 : Pf := .mk 1 0 [.mk 0 0 []]
theorem first_ent : entailS (clsList 2) [] [c1P] c0P 3 402 = some (p0, 0) := by kernel_rfl
theorem pr_one {W : World} {F : Nat → Prop} {g : Nat} {p : Pred} {v : Value} (hF : F g) (hc : p.cls.size ≤ maxLen) (hT : TyC W F p.ty v) (hb : Blk W g 35 [.string p.cls, .int .i64 p.ty.kind, .string p.ty.name, .int .i64 p.ty.var, v]) : Sl W F Pred.d [p] (.slice (some ⟨g, 0, none⟩) 1 1) := by
  have h2 : RpAll W F ([p].map Pred.d) [.string p.cls, .int .i64 p.ty.kind, .string p.ty.name, .int .i64 p.ty.var, v] := RpAll.one (Pred.rp.2 ⟨v, rfl, hc, hT⟩)
  unfold Sl
  simp only [Rp]
  refine ⟨_, 1, rfl, Nat.le_refl _, by unfold maxLen; omega, (fun h => nomatch h), fun _ => ⟨g, 0, _, rfl, hF, h2, fun j u hj => by rw [Nat.zero_add]; exact hb.cell hj⟩⟩
theorem name_world {K : Act → World → Prop} {a : Act} {w : World} (h : ∀ w', w' = w → K a w') : K a w := h w rfl
theorem blk_of_alloc {V w X : World} {t : TypeId} {cs : List Value} (h : w = X.alloc (.cells cs.toArray t)) (hk : Keeps (fun _ => False) V X) : Blk w X.heap.size t cs ∧ Keeps (fun _ => False) X w ∧ V.heap.size ≤ X.heap.size := by
  subst h
  exact ⟨Blk.new X t cs, (Keeps.refl _ _).alloc _, hk.size⟩
theorem blk_of_alloc_d {V w X : World} {t : TypeId} {cs : List Value} (h : w = (X.alloc (.cells cs.toArray t)).drew) (hk : Keeps (fun _ => False) V X) : Blk w X.heap.size t cs ∧ Keeps (fun _ => False) X w ∧ V.heap.size ≤ X.heap.size := by
  subst h
  exact ⟨(Blk.new X t cs).drew, ((Keeps.refl _ _).alloc _).drew, hk.size⟩
theorem pf_final {w w' : World} {g : Nat} {p : Pf} {v : Value} (h : PfC w (fun b => b ≠ g ∧ b < w.heap.size) p v) (hk : Keeps (· = g) w w') : PfC w' (fun b => b < w'.heap.size) p v :=
  (h.keeps hk (fun _ hi hx => hi.1 hx)).mono (fun _ hb => Nat.lt_of_lt_of_le hb.2 hk.size)
set_option maxRecDepth 100000 in
set_option maxHeartbeats 16000000 in
theorem walk (nI hI wI : Int) (t : Ty) (At : Option Addr) (ct : Nat) (W : World) (hT : TyC W (· < W.heap.size) t (.slice At t.args.length ct)) (hz : Szs W) :
    Calls Tryd.prog 3 #[.int .i64 nI, .int .i64 hI, .int .i64 wI, .agg #[.int .i64 t.kind, .string t.name, .int .i64 t.var, .slice At t.args.length ct]] W (fun e w' => e = .returned (.bool true) ∧ Below W.heap.size W w') := by
  obtain ⟨b7, hb7⟩ : ∃ b7, W.heap.size = b7 := ⟨_, rfl⟩
  obtain ⟨W0, hW0⟩ : ∃ W0, W.alloc (.cells #[.int .i64 t.kind, .string t.name, .int .i64 t.var, .slice At t.args.length ct] 24) = W0 := ⟨_, rfl⟩
  have hk0 : Keeps (fun _ => False) W W0 := by rw [← hW0]; exact (Keeps.refl _ _).alloc _
  have hB7 : Blk W0 b7 24 [.int .i64 t.kind, .string t.name, .int .i64 t.var, .slice At t.args.length ct] := by rw [← hW0, ← hb7]; exact Blk.new W _ [_, _, _, _]
  have HCl : Hid (Calls Tryd.prog 8 #[.int .i64 2] W0 (fun e w' => Keeps (fun _ => False) W0 w' ∧ ∃ u, e = .returned u ∧ Sl w' (fun b => b < w'.heap.size) ClassSig.d (clsList 2) u)) := by
    refine (classList_any 2 (by decide) W0).mono ?_
    rintro e w' ⟨h1, u, h2, h3⟩
    exact ⟨h1, u, h2, h3.mono (fun b hb => hb.2)⟩
  have HT := Lib.hid hT
  have HZ := Lib.hid hz
  have HK0 := Lib.hid hk0
  have HB7 := Lib.hid hB7
  have HW0 := Lib.hid hW0
  have HBn := Lib.hid hb7
  clear hT hz hk0 hB7 hW0 hb7
  go_enter Tryd.func3, Tryd.ntmps3
  go_upto_region 1 with (fail)
  rw [HW0.out, HBn.out]
  go_wp2_with fail
  with_reducible refine HCl.out.mono ?_
  rintro e w1 ⟨hk1, u, rfl, hsu⟩
  have HNum : Hid (Calls Tryd.prog 9 #[] w1 (fun e w' => e = .returned (.agg #[.int .i64 1, .string ⟨#[80, 114, 101, 108, 117, 100, 101, 46, 73, 110, 116]⟩, .int .i64 0, .slice none 0 0]) ∧ Keeps (fun _ => False) w1 w')) := num_any w1
  have HK1 := Lib.hid hk1
  have HSU := Lib.hid hsu
  clear hk1 hsu HCl
  go_wp2_with fail
  with_reducible refine HNum.out.mono ?_
  rintro e w2 ⟨rfl, hk2⟩
  obtain ⟨b19, hb19⟩ : ∃ b19, w2.heap.size = b19 := ⟨_, rfl⟩
  obtain ⟨W2, hW2⟩ : ∃ W2, w2.alloc (.cells #[.string ⟨#[67, 49]⟩, .int .i64 1, .string ⟨#[80, 114, 101, 108, 117, 100, 101, 46, 73, 110, 116]⟩, .int .i64 0, .slice none 0 0] 35) = W2 := ⟨_, rfl⟩
  have hk22 : Keeps (fun _ => False) w1 W2 := by rw [← hW2]; exact hk2.alloc _
  have hB19 : Blk W2 b19 35 [.string ⟨#[67, 49]⟩, .int .i64 1, .string ⟨#[80, 114, 101, 108, 117, 100, 101, 46, 73, 110, 116]⟩, .int .i64 0, .slice none 0 0] := by rw [← hW2, ← hb19]; exact Blk.new w2 _ [_, _, _, _, _]
  have HNum2 : Hid (Calls Tryd.prog 9 #[] W2 (fun e w' => e = .returned (.agg #[.int .i64 1, .string ⟨#[80, 114, 101, 108, 117, 100, 101, 46, 73, 110, 116]⟩, .int .i64 0, .slice none 0 0]) ∧ Keeps (fun _ => False) W2 w')) := num_any W2
  have HK22 := Lib.hid hk22
  have HB19 := Lib.hid hB19
  have HW2 := Lib.hid hW2
  have HBn19 := Lib.hid hb19
  clear hk2 hk22 hB19 hW2 hb19 HNum
  go_wp2_with fail
  rw [HW2.out, HBn19.out]
  with_reducible refine HNum2.out.mono ?_
  rintro e w3 ⟨rfl, hk3⟩
  have hk13 := HK22.out.trans hk3 (fun _ _ h => h)
  have hk03 := HK1.out.trans hk13 (fun _ _ h => h)
  have hkW := HK0.out.trans hk03 (fun _ _ h => h)
  have hs13 := hk13.size
  have hb3 := HB19.out.keeps hk3 (fun h => h)
  have HEn0 : Hid (Calls Tryd.prog 7 #[u, .slice none 0 0, .slice (some ⟨b19, 0, none⟩) 1 1, .agg #[.string ⟨#[67, 48]⟩, .int .i64 1, .string ⟨#[80, 114, 101, 108, 117, 100, 101, 46, 73, 110, 116]⟩, .int .i64 0, .slice none 0 0]] w3 (fun e w' => Keeps (fun _ => False) w3 w' ∧ ∃ A c, e = .returned (.tuple #[.agg #[.int .i64 1, .int .i64 0, .slice A 1 c], .int .i64 0]))) := by
    refine (Entail_any (clsList 2) [] [c1P] c0P 3 402 (fun x hx => by cases hx) u (.slice none 0 0) _ (fun b => b < w3.heap.size) w3 none 0 ((HSU.out.keeps hk13 (fun _ _ h => h)).mono (fun b hb => by omega)) Sl.nil_ (pr_one (p := c1P) hb3.lt (by decide) num_ok hb3) (fun b hb => hb) num_ok (by decide) (HZ.out.keeps hkW (fun h => h)) p0 0 first_ent).mono ?_
    rintro e w' ⟨h1, A, c, h2, _⟩
    exact ⟨h1, _, _, h2⟩
  have HK03 := Lib.hid hk03
  clear hk3 hk13 hk03 hkW hs13 hb3 HNum2
  go_wp2_with fail
  with_reducible refine HEn0.out.mono ?_
  rintro e w4 ⟨hk4, A4, c4, rfl⟩
  obtain ⟨W4, hW4⟩ : ∃ W4, w4.alloc (.cells #[.int .i64 1, .int .i64 0, .slice A4 1 c4] 27) = W4 := ⟨_, rfl⟩
  obtain ⟨b9, hb9⟩ : ∃ b9, w4.heap.size = b9 := ⟨_, rfl⟩
  have hk04 : Keeps (fun _ => False) W0 W4 := by rw [← hW4]; exact (HK03.out.trans hk4 (fun _ _ h => h)).alloc _
  have hB9 : Blk W4 b9 27 [.int .i64 1, .int .i64 0, .slice A4 1 c4] := by rw [← hW4, ← hb9]; exact Blk.new w4 _ [_, _, _]
  have y0 := hB9.cell (i := 0) rfl
  have HK04 := Lib.hid hk04
  have HW4 := Lib.hid hW4
  have HBn9 := Lib.hid hb9
  clear hk4 hk04 hB9 hW4 hb9 HEn0 HK03 HK1 HK22 HSU HB19
  go_upto_region 2 with (fail)
  rw [HW4.out, HBn9.out]
  obtain ⟨n, hn⟩ : ∃ n : Nat, withinI nI 1 8 = (n : Int) := ⟨(withinI nI 1 8).toNat, by have := withinI_lo nI 1 8 (by decide); omega⟩
  have hn1 : 1 ≤ n := by have := withinI_lo nI 1 8 (by decide); omega
  have hn8 : n ≤ 8 := by have := withinI_hi nI 1 8 (by decide); omega
  obtain ⟨h, hh⟩ : ∃ h : Nat, withinI hI 0 ((n : Int) - 1) = (h : Int) := ⟨(withinI hI 0 ((n : Int) - 1)).toNat, by have := withinI_lo hI 0 ((n : Int) - 1) (by omega); omega⟩
  have hhn : h < n := by have := withinI_hi hI 0 ((n : Int) - 1) (by omega); omega
  obtain ⟨w, hw⟩ : ∃ w : Nat, withinI wI 0 ((n : Int) - 1) = (w : Int) := ⟨(withinI wI 0 ((n : Int) - 1)).toNat, by have := withinI_lo wI 0 ((n : Int) - 1) (by omega); omega⟩
  have hwn : w < n := by have := withinI_hi wI 0 ((n : Int) - 1) (by omega); omega
  have HW1 : Hid (∀ X, Calls Tryd.prog 10 #[.int .i64 nI, .int .i64 1, .int .i64 8] X fun e w' => e = .returned (.int .i64 (n : Int)) ∧ X = w') := fun X => by
    rw [← hn]; exact within_any nI 1 8 X (by decide) (by decide) (by decide) (by decide)
  have HW2' : Hid (∀ X, Calls Tryd.prog 10 #[.int .i64 hI, .int .i64 0, .int .i64 ((n : Int) - 1)] X fun e w' => e = .returned (.int .i64 (h : Int)) ∧ X = w') := fun X => by
    rw [← hh]; exact within_any hI 0 ((n : Int) - 1) X (by decide) (by omega) (by omega) (by omega)
  have HW3 : Hid (∀ X, Calls Tryd.prog 10 #[.int .i64 wI, .int .i64 0, .int .i64 ((n : Int) - 1)] X fun e w' => e = .returned (.int .i64 (w : Int)) ∧ X = w') := fun X => by
    rw [← hw]; exact within_any wI 0 ((n : Int) - 1) X (by decide) (by omega) (by omega) (by omega)
  clear hn hh hw
  have hni1 : (1 : Int) ≤ (n : Int) := by omega
  have hni8 : (n : Int) ≤ 8 := by omega
  obtain ⟨ce, hce⟩ : ∃ ce, (chk t 4096 false 1).1 = ce := ⟨_, rfl⟩
  have hx7 := HB7.out.keeps HK04.out (fun h => h)
  have x0 := hx7.cell (i := 0) rfl
  have x1 := hx7.cell (i := 1) rfl
  have x2 := hx7.cell (i := 2) rfl
  have x3 := hx7.cell (i := 3) rfl
  have HCk : Hid (Calls Tryd.prog 11 #[.agg #[.int .i64 t.kind, .string t.name, .int .i64 t.var, .slice At t.args.length ct]] W4 (fun e w' => e = .returned (.int .i64 ce) ∧ Keeps (fun _ => False) W4 w')) := by
    have hkX := HK0.out.trans HK04.out (fun _ _ h => h)
    have hsz := hkX.size
    have hx := check_any t W4 (fun b => b < W4.heap.size) _ ((HT.out.keeps hkX (fun _ _ h => h)).mono (fun b hb => by have h1 : b < W.heap.size := hb; omega)) (fun _ h => h) (HZ.out.keeps hkX (fun h => h))
    unfold tyV at hx
    refine hx.mono ?_
    rintro e w' ⟨he, hb⟩
    exact ⟨by rw [he, hce], Keeps.of_below (X := fun _ => False) hb⟩
  have HCe := Lib.hid hce
  clear hce hx7
  go_wp2_with fail
  with_reducible refine (HW1.out _).mono ?_
  rintro e w' ⟨rfl, rfl⟩
  go_wp2_with fail
  with_reducible refine (HW2'.out _).mono ?_
  rintro e w' ⟨rfl, rfl⟩
  go_wp2_with fail
  with_reducible refine (HW3.out _).mono ?_
  rintro e w' ⟨rfl, rfl⟩
  go_wp2_with fail
  with_reducible refine HCk.out.mono ?_
  rintro e w5 ⟨rfl, hk5⟩
  have HK05 := Lib.hid (HK04.out.trans hk5 (fun _ _ h => h))
  clear hk5 x0 x1 x2 x3 y0 HW1 HW2' HW3
  by_cases hc0 : ce = 0
  case neg =>
    have hb1 : (ce != 0) = true := by simpa using hc0
    clear hc0
    go_wp2_with fail
    go_ret
    exact ⟨rfl, (HK0.out.trans HK05.out (fun _ _ h => h)).below (fun _ h => h.elim) (Nat.le_refl _)⟩
  have hb1 : (ce != 0) = false := by simpa using hc0
  subst hc0
  have HCl8 : Hid (Calls Tryd.prog 8 #[.int .i64 (n : Int)] w5 (fun e w' => Keeps (fun _ => False) w5 w' ∧ ∃ A q, e = .returned (.slice A n q) ∧ Sl w' (fun b => b < w'.heap.size) ClassSig.d (clsList n) (.slice A n q))) := by
    refine (classList_any n hn8 w5).mono ?_
    rintro e w' ⟨h1, u, h2, h3⟩
    obtain ⟨A, q, rfl, _⟩ := h3.form
    rw [clsList_len] at h2 h3
    exact ⟨h1, A, q, h2, h3.mono (fun b hb => hb.2)⟩
  go_wp2_with fail
  with_reducible refine HCl8.out.mono ?_
  rintro e w6 ⟨hk6, A6, q6, rfl, hsl⟩
  have hk06 := HK05.out.trans hk6 (fun _ _ h => h)
  have hkW := HK0.out.trans hk06 (fun _ _ h => h)
  have hsW := hkW.size
  obtain ⟨g6, off6, v1, v2, hadr, hg6, e0, _, _, _, _⟩ := ClassSig.get hsl (i := h) (by rw [clsList_len]; exact hhn)
  obtain ⟨g6', off6', v1', v2', hadr', hg6', e0', _, _, _, _⟩ := ClassSig.get hsl (i := w) (by rw [clsList_len]; exact hwn)
  obtain rfl := hadr
  simp only [Option.some.injEq, Addr.mk.injEq, and_true] at hadr'
  obtain ⟨rfl, rfl⟩ := hadr'
  have hnm : ∀ (i : Nat) (hi : i < (clsList n).length), (clsList n)[i].name = nm i := fun i hi => by simp [clsList, clsAt]
  rw [hnm] at e0 e0'
  have hx7 := HB7.out.keeps hk06 (fun h => h)
  have HQ9 : Hid (∀ X, Keeps (fun _ => False) w6 X → (X.cell? ⟨g6, off6 + h * 3, none⟩ = some (.string (nm h)) ∧ X.cell? ⟨g6, off6 + w * 3, none⟩ = some (.string (nm w)) ∧ X.cell? ⟨b7, 0, none⟩ = some (.int .i64 t.kind) ∧ X.cell? ⟨b7, 1, none⟩ = some (.string t.name) ∧ X.cell? ⟨b7, 2, none⟩ = some (.int .i64 t.var) ∧ X.cell? ⟨b7, 3, none⟩ = some (.slice At t.args.length ct))) := fun X hk => by
    have hx := hx7.keeps hk (fun h => h)
    exact ⟨hk.cell e0 (fun h => h), hk.cell e0' (fun h => h), hx.cell (i := 0) rfl, hx.cell (i := 1) rfl, hx.cell (i := 2) rfl, hx.cell (i := 3) rfl⟩
  have HK6W := Lib.hid hkW
  have HTw := Lib.hid ((HT.out.keeps hkW (fun _ _ h => h)).mono (G := fun b => b < w6.heap.size) (fun b hb => by have h1 : b < W.heap.size := hb; omega))
  have HZ6 := Lib.hid (HZ.out.keeps hkW (fun h => h))
  have HSL := Lib.hid hsl
  have HNL : Hid ((nm h).size ≤ maxLen ∧ (nm w).size ≤ maxLen) := ⟨nm_len (by omega), nm_len (by omega)⟩
  have hhi : (h : Int) < (n : Int) := by omega
  have hwi : (w : Int) < (n : Int) := by omega
  have hh0 : (0 : Int) ≤ (h : Int) := by omega
  have hw0 : (0 : Int) ≤ (w : Int) := by omega
  clear hk6 hk06 hkW hsW hsl hnm hx7 HCl8 e0 e0' HCk
  go_upto_region 9 with (fail)
  go_cut [12] (fun v12 wd => ∃ g12, v12 = .slice (some ⟨g12, 0, none⟩) 1 1 ∧ Blk wd g12 35 [.string (nm h), .int .i64 t.kind, .string t.name, .int .i64 t.var, .slice At t.args.length ct] ∧ Keeps (fun _ => False) w6 wd)
  case first =>
    refine wp_region_noPanic ?_
    refine wp_region_till [] (fun X => X.cell? ⟨g6, off6 + h * 3, none⟩ = some (.string (nm h)) ∧ X.cell? ⟨g6, off6 + w * 3, none⟩ = some (.string (nm w)) ∧ X.cell? ⟨b7, 0, none⟩ = some (.int .i64 t.kind) ∧ X.cell? ⟨b7, 1, none⟩ = some (.string t.name) ∧ X.cell? ⟨b7, 2, none⟩ = some (.int .i64 t.var) ∧ X.cell? ⟨b7, 3, none⟩ = some (.slice At t.args.length ct)) (by kernel_rfl) ?_ (fun hE => ?_)
    · exact HQ9.out _ (by repeat (first | (with_reducible exact Keeps.refl _ _) | (with_reducible refine Keeps.drew ?_) | (with_reducible refine Keeps.drewN ?_ _) | (with_reducible refine Keeps.trans ?_ (by assumption) (fun _ _ h => h))))
    have hS := hE (by kernel_rfl)
    refine wpAnyT_pure (i := 0) (oi := { dst := some 47, op := Op.move (Operand.tmp 11), type := 31, pos := "types.go:675", after := #[], guard := none }) (v := ?v9_0_1) rfl (by kernel_rfl) (fun _ _ _ h => h) (Or.inl ⟨by rfl, ?y9_0_1⟩) (fun _ => hS) ?_
    case y9_0_1 => (intro w hSw; go_simp; try with_reducible rfl)
    try simp only [Act.put, List.setIfInBounds_toArray, List.set_cons_zero, List.set_cons_succ]
    refine wpAnyT_pure (i := 1) (oi := { dst := some 48, op := Op.move (Operand.tmp 1), type := 3, pos := "types.go:675", after := #[], guard := none }) (v := ?v9_1_2) rfl (by kernel_rfl) (fun _ _ _ h => h) (Or.inl ⟨by rfl, ?y9_1_2⟩) (fun _ => hS) ?_
    case y9_1_2 => (intro w hSw; go_simp; try with_reducible rfl)
    try simp only [Act.put, List.setIfInBounds_toArray, List.set_cons_zero, List.set_cons_succ]
    refine wpAnyT_pure (i := 2) (oi := { dst := some 49, op := Op.indexAddr 31 (Operand.tmp 47) (Operand.tmp 48), type := 0, pos := "types.go:675", after := #[⟨0, .data⟩, ⟨1, .data⟩], guard := none }) (v := ?v9_2_3) rfl (by kernel_rfl) (fun _ _ _ h => h) (Or.inl ⟨by rfl, ?y9_2_3⟩) (fun _ => hS) ?_
    case y9_2_3 => (intro w hSw; go_simp; try with_reducible rfl)
    try simp only [Act.put, List.setIfInBounds_toArray, List.set_cons_zero, List.set_cons_succ]
    refine wpAnyT_pure (i := 3) (oi := { dst := some 50, op := Op.fieldAddr 42 (Operand.tmp 49) 0, type := 0, pos := "types.go:675", after := #[⟨2, .data⟩], guard := none }) (v := ?v9_3_4) rfl (by kernel_rfl) (fun _ _ _ h => h) (Or.inl ⟨by rfl, ?y9_3_4⟩) (fun _ => hS) ?_
    case y9_3_4 => (intro w hSw; go_simp; try with_reducible rfl)
    try simp only [Act.put, List.setIfInBounds_toArray, List.set_cons_zero, List.set_cons_succ]
    refine wpAnyT_take (i := 4) (oi := { dst := some 51, op := Op.load 9 (Operand.tmp 50), type := 9, pos := "types.go:675", after := #[⟨3, .data⟩], guard := none }) (v := ?v9_4_5) rfl (by kernel_rfl) (fun _ _ _ h => h) (Or.inl ⟨by rfl, ?y9_4_5⟩) hS ?_
    case y9_4_5 => (intro w hSw; (try dsimp only at hSw); go_simp; try with_reducible rfl)
    try simp only [Act.put, List.setIfInBounds_toArray, List.set_cons_zero, List.set_cons_succ]
    refine wpAnyT_take (i := 5) (oi := { dst := some 52, op := Op.load 24 (Operand.tmp 7), type := 24, pos := "types.go:675", after := #[], guard := none }) (v := ?v9_5_6) rfl (by kernel_rfl) (fun _ _ _ h => h) (Or.inl ⟨by rfl, ?y9_5_6⟩) hS ?_
    case y9_5_6 => (intro w hSw; (try dsimp only at hSw); go_simp; try with_reducible rfl)
    try simp only [Act.put, List.setIfInBounds_toArray, List.set_cons_zero, List.set_cons_succ]
    refine wpAnyT_pure (i := 6) (oi := { dst := some 53, op := Op.build 35 #[(0, Operand.tmp 51), (1, Operand.tmp 52)], type := 35, pos := "types.go:675", after := #[⟨4, .data⟩, ⟨5, .data⟩], guard := none }) (v := ?v9_6_7) rfl (by kernel_rfl) (fun _ _ _ h => h) (Or.inl ⟨by rfl, ?y9_6_7⟩) (fun _ => hS) ?_
    case y9_6_7 => (intro w hSw; go_simp; try with_reducible rfl)
    try simp only [Act.put, List.setIfInBounds_toArray, List.set_cons_zero, List.set_cons_succ]
    refine wpAnyT_ready (rs := [7]) (by kernel_rfl) rfl ?_
    refine AllT.cons (o := { dst := some 54, op := Op.buildSlice 36 1 #[(0, Operand.tmp 53)], type := 36, pos := "types.go:675", after := #[⟨6, .data⟩], guard := none }) rfl (fun K hK => ?_) ?_
    · (go_simp; refine name_world ?_; intro w7 hw7; (first | (obtain ⟨hB7', hk7, _⟩ := blk_of_alloc (V := w6) (cs := [.string (nm h), .int .i64 t.kind, .string t.name, .int .i64 t.var, .slice At t.args.length ct]) hw7 (by repeat (first | (with_reducible exact Keeps.refl _ _) | (with_reducible refine Keeps.drew ?_) | (with_reducible refine Keeps.drewN ?_ _) | (with_reducible refine Keeps.trans ?_ (by assumption) (fun _ _ h => h))))) | (obtain ⟨hB7', hk7, _⟩ := blk_of_alloc_d (V := w6) (cs := [.string (nm h), .int .i64 t.kind, .string t.name, .int .i64 t.var, .slice At t.args.length ct]) hw7 (by repeat (first | (with_reducible exact Keeps.refl _ _) | (with_reducible refine Keeps.drew ?_) | (with_reducible refine Keeps.drewN ?_ _) | (with_reducible refine Keeps.trans ?_ (by assumption) (fun _ _ h => h)))))); clear hw7)
      refine hK.out _ _ (fun _ => ?_) (fun hE => ?_)
      · exact HQ9.out _ (by repeat (first | (with_reducible exact Keeps.refl _ _) | (with_reducible refine Keeps.drew ?_) | (with_reducible refine Keeps.drewN ?_ _) | (with_reducible refine Keeps.trans ?_ (by assumption) (fun _ _ h => h))))
      have hS := hE (by kernel_rfl)
      clear hK K hE
      try simp only [Act.put, List.setIfInBounds_toArray, List.set_cons_zero, List.set_cons_succ]
      refine wpAnyT_ready (rs := [8]) (by kernel_rfl) rfl ?_
      refine AllT.cons (o := { dst := some 12, op := Op.assign (Operand.tmp 54), type := 36, pos := "types.go:675", after := #[⟨7, .data⟩, ⟨0, .phase⟩, ⟨1, .phase⟩, ⟨2, .phase⟩, ⟨3, .phase⟩, ⟨4, .phase⟩, ⟨5, .phase⟩, ⟨6, .phase⟩, ⟨7, .phase⟩], guard := none }) rfl (fun K hK => ?_) ?_
      · go_simp
        refine hK.out _ _ (fun _ => ?_) (fun hE => ?_)
        · exact HQ9.out _ (by repeat (first | (with_reducible exact Keeps.refl _ _) | (with_reducible refine Keeps.drew ?_) | (with_reducible refine Keeps.drewN ?_ _) | (with_reducible refine Keeps.trans ?_ (by assumption) (fun _ _ h => h))))
        have hS := hE (by kernel_rfl)
        clear hK K hE
        try simp only [Act.put, List.setIfInBounds_toArray, List.set_cons_zero, List.set_cons_succ]
        refine wpAnyT_done (by kernel_rfl) ?_ _
        refine NoPanic.normal ?_
        have HKF := Lib.hid (show Keeps (fun _ => False) w6 w7 from (by repeat (first | (with_reducible exact Keeps.refl _ _) | (with_reducible refine Keeps.drew ?_) | (with_reducible refine Keeps.drewN ?_ _) | (with_reducible refine Keeps.trans ?_ (by assumption) (fun _ _ h => h)))))
        have HB7' := Lib.hid hB7'
        go_wp2_with fail
        go_meet
        exact ⟨_, rfl, HB7'.out, HKF.out⟩
      exact AllT.nil
    exact AllT.nil
  case rest =>
    obtain ⟨g12, rfl, hB12, hk7⟩ := hcut
    obtain ⟨w9, hw9⟩ : ∃ w9, w9 = wc := ⟨_, rfl⟩
    rw [← hw9] at hB12 hk7 ⊢
    clear hw9
    obtain ⟨p, r, hent, hr11, hr0⟩ := sup_law n h w hn1 hn8 hhn hwn t HCe.out
    have hfit : Fits [] := fun x hx => by cases hx
    have hs7 := hk7.size
    have HQ10 : Hid (∀ X, Keeps (fun _ => False) w9 X → (X.cell? ⟨g6, off6 + h * 3, none⟩ = some (.string (nm h)) ∧ X.cell? ⟨g6, off6 + w * 3, none⟩ = some (.string (nm w)) ∧ X.cell? ⟨b7, 0, none⟩ = some (.int .i64 t.kind) ∧ X.cell? ⟨b7, 1, none⟩ = some (.string t.name) ∧ X.cell? ⟨b7, 2, none⟩ = some (.int .i64 t.var) ∧ X.cell? ⟨b7, 3, none⟩ = some (.slice At t.args.length ct))) := fun X hk => HQ9.out X (hk7.trans hk (fun _ _ h => h))
    have HEn2 : Hid (∀ X g, Keeps (fun _ => False) w9 X → g < X.heap.size → Calls Tryd.prog 7 #[.slice (some ⟨g6, off6, none⟩) n q6, .slice none 0 0, .slice (some ⟨g12, 0, none⟩) 1 1, .agg #[.string (nm w), .int .i64 t.kind, .string t.name, .int .i64 t.var, .slice At t.args.length ct]] X (fun e w' => Keeps (fun _ => False) X w' ∧ ∃ A c, e = .returned (.tuple #[.agg #[.int .i64 p.kind, .int .i64 p.num, .slice A p.subs.length c], .int .i64 r]) ∧ PfC w' (fun b => b ≠ g ∧ b < w'.heap.size) p (.slice A p.subs.length c))) := fun X g hk hg => by
      have hsz := hk.size
      have hkX := hk7.trans hk (fun _ _ h => h)
      have hT := (HTw.out.keeps hkX (fun _ _ h => h)).mono (G := fun b => b < X.heap.size) (fun b hb => by omega)
      have hbX := hB12.keeps hk (fun h => h)
      refine (Entail_any (clsList n) [] [⟨nm h, t⟩] ⟨nm w, t⟩ (n + 1) 402 hfit _ (.slice none 0 0) _ (fun b => b < X.heap.size) X At ct ((HSL.out.keeps hkX (fun _ _ h => h)).mono (fun b hb => by omega)) Sl.nil_ (pr_one (p := ⟨nm h, t⟩) hbX.lt HNL.out.1 hT hbX) (fun b hb => hb) hT HNL.out.2 (HZ6.out.keeps hkX (fun h => h)) p r hent).mono ?_
      rintro e w' ⟨h1, A, c, h2, h3⟩
      exact ⟨h1, A, c, h2, h3.mono (fun b hb => ⟨by omega, hb.2⟩)⟩
    have HB12 := Lib.hid hB12
    have HK7 := Lib.hid hk7
    have HEnt := Lib.hid hent
    have HR11 := Lib.hid hr11
    have HR0 := Lib.hid hr0
    have HFit := Lib.hid hfit
    have h0W : Hid (b7 < w9.heap.size) := by
      have h1 := HB7.out.lt
      have h2 := HK05.out.size
      have h3 := HK6W.out.size
      have h4 := HBn.out
      have h5 := HK0.out.size
      show _ < _
      exact Nat.lt_of_lt_of_le (HB12.out.lt) (Nat.le_refl _) |> fun _ => by
        have h6 := hs7
        have h7 := (HQ10.out w9 (Keeps.refl _ _)).2.2.1
        exact block_lt_of_cell h7
    clear hB12 hk7 hs7 hent hr11 hr0 hfit
    go_upto_region 10 with (fail)
    go_cut [13, 14] (fun v13 v14 wd => ∃ g A2 c2, v13 = .pointer (some ⟨g, 0, none⟩) ∧ v14 = .int .i64 r ∧ Blk wd g 27 [.int .i64 p.kind, .int .i64 p.num, .slice A2 p.subs.length c2] ∧ PfC wd (fun b => b < wd.heap.size) p (.slice A2 p.subs.length c2) ∧ Keeps (fun _ => False) w9 wd)
    case first =>
      refine wp_region_noPanic ?_
      refine wp_region_till [14] (fun X => X.cell? ⟨g6, off6 + h * 3, none⟩ = some (.string (nm h)) ∧ X.cell? ⟨g6, off6 + w * 3, none⟩ = some (.string (nm w)) ∧ X.cell? ⟨b7, 0, none⟩ = some (.int .i64 t.kind) ∧ X.cell? ⟨b7, 1, none⟩ = some (.string t.name) ∧ X.cell? ⟨b7, 2, none⟩ = some (.int .i64 t.var) ∧ X.cell? ⟨b7, 3, none⟩ = some (.slice At t.args.length ct)) (by kernel_rfl) ?_ (fun hE => ?_)
      · exact HQ10.out _ (by repeat (first | (with_reducible exact Keeps.refl _ _) | (with_reducible refine Keeps.drew ?_) | (with_reducible refine Keeps.drewN ?_ _) | (with_reducible refine Keeps.trans ?_ (by assumption) (fun _ _ h => h))))
      have hS := hE (by kernel_rfl)
      refine wpAnyT_pure (i := 0) (oi := { dst := some 56, op := Op.move (Operand.tmp 11), type := 31, pos := "types.go:676", after := #[], guard := none }) (v := ?v10_0_1) rfl (by kernel_rfl) (fun _ _ _ h => h) (Or.inl ⟨by rfl, ?y10_0_1⟩) (fun _ => hS) ?_
      case y10_0_1 => (intro w hSw; go_simp; try with_reducible rfl)
      try simp only [Act.put, List.setIfInBounds_toArray, List.set_cons_zero, List.set_cons_succ]
      refine wpAnyT_pure (i := 1) (oi := { dst := some 57, op := Op.move (Operand.tmp 12), type := 36, pos := "types.go:676", after := #[], guard := none }) (v := ?v10_1_2) rfl (by kernel_rfl) (fun _ _ _ h => h) (Or.inl ⟨by rfl, ?y10_1_2⟩) (fun _ => hS) ?_
      case y10_1_2 => (intro w hSw; go_simp; try with_reducible rfl)
      try simp only [Act.put, List.setIfInBounds_toArray, List.set_cons_zero, List.set_cons_succ]
      refine wpAnyT_pure (i := 2) (oi := { dst := some 58, op := Op.move (Operand.tmp 11), type := 31, pos := "types.go:676", after := #[], guard := none }) (v := ?v10_2_3) rfl (by kernel_rfl) (fun _ _ _ h => h) (Or.inl ⟨by rfl, ?y10_2_3⟩) (fun _ => hS) ?_
      case y10_2_3 => (intro w hSw; go_simp; try with_reducible rfl)
      try simp only [Act.put, List.setIfInBounds_toArray, List.set_cons_zero, List.set_cons_succ]
      refine wpAnyT_pure (i := 3) (oi := { dst := some 59, op := Op.move (Operand.tmp 2), type := 3, pos := "types.go:676", after := #[], guard := none }) (v := ?v10_3_4) rfl (by kernel_rfl) (fun _ _ _ h => h) (Or.inl ⟨by rfl, ?y10_3_4⟩) (fun _ => hS) ?_
      case y10_3_4 => (intro w hSw; go_simp; try with_reducible rfl)
      try simp only [Act.put, List.setIfInBounds_toArray, List.set_cons_zero, List.set_cons_succ]
      refine wpAnyT_pure (i := 4) (oi := { dst := some 60, op := Op.indexAddr 31 (Operand.tmp 58) (Operand.tmp 59), type := 0, pos := "types.go:676", after := #[⟨2, .data⟩, ⟨3, .data⟩], guard := none }) (v := ?v10_4_5) rfl (by kernel_rfl) (fun _ _ _ h => h) (Or.inl ⟨by rfl, ?y10_4_5⟩) (fun _ => hS) ?_
      case y10_4_5 => (intro w hSw; go_simp; try with_reducible rfl)
      try simp only [Act.put, List.setIfInBounds_toArray, List.set_cons_zero, List.set_cons_succ]
      refine wpAnyT_pure (i := 5) (oi := { dst := some 61, op := Op.fieldAddr 42 (Operand.tmp 60) 0, type := 0, pos := "types.go:676", after := #[⟨4, .data⟩], guard := none }) (v := ?v10_5_6) rfl (by kernel_rfl) (fun _ _ _ h => h) (Or.inl ⟨by rfl, ?y10_5_6⟩) (fun _ => hS) ?_
      case y10_5_6 => (intro w hSw; go_simp; try with_reducible rfl)
      try simp only [Act.put, List.setIfInBounds_toArray, List.set_cons_zero, List.set_cons_succ]
      refine wpAnyT_take (i := 6) (oi := { dst := some 62, op := Op.load 9 (Operand.tmp 61), type := 9, pos := "types.go:676", after := #[⟨5, .data⟩], guard := none }) (v := ?v10_6_7) rfl (by kernel_rfl) (fun _ _ _ h => h) (Or.inl ⟨by rfl, ?y10_6_7⟩) hS ?_
      case y10_6_7 => (intro w hSw; (try dsimp only at hSw); go_simp; try with_reducible rfl)
      try simp only [Act.put, List.setIfInBounds_toArray, List.set_cons_zero, List.set_cons_succ]
      refine wpAnyT_take (i := 7) (oi := { dst := some 63, op := Op.load 24 (Operand.tmp 7), type := 24, pos := "types.go:676", after := #[], guard := none }) (v := ?v10_7_8) rfl (by kernel_rfl) (fun _ _ _ h => h) (Or.inl ⟨by rfl, ?y10_7_8⟩) hS ?_
      case y10_7_8 => (intro w hSw; (try dsimp only at hSw); go_simp; try with_reducible rfl)
      try simp only [Act.put, List.setIfInBounds_toArray, List.set_cons_zero, List.set_cons_succ]
      refine wpAnyT_pure (i := 8) (oi := { dst := some 64, op := Op.build 35 #[(0, Operand.tmp 62), (1, Operand.tmp 63)], type := 35, pos := "types.go:676", after := #[⟨6, .data⟩, ⟨7, .data⟩], guard := none }) (v := ?v10_8_9) rfl (by kernel_rfl) (fun _ _ _ h => h) (Or.inl ⟨by rfl, ?y10_8_9⟩) (fun _ => hS) ?_
      case y10_8_9 => (intro w hSw; go_simp; try with_reducible rfl)
      try simp only [Act.put, List.setIfInBounds_toArray, List.set_cons_zero, List.set_cons_succ]
      refine wpAnyT_ready (rs := [9, 13]) (by kernel_rfl) rfl ?_
      refine AllT.cons (o := { dst := some 65, op := Op.call { callee := Callee.value (Operand.func 7), args := #[Operand.tmp 56, Operand.const (Value.slice none 0 0), Operand.tmp 57, Operand.tmp 64], argTypes := #[31, 45, 36, 35] }, type := 29, pos := "types.go:676", after := #[⟨0, .data⟩, ⟨1, .data⟩, ⟨8, .data⟩], guard := none }) rfl (fun K hK => ?_) ?_
      · (go_simp; go_at_call 7; with_reducible refine (HEn2.out _ b7 (by repeat (first | (with_reducible exact Keeps.refl _ _) | (with_reducible refine Keeps.drew ?_) | (with_reducible refine Keeps.drewN ?_ _) | (with_reducible refine Keeps.trans ?_ (by assumption) (fun _ _ h => h)))) (Nat.lt_of_lt_of_le h0W.out (Keeps.size (show Keeps (fun _ => False) w9 _ from (by repeat (first | (with_reducible exact Keeps.refl _ _) | (with_reducible refine Keeps.drew ?_) | (with_reducible refine Keeps.drewN ?_ _) | (with_reducible refine Keeps.trans ?_ (by assumption) (fun _ _ h => h)))))))).mono ?_; rintro e w8 ⟨hk8, A8, c8, rfl, hp8⟩; go_wp2_with fail)
        refine hK.out _ _ (fun _ => ?_) (fun hE => ?_)
        · exact HQ10.out _ (by repeat (first | (with_reducible exact Keeps.refl _ _) | (with_reducible refine Keeps.drew ?_) | (with_reducible refine Keeps.drewN ?_ _) | (with_reducible refine Keeps.trans ?_ (by assumption) (fun _ _ h => h))))
        have hS := hE (by kernel_rfl)
        clear hK K hE
        try simp only [Act.put, List.setIfInBounds_toArray, List.set_cons_zero, List.set_cons_succ]
        refine wpAnyT_pure (i := 10) (oi := { dst := some 55, op := Op.move (Operand.tmp 65), type := 29, pos := "types.go:676", after := #[⟨9, .data⟩], guard := none }) (v := ?v10_10_10) rfl (by kernel_rfl) (fun _ _ _ h => h) (Or.inl ⟨by rfl, ?y10_10_10⟩) (fun _ => hS) ?_
        case y10_10_10 => (intro w hSw; go_simp; try with_reducible rfl)
        try simp only [Act.put, List.setIfInBounds_toArray, List.set_cons_zero, List.set_cons_succ]
        refine wpAnyT_pure (i := 11) (oi := { dst := some 66, op := Op.extract (Operand.tmp 55) 0, type := 27, pos := "types.go:676", after := #[⟨10, .data⟩], guard := none }) (v := ?v10_11_11) rfl (by kernel_rfl) (fun _ _ _ h => h) (Or.inl ⟨by rfl, ?y10_11_11⟩) (fun _ => hS) ?_
        case y10_11_11 => (intro w hSw; go_simp; try with_reducible rfl)
        try simp only [Act.put, List.setIfInBounds_toArray, List.set_cons_zero, List.set_cons_succ]
        refine wpAnyT_pure (i := 12) (oi := { dst := some 67, op := Op.extract (Operand.tmp 55) 1, type := 28, pos := "types.go:676", after := #[⟨10, .data⟩, ⟨14, .gcOnly .lateStores⟩], guard := none }) (v := ?v10_12_12) rfl (by kernel_rfl) (fun _ _ _ h => h) (Or.inl ⟨by rfl, ?y10_12_12⟩) (fun _ => hS) ?_
        case y10_12_12 => (intro w hSw; go_simp; try with_reducible rfl)
        try simp only [Act.put, List.setIfInBounds_toArray, List.set_cons_zero, List.set_cons_succ]
        refine wpAnyT_ready (rs := [13]) (by kernel_rfl) rfl ?_
        refine AllT.cons (o := { dst := some 13, op := Op.alloc 27, type := 0, pos := "types.go:676", after := #[], guard := none }) rfl (fun K hK => ?_) ?_
        · (go_simp; refine name_world ?_; intro wA hwA; (first | (obtain ⟨hBA, hkA, hgA⟩ := blk_of_alloc (V := w9) (cs := [.int .i64 0, .int .i64 0, .slice none 0 0]) hwA (by repeat (first | (with_reducible exact Keeps.refl _ _) | (with_reducible refine Keeps.drew ?_) | (with_reducible refine Keeps.drewN ?_ _) | (with_reducible refine Keeps.trans ?_ (by assumption) (fun _ _ h => h))))) | (obtain ⟨hBA, hkA, hgA⟩ := blk_of_alloc_d (V := w9) (cs := [.int .i64 0, .int .i64 0, .slice none 0 0]) hwA (by repeat (first | (with_reducible exact Keeps.refl _ _) | (with_reducible refine Keeps.drew ?_) | (with_reducible refine Keeps.drewN ?_ _) | (with_reducible refine Keeps.trans ?_ (by assumption) (fun _ _ h => h)))))); clear hwA)
          refine hK.out _ _ (fun _ => ?_) (fun hE => ?_)
          · exact HQ10.out _ (by repeat (first | (with_reducible exact Keeps.refl _ _) | (with_reducible refine Keeps.drew ?_) | (with_reducible refine Keeps.drewN ?_ _) | (with_reducible refine Keeps.trans ?_ (by assumption) (fun _ _ h => h))))
          have hS := hE (by kernel_rfl)
          clear hK K hE
          try simp only [Act.put, List.setIfInBounds_toArray, List.set_cons_zero, List.set_cons_succ]
          refine wpAnyT_ready (rs := [14]) (by kernel_rfl) rfl ?_
          refine AllT.cons (o := { dst := none, op := Op.store 27 (Operand.tmp 13) (Operand.tmp 66), type := 0, pos := "types.go:676", after := #[⟨13, .data⟩, ⟨11, .data⟩, ⟨9, .chain⟩, ⟨0, .phase⟩, ⟨1, .phase⟩, ⟨2, .phase⟩, ⟨3, .phase⟩, ⟨4, .phase⟩, ⟨5, .phase⟩, ⟨6, .phase⟩, ⟨7, .phase⟩, ⟨8, .phase⟩, ⟨9, .phase⟩, ⟨10, .phase⟩, ⟨11, .phase⟩, ⟨12, .textOnly .lateStores⟩, ⟨13, .phase⟩], guard := none }) rfl (fun K hK => ?_) ?_
          · (have r0 := hBA.cell (i := 0) rfl; have r1 := hBA.cell (i := 1) rfl; have r2 := hBA.cell (i := 2) rfl; have f0 := hBA.free 0; have f1 := hBA.free 1; have f2 := hBA.free 2; have hlA := hBA.lt; go_simp)
            refine hK.out _ _ (fun he => Bool.noConfusion (show false = true from he)) (fun hE => ?_)
            clear hK K hE
            try simp only [Act.put, List.setIfInBounds_toArray, List.set_cons_zero, List.set_cons_succ]
            refine wpAnyT_ready (rs := [15]) (by kernel_rfl) rfl ?_
            refine AllT.cons (o := { dst := some 14, op := Op.assign (Operand.tmp 67), type := 28, pos := "types.go:676", after := #[⟨12, .data⟩, ⟨14, .chain⟩, ⟨0, .phase⟩, ⟨1, .phase⟩, ⟨2, .phase⟩, ⟨3, .phase⟩, ⟨4, .phase⟩, ⟨5, .phase⟩, ⟨6, .phase⟩, ⟨7, .phase⟩, ⟨8, .phase⟩, ⟨9, .phase⟩, ⟨10, .phase⟩, ⟨11, .phase⟩, ⟨12, .phase⟩, ⟨13, .phase⟩, ⟨14, .phase⟩], guard := none }) rfl (fun K hK => ?_) ?_
            · go_simp
              refine hK.out _ _ (fun he => Bool.noConfusion (show false = true from he)) (fun hE => ?_)
              clear hK K hE
              try simp only [Act.put, List.setIfInBounds_toArray, List.set_cons_zero, List.set_cons_succ]
              refine wpAnyT_done (by kernel_rfl) ?_ _
              refine NoPanic.normal ?_
              obtain ⟨hB3, hK3⟩ := three hBA (.int .i64 p.kind) (.int .i64 p.num) (.slice A8 p.subs.length c8)
              have hkf := Keeps.trans (show Keeps (fun _ => False) w9 _ from (by repeat (first | (with_reducible exact Keeps.refl _ _) | (with_reducible refine Keeps.drew ?_) | (with_reducible refine Keeps.drewN ?_ _) | (with_reducible refine Keeps.trans ?_ (by assumption) (fun _ _ h => h))))) hK3 (fun i hi h => by have h2 : i = _ := h; omega)
              have hpf := pf_final ((hp8.keeps hkA (fun _ _ h => h)).mono (fun b hb => ⟨(by have h3 := hb.2; omega : b ≠ _), by have h1 := hkA.size; have h3 := hb.2; omega⟩)) hK3
              have HB3 := Lib.hid hB3
              have HKF := Lib.hid hkf
              have HPF := Lib.hid hpf
              clear hB3 hkf hpf hK3
              go_wp2_with fail
              go_meet
              exact ⟨_, A8, c8, rfl, rfl, HB3.out, HPF.out, HKF.out⟩
            exact AllT.nil
          exact AllT.nil
        exact AllT.nil
      refine AllT.cons (o := { dst := some 13, op := Op.alloc 27, type := 0, pos := "types.go:676", after := #[], guard := none }) rfl (fun K hK => ?_) ?_
      · (go_simp; refine name_world ?_; intro wA hwA; (first | (obtain ⟨hBA, hkA, hgA⟩ := blk_of_alloc (V := w9) (cs := [.int .i64 0, .int .i64 0, .slice none 0 0]) hwA (by repeat (first | (with_reducible exact Keeps.refl _ _) | (with_reducible refine Keeps.drew ?_) | (with_reducible refine Keeps.drewN ?_ _) | (with_reducible refine Keeps.trans ?_ (by assumption) (fun _ _ h => h))))) | (obtain ⟨hBA, hkA, hgA⟩ := blk_of_alloc_d (V := w9) (cs := [.int .i64 0, .int .i64 0, .slice none 0 0]) hwA (by repeat (first | (with_reducible exact Keeps.refl _ _) | (with_reducible refine Keeps.drew ?_) | (with_reducible refine Keeps.drewN ?_ _) | (with_reducible refine Keeps.trans ?_ (by assumption) (fun _ _ h => h)))))); clear hwA)
        refine hK.out _ _ (fun _ => ?_) (fun hE => ?_)
        · exact HQ10.out _ (by repeat (first | (with_reducible exact Keeps.refl _ _) | (with_reducible refine Keeps.drew ?_) | (with_reducible refine Keeps.drewN ?_ _) | (with_reducible refine Keeps.trans ?_ (by assumption) (fun _ _ h => h))))
        have hS := hE (by kernel_rfl)
        clear hK K hE
        try simp only [Act.put, List.setIfInBounds_toArray, List.set_cons_zero, List.set_cons_succ]
        refine wpAnyT_ready (rs := [9]) (by kernel_rfl) rfl ?_
        refine AllT.cons (o := { dst := some 65, op := Op.call { callee := Callee.value (Operand.func 7), args := #[Operand.tmp 56, Operand.const (Value.slice none 0 0), Operand.tmp 57, Operand.tmp 64], argTypes := #[31, 45, 36, 35] }, type := 29, pos := "types.go:676", after := #[⟨0, .data⟩, ⟨1, .data⟩, ⟨8, .data⟩], guard := none }) rfl (fun K hK => ?_) ?_
        · (go_simp; go_at_call 7; with_reducible refine (HEn2.out _ _ (by repeat (first | (with_reducible exact Keeps.refl _ _) | (with_reducible refine Keeps.drew ?_) | (with_reducible refine Keeps.drewN ?_ _) | (with_reducible refine Keeps.trans ?_ (by assumption) (fun _ _ h => h)))) hBA.lt).mono ?_; rintro e w8 ⟨hk8, A8, c8, rfl, hp8⟩; go_wp2_with fail; have hBA := hBA.keeps (X := fun _ => False) (show Keeps (fun _ => False) _ w8 from (by repeat (first | (with_reducible exact Keeps.refl _ _) | (with_reducible refine Keeps.drew ?_) | (with_reducible refine Keeps.drewN ?_ _) | (with_reducible refine Keeps.trans ?_ (by assumption) (fun _ _ h => h))))) (fun h => h))
          refine hK.out _ _ (fun _ => ?_) (fun hE => ?_)
          · exact HQ10.out _ (by repeat (first | (with_reducible exact Keeps.refl _ _) | (with_reducible refine Keeps.drew ?_) | (with_reducible refine Keeps.drewN ?_ _) | (with_reducible refine Keeps.trans ?_ (by assumption) (fun _ _ h => h))))
          have hS := hE (by kernel_rfl)
          clear hK K hE
          try simp only [Act.put, List.setIfInBounds_toArray, List.set_cons_zero, List.set_cons_succ]
          refine wpAnyT_pure (i := 10) (oi := { dst := some 55, op := Op.move (Operand.tmp 65), type := 29, pos := "types.go:676", after := #[⟨9, .data⟩], guard := none }) (v := ?v10_10_13) rfl (by kernel_rfl) (fun _ _ _ h => h) (Or.inl ⟨by rfl, ?y10_10_13⟩) (fun _ => hS) ?_
          case y10_10_13 => (intro w hSw; go_simp; try with_reducible rfl)
          try simp only [Act.put, List.setIfInBounds_toArray, List.set_cons_zero, List.set_cons_succ]
          refine wpAnyT_pure (i := 11) (oi := { dst := some 66, op := Op.extract (Operand.tmp 55) 0, type := 27, pos := "types.go:676", after := #[⟨10, .data⟩], guard := none }) (v := ?v10_11_14) rfl (by kernel_rfl) (fun _ _ _ h => h) (Or.inl ⟨by rfl, ?y10_11_14⟩) (fun _ => hS) ?_
          case y10_11_14 => (intro w hSw; go_simp; try with_reducible rfl)
          try simp only [Act.put, List.setIfInBounds_toArray, List.set_cons_zero, List.set_cons_succ]
          refine wpAnyT_pure (i := 12) (oi := { dst := some 67, op := Op.extract (Operand.tmp 55) 1, type := 28, pos := "types.go:676", after := #[⟨10, .data⟩, ⟨14, .gcOnly .lateStores⟩], guard := none }) (v := ?v10_12_15) rfl (by kernel_rfl) (fun _ _ _ h => h) (Or.inl ⟨by rfl, ?y10_12_15⟩) (fun _ => hS) ?_
          case y10_12_15 => (intro w hSw; go_simp; try with_reducible rfl)
          try simp only [Act.put, List.setIfInBounds_toArray, List.set_cons_zero, List.set_cons_succ]
          refine wpAnyT_ready (rs := [14]) (by kernel_rfl) rfl ?_
          refine AllT.cons (o := { dst := none, op := Op.store 27 (Operand.tmp 13) (Operand.tmp 66), type := 0, pos := "types.go:676", after := #[⟨13, .data⟩, ⟨11, .data⟩, ⟨9, .chain⟩, ⟨0, .phase⟩, ⟨1, .phase⟩, ⟨2, .phase⟩, ⟨3, .phase⟩, ⟨4, .phase⟩, ⟨5, .phase⟩, ⟨6, .phase⟩, ⟨7, .phase⟩, ⟨8, .phase⟩, ⟨9, .phase⟩, ⟨10, .phase⟩, ⟨11, .phase⟩, ⟨12, .textOnly .lateStores⟩, ⟨13, .phase⟩], guard := none }) rfl (fun K hK => ?_) ?_
          · (have r0 := hBA.cell (i := 0) rfl; have r1 := hBA.cell (i := 1) rfl; have r2 := hBA.cell (i := 2) rfl; have f0 := hBA.free 0; have f1 := hBA.free 1; have f2 := hBA.free 2; have hlA := hBA.lt; go_simp)
            refine hK.out _ _ (fun he => Bool.noConfusion (show false = true from he)) (fun hE => ?_)
            clear hK K hE
            try simp only [Act.put, List.setIfInBounds_toArray, List.set_cons_zero, List.set_cons_succ]
            refine wpAnyT_ready (rs := [15]) (by kernel_rfl) rfl ?_
            refine AllT.cons (o := { dst := some 14, op := Op.assign (Operand.tmp 67), type := 28, pos := "types.go:676", after := #[⟨12, .data⟩, ⟨14, .chain⟩, ⟨0, .phase⟩, ⟨1, .phase⟩, ⟨2, .phase⟩, ⟨3, .phase⟩, ⟨4, .phase⟩, ⟨5, .phase⟩, ⟨6, .phase⟩, ⟨7, .phase⟩, ⟨8, .phase⟩, ⟨9, .phase⟩, ⟨10, .phase⟩, ⟨11, .phase⟩, ⟨12, .phase⟩, ⟨13, .phase⟩, ⟨14, .phase⟩], guard := none }) rfl (fun K hK => ?_) ?_
            · go_simp
              refine hK.out _ _ (fun he => Bool.noConfusion (show false = true from he)) (fun hE => ?_)
              clear hK K hE
              try simp only [Act.put, List.setIfInBounds_toArray, List.set_cons_zero, List.set_cons_succ]
              refine wpAnyT_done (by kernel_rfl) ?_ _
              refine NoPanic.normal ?_
              obtain ⟨hB3, hK3⟩ := three hBA (.int .i64 p.kind) (.int .i64 p.num) (.slice A8 p.subs.length c8)
              have hkf := Keeps.trans (show Keeps (fun _ => False) w9 _ from (by repeat (first | (with_reducible exact Keeps.refl _ _) | (with_reducible refine Keeps.drew ?_) | (with_reducible refine Keeps.drewN ?_ _) | (with_reducible refine Keeps.trans ?_ (by assumption) (fun _ _ h => h))))) hK3 (fun i hi h => by have h2 : i = _ := h; omega)
              have hpf := pf_final hp8 hK3
              have HB3 := Lib.hid hB3
              have HKF := Lib.hid hkf
              have HPF := Lib.hid hpf
              clear hB3 hkf hpf hK3
              go_wp2_with fail
              go_meet
              exact ⟨_, A8, c8, rfl, rfl, HB3.out, HPF.out, HKF.out⟩
            exact AllT.nil
          exact AllT.nil
        exact AllT.nil
      exact AllT.nil
    case rest =>
      obtain ⟨g, A2, c2, rfl, rfl, hBg, hPf, hk8⟩ := hcut
      have hs7 := HK7.out.size
      have HBel : Hid (∀ w', Keeps (fun _ => False) wc w' → Below W.heap.size W w') := fun w' h => ((HK6W.out.trans (HK7.out.trans hk8 (fun _ _ h => h)) (fun _ _ h => h)).trans h (fun _ _ h => h)).below (fun _ h => h.elim) (Nat.le_refl _)
      have hs8 := hk8.size
      by_cases hwh : h < w
      · have hgt : (h : Int) < (w : Int) := by omega
        obtain rfl : r = 11 := HR11.out hwh
        clear hwh hs8 hs7 hBg hPf hk8
        go_wp2_with fail
        go_ret
        exact ⟨rfl, HBel.out _ (Keeps.refl _ _)⟩
      · have hgt : ¬ (h : Int) < (w : Int) := by omega
        obtain rfl : r = 0 := HR0.out (by omega)
        have hx := HQ10.out wc hk8
        have hQ13 : Hid (∀ X, Keeps (fun _ => False) wc X → (X.cell? ⟨g6, off6 + w * 3, none⟩ = some (.string (nm w)) ∧ X.cell? ⟨b7, 0, none⟩ = some (.int .i64 t.kind) ∧ X.cell? ⟨b7, 1, none⟩ = some (.string t.name) ∧ X.cell? ⟨b7, 2, none⟩ = some (.int .i64 t.var) ∧ X.cell? ⟨b7, 3, none⟩ = some (.slice At t.args.length ct) ∧ X.cell? ⟨g, 0, none⟩ = some (.int .i64 p.kind) ∧ X.cell? ⟨g, 1, none⟩ = some (.int .i64 p.num) ∧ X.cell? ⟨g, 2, none⟩ = some (.slice A2 p.subs.length c2))) := fun X hk => by
          have hx := HQ10.out X (hk8.trans hk (fun _ _ h => h))
          have hz := hBg.keeps hk (fun h => h)
          exact ⟨hx.2.1, hx.2.2.1, hx.2.2.2.1, hx.2.2.2.2.1, hx.2.2.2.2.2, hz.cell (i := 0) rfl, hz.cell (i := 1) rfl, hz.cell (i := 2) rfl⟩
        have HPv : Hid (∀ X, Keeps (fun _ => False) wc X → Calls Tryd.prog 12 #[.slice (some ⟨g6, off6, none⟩) n q6, .slice none 0 0, .slice (some ⟨g12, 0, none⟩) 1 1, .agg #[.string (nm w), .int .i64 t.kind, .string t.name, .int .i64 t.var, .slice At t.args.length ct], .agg #[.int .i64 p.kind, .int .i64 p.num, .slice A2 p.subs.length c2]] X (fun e w' => e = .returned (.bool true) ∧ Keeps (fun _ => False) X w')) := fun X hk => by
          have hsz := hk.size
          have hk9X := hk8.trans hk (fun _ _ h => h)
          have hkX := HK7.out.trans hk9X (fun _ _ h => h)
          have hT := (HTw.out.keeps hkX (fun _ _ h => h)).mono (G := fun b => b < X.heap.size) (fun b hb => by omega)
          have hbX := HB12.out.keeps hk9X (fun h => h)
          have henv := entailS_env HFit.out HEnt.out
          exact Proves_any (clsList n) [] [⟨nm h, t⟩] ⟨nm w, t⟩ p henv.1 (entailS_ok HEnt.out).1 henv.2.1 henv.2.2.1 henv.2.2.2 _ (.slice none 0 0) _ (fun b => b < X.heap.size) X At ct A2 c2 ((HSL.out.keeps hkX (fun _ _ h => h)).mono (fun b hb => by omega)) Sl.nil_ (pr_one (p := ⟨nm h, t⟩) hbX.lt HNL.out.1 hT hbX) (fun b hb => hb) hT ((hPf.keeps hk (fun _ _ h => h)).mono (fun b hb => by omega)) (HZ6.out.keeps hkX (fun h => h))
        clear hwh hs8 hs7 hBg hPf hk8 hx
        go_upto_region 13 with (fail)
        go_region_held3 (fun X => X.cell? ⟨g6, off6 + w * 3, none⟩ = some (.string (nm w)) ∧ X.cell? ⟨b7, 0, none⟩ = some (.int .i64 t.kind) ∧ X.cell? ⟨b7, 1, none⟩ = some (.string t.name) ∧ X.cell? ⟨b7, 2, none⟩ = some (.int .i64 t.var) ∧ X.cell? ⟨b7, 3, none⟩ = some (.slice At t.args.length ct) ∧ X.cell? ⟨g, 0, none⟩ = some (.int .i64 p.kind) ∧ X.cell? ⟨g, 1, none⟩ = some (.int .i64 p.num) ∧ X.cell? ⟨g, 2, none⟩ = some (.slice A2 p.subs.length c2))
          (exact hQ13.out _ (by repeat (first | (with_reducible assumption) | (with_reducible exact Keeps.refl _ _) | (with_reducible refine Keeps.drewN ?_ _) | (with_reducible refine Keeps.drew ?_) | with_reducible refine Keeps.setCell ?_ (by first | (intro _; exact rfl) | (intro _; exact Or.inl rfl) | (intro _; exact Or.inr rfl) | (simp; done) | (simp; omega)) _ | (with_reducible refine Keeps.alloc ?_ _))))
          ((go_at_call 12; with_reducible refine (HPv.out _ (by repeat (first | (with_reducible assumption) | (with_reducible exact Keeps.refl _ _) | (with_reducible refine Keeps.drewN ?_ _) | (with_reducible refine Keeps.drew ?_) | with_reducible refine Keeps.setCell ?_ (by first | (intro _; exact rfl) | (intro _; exact Or.inl rfl) | (intro _; exact Or.inr rfl) | (simp; done) | (simp; omega)) _ | (with_reducible refine Keeps.alloc ?_ _)))).mono ?_; rintro e w13 ⟨rfl, hk13⟩; have hkQ := Keeps.trans (show Keeps (fun _ => False) wc _ from (by repeat (first | (with_reducible assumption) | (with_reducible exact Keeps.refl _ _) | (with_reducible refine Keeps.drewN ?_ _) | (with_reducible refine Keeps.drew ?_) | with_reducible refine Keeps.setCell ?_ (by first | (intro _; exact rfl) | (intro _; exact Or.inl rfl) | (intro _; exact Or.inr rfl) | (simp; done) | (simp; omega)) _ | (with_reducible refine Keeps.alloc ?_ _)))) hk13 (fun _ _ h => h)))
        go_wp2_with fail
        go_ret
        exact ⟨rfl, HBel.out _ hkQ⟩

theorem own : ownKnob Tryd.prog.godebug = none := by kernel_rfl
theorem gSizes : Tryd.prog.globalNamed "provenance/unify.sizes" = some 0 := by kernel_rfl
theorem szs_of_laid {W : World} (h : laidMetH Tryd.prog Rows.classesSupersRow.laid W) : Szs W := by
  have h1 := h.filter (fun x => x.1 == "provenance/unify.sizes")
  have e1 : Rows.classesSupersRow.laid.filter (fun x => x.1 == "provenance/unify.sizes") = [("provenance/unify.sizes", Lib.tabData .i64 [0, -1, 3, 1, 0, 2])] := by kernel_rfl
  have h2 : laidMetH Tryd.prog [("provenance/unify.sizes", Lib.tabData .i64 [0, -1, 3, 1, 0, 2])] W := by rw [e1] at h1; exact h1
  rw [MakeChecks.laidMetH_plain _ _ _ (by kernel_rfl)] at h2
  have ht := Lib.tabIs_of_head gSizes (by kernel_rfl) Tryd.underlying84 Tryd.underlying3 (by kernel_rfl) (by kernel_rfl) h2
  unfold Lib.TabIs at ht
  exact ⟨by rw [World.var?_cell gSizes ht]; rfl, by rw [World.var?_cell gSizes ht]; rfl, by rw [World.var?_cell gSizes ht]; rfl, by rw [World.var?_cell gSizes ht]; rfl, by rw [World.var?_cell gSizes ht]; rfl, by rw [World.var?_cell gSizes ht]; rfl⟩

theorem laid : laidOutB Tryd.prog = true := by kernel_rfl

set_option maxRecDepth 100000 in
theorem lifted (os : Os) (started : os.Started) (H : Type) (enc : TypeId × Value → H) :
    ReturnsInHanded {} Tryd.checked os 3 .any (fun w args => (Rows.classesSupersSpec.pre enc Tryd.prog Tryd.f3 [] false w args ∧ laidMetH Tryd.prog Rows.classesSupersRow.laid w) ∧ sizedMet enc Tryd.prog Tryd.f3 (OpenSpec.ofChange Rows.classesSupersSpec) false w args)
      (Rows.classesSupersSpec.post enc Tryd.prog Tryd.f3 false true false false) := by
  refine handed_shaped_laid (C := Tryd.checked) (L := Rows.classesSupersRow.laid) own started (by kernel_rfl) Tryd.func3
    (ChangeSpec.witness_shaped (enc := enc) (C := Tryd.checked) (os := os) (X := fun w _ => laidMetH Tryd.prog Rows.classesSupersRow.laid w) false (World.laidAll Tryd.prog os Rows.classesSupersRow.laid) #[.int .i64 0, .int .i64 0, .int .i64 0, .agg #[.int .i64 0, .string ⟨#[]⟩, .int .i64 0, .slice none 0 0]] 8 (World.laidAll_os _ _ _)
      (World.shaped_of_ZipB (by kernel_rfl) (by kernel_rfl)) (by kernel_rfl) (by kernel_rfl) (by kernel_rfl)
      (by rw [MakeChecks.laidMetH_plain _ _ _ (by kernel_rfl)]; exact laidMet_laidAll _ (by kernel_rfl) (by kernel_rfl))) ?_
  intro W base args ds gs before hval0 hW hsz0 _ hlaid
  have hz := szs_of_laid hlaid
  have hval : ∀ (j : Nat) t v, Tryd.f3.params[j]? = some t → args[j]? = some v → Value.okWide Tryd.prog W .any base t v := hval0
  have hW' := hW
  obtain ⟨p, q, hA0, hV, hbef, hfz, hnd⟩ := hW
  have hA : DataW.TrodAll enc Tryd.prog W 0 (fun _ => true) true Tryd.f3.params.toList args.toList ds p := hA0
  rw [Tryd.params3] at hA hval
  obtain ⟨v0, vs0, d0, ds0, p0, q0, hargs, hds, rfl, h0, r0⟩ := trodAll_cons hA
  obtain ⟨v1, vs1, d1, ds1, p1, q1, rfl, rfl, rfl, h1, r1⟩ := trodAll_cons r0
  obtain ⟨v2, vs2, d2, ds2, p2, q2, rfl, rfl, rfl, h2, r2⟩ := trodAll_cons r1
  obtain ⟨v3, vs3, d3, ds3, p3, q3, rfl, rfl, rfl, h3, r3⟩ := trodAll_cons r2
  obtain ⟨rfl, rfl, rfl⟩ := trodAll_nil r3
  obtain rfl : args = #[v0, v1, v2, v3] := by cases args; simp_all
  obtain ⟨rfl, _⟩ := trodVars_none hV
  subst hds
  obtain ⟨a0, rfl, rfl, rfl, s0⟩ := open_int Tryd.underlying3 (hval 0 3 v0 rfl rfl) h0
  obtain ⟨a1, rfl, rfl, rfl, s1⟩ := open_int Tryd.underlying3 (hval 1 3 v1 rfl rfl) h1
  obtain ⟨a2, rfl, rfl, rfl, s2⟩ := open_int Tryd.underlying3 (hval 2 3 v2 rfl rfl) h2
  obtain ⟨a3, c3, rfl, s3⟩ := rp_of_arg (f := tyD) Tryd.underlying24 (fun _ _ _ h => tyD.of_trod _ h) (hval 3 24 v3 rfl rfl) h3
  obtain ⟨av3, rfl, T3⟩ := tyD.rp.1 s3
  obtain ⟨A3, q3, rfl, _⟩ := T3.form
  refine (walk a0 a1 a2 a3 A3 q3 W T3 hz).mono fun e W' ⟨he, hb⟩ => ?_
  subst he
  exact ⟨_, rfl, law_post laid (by kernel_rfl) rfl Tryd.underlying4 rfl rfl rfl rfl hW' hb⟩

theorem over : Rows.classesSupersRow.holds Tryd.pinned (OpenSpec.ofChange Rows.classesSupersSpec) :=
  OpenClaim.holds_of_wide 3 Tryd.f3 rfl rfl rfl rfl rfl rfl rfl ⟨rfl, rfl, rfl, rfl, rfl⟩ rfl rfl rfl rfl rfl (by kernel_rfl) Tryd.func3 (by kernel_rfl)
    (of_decide_eq_true (by kernel_rfl)) (by unfold Func.isWrapper; first | (rw [if_pos (by decide +kernel)]; kernel_rfl) | (rw [if_neg (by decide +kernel)]; exact ⟨rfl, rfl⟩))
    (fun os started H enc _ => lifted os started H enc)

theorem proved : Rows.ClassesSupersCardSaid :=
  Claim7.holds_tied_plain_at .later [] [.data, .data, .data, .data] true Rows.classesSupersCard.stood.harness false over (fun _ h => by cases h) (by kernel_rfl) (fun _ h => by cases h) classesSupers_row_tie rfl ⟨rfl, rfl⟩ (by kernel_rfl) rfl
    (fun f fn hf hfn => by
      obtain rfl : f = 3 := Option.some.inj ((show Tryd.prog.funcNamed Tryd.f3.name = some 3 by kernel_rfl).symm.trans hf) |>.symm
      obtain rfl : fn = Tryd.f3 := (Option.some.inj (Tryd.func3.symm.trans hfn)).symm
      exact ⟨by kernel_rfl, fun j t ht => by
        rw [Tryd.params3] at ht
        have hm : t ∈ [3, 24] := by simpa using Array.mem_of_getElem? ht
        have hall : ([3, 24].all fun u => !Tryd.prog.wantsStandIn u) = true := by kernel_rfl
        exact (show Tryd.prog.wantsStandIn t = false by simpa using List.all_eq_true.1 hall t hm)⟩)
    (by kernel_rfl)
#print axioms proved
end Go.Proofs.YtdljlpogljjldaaDoor.classesSupers

