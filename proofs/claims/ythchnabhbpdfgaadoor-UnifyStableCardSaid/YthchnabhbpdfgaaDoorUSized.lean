/- unify.sized; making slices of numbers; unify.Var. -/
import Derived.Test.YthchnabhbpdfgaaDoorUSize
namespace Go.Proofs.YthchnabhbpdfgaaDoor
open Go.RowKit Go.Shelf

theorem infoIntS : (Tryd.prog.info? 3).map (fun i => (i.zero, i.size, i.bytes)) = some (some (.int .i64 0), 1, 8) := by kernel_rfl
theorem made_ints (n : Nat) : madeCells (Value.int .i64 0).cells n = (intz (List.replicate n 0)).toArray := by
  apply Array.ext'
  rw [List.toList_toArray]
  apply List.ext_getElem
  · simp [madeCells, intz]
  · intro i h1 h2
    simp [madeCells, intz, Value.cells, Nat.mod_one]
theorem make_ints (n : Nat) (hn : n ≤ 281474976710) (W : World) : (Instr.makeSlice 33 (.int .i64 (n : Int)) (.int .i64 (n : Int))).run Tryd.prog W = .ok (.slice (some ⟨W.heap.size, 0, none⟩) n n) (W.alloc (.cells (intz (List.replicate n 0)).toArray 3)) := by
  obtain ⟨i0, hi0, hz0, hz1, hz2⟩ := info_parts infoIntS
  have h := run_make (P := Tryd.prog) W 33 3 i0 (.int .i64 0) Tryd.underlying33 hi0 hz0 .i64 .i64 (n : Int) (n : Int) (by omega) (by omega) (by rw [hz2]; omega) (by omega)
  simp only [Int.toNat_natCast, hz1, Nat.mul_one] at h
  rw [made_ints] at h
  exact h

/-- A variable. -/
def varT (v : Int) : Ty := .mk 0 ⟨#[]⟩ v []
theorem wfI_nat {j : Nat} (h : j ≤ 281474976710) : wfI (j : Int) := by
  have h1 : IntKind.i64.min = -9223372036854775808 := by decide
  have h2 : IntKind.i64.max = 9223372036854775807 := by decide
  simp [wfI, Lit.wf, h1, h2]; omega
theorem varT_ok {W : World} {G : Nat → Prop} {v : Int} (h : wfI v) : TyC W G (varT v) (.slice none 0 0) := ⟨by show (Lit.int .i64 0).wf = true; decide, by show (0 : Nat) ≤ maxLen; exact Nat.zero_le _, h, Sl.nil_⟩
set_option maxHeartbeats 400000 in
theorem var_any (v : Int) (W : World) : Calls Tryd.prog 23 #[.int .i64 v] W fun e w' => e = .returned (tyV (varT v) (.slice none 0 0)) ∧ Keeps (fun _ => False) W w' := by
  go_enter Tryd.func23, Tryd.ntmps23
  go_wp2_with fail
  exact ret_row Tryd.results23 rfl (Blk.new W _ [_, _, _, _]) Tryd.underlying24 (by kernel_rfl) rfl ⟨rfl, (Keeps.refl _ _).alloc _⟩

def sizedL (σ : List Ty) (k : Nat) : List Nat → List Int → Option Int
  | [], _ => some 0
  | v :: r, of => match sizeP σ k of (varT (v : Int)) with
    | none => none
    | some (m, of') => if 4096 < m then some 2 else sizedL σ k r of'
def sizedP (σ : List Ty) (k : Nat) : Option Int := sizedL σ k (List.range σ.length) (List.replicate σ.length 0)

set_option maxRecDepth 100000 in
set_option maxHeartbeats 4000000 in
theorem sized_any (σ : List Ty) (hσ : SubIn σ) (k : Nat) (sv : Value) (G : Nat → Prop) (W : World) (hS : Sl W G tyD σ sv) (hG : ∀ b, G b → b < W.heap.size) (hn : σ.length ≤ 281474976710) (r : Int) (hr : sizedP σ k = some r) :
    Calls Tryd.prog 26 #[sv] W fun e w' => e = .returned (.int .i64 r) ∧ Below W.heap.size W w' := by
  obtain ⟨A, c, rfl, hlc, hcm, _⟩ := hS.form
  have hlm : σ.length ≤ 9223372036854775807 := by omega
  have HMk := make_ints σ.length hn
  have HS := Lib.hid hS
  have HG := Lib.hid hG
  have HR := Lib.hid hr
  have Hσ := Lib.hid hσ
  clear hS hG hr hσ
  go_enter Tryd.func26, Tryd.ntmps26
  go_wp2_with fail
  obtain ⟨g, hg⟩ : ∃ g, W.heap.size = g := ⟨_, rfl⟩
  have hgs : ∀ o, (W.alloc o).heap.size = g + 1 := fun o => by rw [← hg]; simp
  rw [hg]
  try rw [hgs]
  obtain ⟨W1, hW1⟩ : ∃ W1, (W.alloc (.cells (intz (List.replicate σ.length 0)).toArray 3)).alloc (.cells #[.slice A σ.length c, .slice (some ⟨g, 0, none⟩) σ.length σ.length] 69) = W1 := ⟨_, rfl⟩
  have hk1 : Keeps (fun _ => False) W W1 := by rw [← hW1]; exact ((Keeps.refl _ _).alloc _).alloc _
  have hb1 : Blk W1 g 3 (intz (List.replicate σ.length 0)) := by
    rw [← hW1, ← hg]; exact (Blk.new W _ _).alloc _
  have hm1 : Blk W1 (g + 1) 69 [.slice A σ.length c, .slice (some ⟨g, 0, none⟩) σ.length σ.length] := by
    have := Blk.new (W.alloc (.cells (intz (List.replicate σ.length 0)).toArray 3)) 69 [.slice A σ.length c, .slice (some ⟨g, 0, none⟩) σ.length σ.length]
    rw [hW1, hgs] at this
    exact this
  rw [hW1]
  have HK1 := Lib.hid hk1
  have HB1 := Lib.hid hb1
  have HM1 := Lib.hid hm1
  have HGl : Hid (∀ b, G b → b < g) := by rw [← hg]; exact HG.out
  have HGe := Lib.hid hg
  have HS1 := Lib.hid (HS.out.keeps hk1 (fun _ _ h => h))
  clear hk1 hb1 hm1 hW1 hgs HMk
  go_loopw [13] (fun i wr => ∃ (j : Nat) (of : List Int), j ≤ σ.length ∧ i = .int .i64 j ∧ Lim4 of ∧ of.length = σ.length ∧ Blk wr g 3 (intz of) ∧ Keeps (· = g) W1 wr ∧ Hid (sizedL σ k ((List.range σ.length).drop j) of = some r)) (fun i _ => σ.length - (intOf i).toNat)
  case atStart => exact ⟨0, _, Nat.zero_le _, rfl, fun x hx => by rw [(List.mem_replicate.1 hx).2]; omega, by simp, HB1.out, Keeps.refl _ _, HR.out⟩
  case round =>
    obtain ⟨j, of, hj, rfl, hl1, hln1, hb1, hk1, hr1⟩ := hrel
    by_cases hlt : j < σ.length
    · have hr2 := hr1.out
      rw [List.drop_eq_getElem_cons (by simpa using hlt), List.getElem_range, sizedL] at hr2
      cases hq : sizeP σ k of (varT (j : Int)) with
      | none => rw [hq] at hr2; cases hr2
      | some pr =>
        obtain ⟨q, o1⟩ := pr
        rw [hq] at hr2
        obtain ⟨hok1, hok2, hok3, hok4⟩ := sizeP_ok σ k _ _ _ _ hl1 hq
        have j0 : (0 : Int) ≤ (j : Int) := by omega
        have j1 : (j : Int) < (σ.length : Int) := by omega
        have HC := Lib.hid (fun (X : World) (hx : Keeps (fun _ => False) wr X) => size_any σ Hσ.out k _ G X (g + 1) g of (varT (j : Int)) (.slice none 0 0) q o1 ((HS1.out.keeps hk1 (fun i hi => by have := HGl.out i hi; omega)).keeps hx (fun _ _ h => h)) (by rw [hln1]; exact (HM1.out.keeps hk1 (by omega)).keeps hx (fun h => h)) (hb1.keeps hx (fun h => h)) (fun i hi => by have := HGl.out i hi; omega) hln1 (varT_ok (wfI_nat (by omega))) (fun v hv => by
          rw [freeP_var rfl] at hv
          rw [List.mem_singleton.1 hv]
          exact ⟨j0, j1⟩) hl1 hq)
        have HV := Lib.hid (var_any (j : Int) wr)
        have HR2 := Lib.hid hr2
        have HK := Lib.hid hk1
        have HL3 := Lib.hid hok3
        have HL4 : Hid (o1.length = σ.length) := hok4.trans hln1
        clear hr1 hr2 hq hb1 hk1 hok3 hok4 hl1 hln1
        go_wp2_with fail
        with_reducible refine HV.out.mono ?_
        rintro e w1 ⟨rfl, hkv⟩
        go_wp2_with fail
        with_reducible refine (HC.out _ hkv).mono ?_
        rintro e w2 ⟨rfl, hb2, hk2⟩
        have hkw := (HK.out.trans (hkv.mono (Y := (· = g)) (fun _ _ h => h.elim)) (fun _ _ h => h)).trans hk2 (fun _ _ h => h)
        by_cases hbig : 4096 < q
        · have HR3 := Lib.hid HR2.out
          rw [if_pos hbig] at HR3
          go_wp2_with fail
          go_ret
          exact ⟨by rw [← Option.some.inj HR3.out]; rfl, ((HK1.out.mono (Y := (· = g)) (fun _ _ h => h.elim)).trans hkw (fun _ _ h => h)).below (fun i hi => by subst hi; have := HGe.out; omega) (by have := HGe.out; omega)⟩
        · have HR3 := Lib.hid HR2.out
          rw [if_neg hbig] at HR3
          go_wp2_with fail
          go_roundw
          case rel => exact ⟨j + 1, o1, by omega, by go_num, HL3.out, HL4.out, hb2, hkw, HR3.out⟩
          case measure => simp [intOf]; omega
    · obtain rfl : j = σ.length := by omega
      have hr2 := hr1.out
      rw [List.drop_of_length_le (by simp), sizedL] at hr2
      have HR2 := Lib.hid (Option.some.inj hr2)
      have j1 : ¬ (σ.length : Int) < (σ.length : Int) := by omega
      clear hr1 hr2
      go_wp2_with fail
      go_ret
      exact ⟨by rw [← HR2.out]; rfl, ((HK1.out.mono (Y := (· = g)) (fun _ _ h => h.elim)).trans hk1 (fun _ _ h => h)).below (fun i hi => by subst hi; have := HGe.out; omega) (by have := HGe.out; omega)⟩
end Go.Proofs.YthchnabhbpdfgaaDoor
