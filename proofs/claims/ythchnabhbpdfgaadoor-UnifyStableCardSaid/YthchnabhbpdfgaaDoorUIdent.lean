/- unify.Identity; the law's own pair and within. -/
import Derived.Test.YthchnabhbpdfgaaDoorUSized
namespace Go.Proofs.YthchnabhbpdfgaaDoor
open Go.RowKit Go.Shelf

theorem own_form {w : World} {b : Nat} {e : TypeId} {s n : Nat} {v : Value} {xs : List Value} (h : w.ownsRow b e s v n xs) : ∃ A c, v = .slice A n c := by
  rcases h.2 with ⟨h1, h2⟩ | ⟨g, cap, _, h1, _⟩
  · exact ⟨none, 0, by rw [h1, h2]⟩
  · exact ⟨_, _, h1⟩
/-- The substitution that changes nothing. -/
def idS (n : Nat) : List Ty := (List.range n).map fun (i : Nat) => varT (i : Int)
def idCells (n : Nat) : List Value := (List.range n).flatMap fun (i : Nat) => (varT (i : Int)).cells (.slice none 0 0)
theorem idCells_succ (n : Nat) : idCells (n + 1) = idCells n ++ [.int .i64 0, .string ⟨#[]⟩, .int .i64 (n : Int), .slice none 0 0] := by
  unfold idCells
  rw [List.range_succ, List.flatMap_append]
  rfl
theorem idS_len (n : Nat) : (idS n).length = n := by simp [idS]
theorem idS_get {n i : Nat} (h : i < n) : (idS n)[i]? = some (varT (i : Int)) := by simp [idS, h]
theorem id_rp {W : World} {F : Nat → Prop} : ∀ n : Nat, n ≤ 281474976710 → RpAll W F ((idS n).map tyD) (idCells n)
  | 0, _ => by simp [idS, idCells, RpAll]
  | n + 1, h => by
    have e : idS (n + 1) = idS n ++ [varT (n : Int)] := by simp [idS, List.range_succ]
    rw [e, List.map_append, idCells_succ]
    refine (id_rp n (by omega)).append ?_
    simp only [List.map_cons, List.map_nil]
    exact RpAll.one (tyD.rp.2 ⟨.slice none 0 0, rfl, varT_ok (wfI_nat (by omega))⟩)
theorem infoTyI : (Tryd.prog.info? 24).map (fun i => (i.zero, i.size, i.bytes)) = some (some (.agg #[.int .i64 0, .string ⟨#[]⟩, .int .i64 0, .slice none 0 0]), 4, 56) := by kernel_rfl
def IdPost (n : Nat) (W : World) (e : Ending) (w' : World) : Prop := ∃ v, e = .returned (.tuple #[v, .int .i64 0]) ∧ Sl w' (fun b => W.heap.size ≤ b ∧ b < w'.heap.size) tyD (idS n) v ∧ Below W.heap.size W w'

set_option maxRecDepth 100000 in
set_option maxHeartbeats 4000000 in
theorem ident_any (n : Nat) (hn : n ≤ 4096) (W : World) : Calls Tryd.prog 13 #[.int .i64 (n : Int)] W (IdPost n W) := by
  obtain ⟨i0, hi0, hz0, hz1, hz2⟩ := info_parts infoTyI
  have n0 : ¬ (n : Int) < 0 := by omega
  have n1 : ¬ (4096 : Int) < (n : Int) := by omega
  obtain ⟨B, hB⟩ : ∃ B, W.heap.size = B := ⟨_, rfl⟩
  have HB := Lib.hid hB
  clear hB
  go_enter Tryd.func13, Tryd.ntmps13
  go_wp2_with fail
  go_loopw [4, 5, 13] (fun ov _ i wr => ∃ j : Nat, j ≤ n ∧ i = .int .i64 j ∧ Below W.heap.size W wr ∧ wr.ownsRow B 24 4 ov j (idCells j)) (fun _ _ i _ => n - (intOf i).toNat)
  case atStart => exact ⟨0, Nat.zero_le _, rfl, Below.refl _ _, by have h := World.ownsRow_nil W B 24 4; simpa [idCells] using h⟩
  case round =>
    obtain ⟨j, hj, rfl, hb, hown⟩ := hrel
    have HBw := Lib.hid hb
    have HOw := Lib.hid hown
    have hbz : B ≤ wr.heap.size := by have := hb.size; have := HB.out; omega
    clear hb hown
    by_cases hlt : j < n
    · have j0 : (0 : Int) ≤ (j : Int) := by omega
      have j1 : (j : Int) < (n : Int) := by omega
      have hV : Calls Tryd.prog 23 #[.int .i64 (j : Int)] wr fun e w' => e = .returned (.agg #[.int .i64 0, .string ⟨#[]⟩, .int .i64 (j : Int), .slice none 0 0]) ∧ Keeps (fun _ => False) wr w' := var_any (j : Int) wr
      have HV := Lib.hid hV
      clear hV
      go_wp2_with fail
      with_reducible refine HV.out.mono ?_
      rintro e w1 ⟨rfl, hk1⟩
      have hown1 := own_keeps HOw.out hk1 (fun _ _ h => h)
      have hs1 := hk1.size
      have HK1 := Lib.hid hk1
      clear hk1
      obtain ⟨ad, cp, rfl⟩ := own_form hown1
      go_wp2_with (at_builtin; (refine wpList_append_lies _ rfl _ _ 25 rfl B 24 i0 _ 4 56 Tryd.underlying25 hi0 hz0 hz1 hz2 rfl (by omega) _ j _ rfl (World.ownsRow.alloc hown1 _) ⟨w1.heap.size, 0, none⟩ 1 1 [.int .i64 0, .string ⟨#[]⟩, .int .i64 (j : Int), .slice none 0 0] rfl rfl (World.news_of_block (cs := #[.int .i64 0, .string ⟨#[]⟩, .int .i64 (j : Int), .slice none 0 0]) (t := 24) (fr := (0, 0)) (heap_alloc_new _ _)) (by simp [Value.oneCell']) (by omega) (by unfold maxLen; omega) (by omega) (by simp; omega) (w1.heap.size + 1) (by simp) ?_); intro gg cap w2 hown2 hgrow hat hlt2; have hk2 : Keeps (fun i => B ≤ i) wr w2 := ((HK1.out.mono (Y := fun i => B ≤ i) (fun _ _ h => h.elim)).alloc _).grown hgrow (fun i hi _ => (hown1.lt i hi).1))
      have hB2 : Below W.heap.size W w2 := by have hb0 := HB.out; rw [← hb0] at hk2; exact HBw.out.trans (hk2.below (fun _ h => h) HBw.out.size)
      have hown3 : w2.ownsRow B 24 4 (.slice (some ⟨gg, 0, none⟩) (j + 1) cap) (j + 1) (idCells (j + 1)) := by rw [idCells_succ]; exact hown2
      have HB2 := Lib.hid hB2
      have HO3 := Lib.hid hown3
      clear hB2 hown3 hown2 hk2 hgrow hat hown1 HK1
      go_wp2_with fail
      go_roundw
      case rel => exact ⟨j + 1, by omega, by go_num, HB2.out, HO3.out⟩
      case measure => simp [intOf]; omega
    · obtain rfl : j = n := by omega
      have j1 : ¬ (j : Int) < (j : Int) := by omega
      go_wp2_with fail
      go_ret2
      have h := Sl.of_own (l := idS j) (F := fun _ => False) (G := fun b => W.heap.size ≤ b ∧ b < wr.heap.size) HOw.out (idS_len j).symm (id_rp j (by omega)) (fun _ h => h.elim) (fun b hb => by have := HOw.out.lt b hb; have := HB.out; omega)
      exact ⟨_, rfl, h, HBw.out⟩
/-- The law's own 'pair': the identity of twelve variables. -/
theorem pair_any (W : World) (a b : Ty) (A1 A2 : Option Addr) (c1 c2 : Nat) : Calls Tryd.prog 6 #[tyV a (.slice A1 a.args.length c1), tyV b (.slice A2 b.args.length c2)] W fun e w' => ∃ v, e = .returned (.tuple #[v, .bool true]) ∧ Sl w' (fun b => W.heap.size ≤ b ∧ b < w'.heap.size) tyD (idS 12) v ∧ Below W.heap.size W w' := by
  have HI := Lib.hid (fun X => ident_any 12 (by decide) X)
  unfold tyV
  go_enter Tryd.func6, Tryd.ntmps6
  go_wp2_with fail
  refine (HI.out _).mono ?_
  rintro e w1 ⟨v, rfl, hs, hb⟩
  obtain ⟨A, c, rfl, _⟩ := hs.form
  rw [idS_len] at *
  have hb2 : Below W.heap.size W w1 := (((Below.refl _ _).alloc (Nat.le_refl _) _).alloc (by simp) _).trans (hb.mono (by simp; omega))
  have hz := hb.size
  have HS := Lib.hid (hs.mono (G := fun b => W.heap.size ≤ b ∧ b < w1.heap.size) (fun b hb => ⟨by have := hb.1; simp at this; omega, hb.2⟩))
  have HB2 := Lib.hid hb2
  clear hs hb hb2 hz
  go_wp2_with fail
  go_ret2
  exact ⟨_, rfl, HS.out, HB2.out⟩
end Go.Proofs.YthchnabhbpdfgaaDoor
