/- The laws' sortedRows; unify.Check and CheckRow; num. No conditions. -/
import Derived.Test.YtjofndhbpglfgaaDoorNormL
import Derived.Laws.Cover1
namespace Go.Proofs.YtjofndhbpglfgaaDoor
open Go.RowKit Go.Shelf Go.Sort Stab

def SrtAt (t : Ty) : Prop := ∀ (W : World) (F : Nat → Prop) (av : Value), TyC W F t av → Calls Tryd.prog 32 #[tyV t av] W fun e w' => e = .returned (.bool (srtB t)) ∧ Below W.heap.size W w'
set_option maxHeartbeats 400000 in
theorem srt_clo (a : Ty) (W : World) (F : Nat → Prop) (cs : List Value) (hx : Rp W F (tyD a) cs) (ih : SrtAt a) :
    Calls Tryd.prog 64 (#[.agg cs.toArray] ++ #[]) W fun e w' => e = .returned (.bool (!srtB a)) ∧ Below W.heap.size W w' := by
  obtain ⟨av, rfl, hT⟩ := tyD.rp.1 hx
  clear hx
  obtain ⟨A, c, rfl, _⟩ := hT.form
  obtain ⟨W1, hW1⟩ : ∃ W1, W.alloc (.cells #[.int .i64 a.kind, .string a.name, .int .i64 a.var, .slice A a.args.length c] 45) = W1 := ⟨_, rfl⟩
  have hb1 : Below W.heap.size W W1 := by rw [← hW1]; exact (Below.refl _ _).alloc (Nat.le_refl _) _
  have hih := ih W1 F _ (hT.later hb1)
  unfold tyV at hih
  have HIh := Lib.hid hih
  have HB1 := Lib.hid hb1
  have HW1 := Lib.hid hW1
  change Calls Tryd.prog 64 #[.agg #[.int .i64 a.kind, .string a.name, .int .i64 a.var, .slice A a.args.length c]] W _
  clear hT ih hih hb1 hW1
  go_enter Tryd.func64, Tryd.ntmps64
  go_wp2_with fail
  rw [HW1.out]
  with_reducible refine HIh.out.mono ?_
  rintro e w2 ⟨rfl, hb2⟩
  have HB2 := Lib.hid (HB1.out.trans (hb2.mono HB1.out.size))
  clear hb2
  go_wp2_with fail
  go_ret
  exact ⟨rfl, HB2.out⟩

set_option maxHeartbeats 4000000 in
theorem srt_step (t : Ty) (ih : ∀ a ∈ t.args, SrtAt a) : SrtAt t := by
  intro W F av hT
  obtain ⟨A, c, rfl, _⟩ := hT.form
  obtain ⟨b0, hb0⟩ : ∃ b0, W.heap.size = b0 := ⟨_, rfl⟩
  obtain ⟨W1, hW1⟩ : ∃ W1, W.alloc (.cells #[.int .i64 t.kind, .string t.name, .int .i64 t.var, .slice A t.args.length c] 45) = W1 := ⟨_, rfl⟩
  have hb1 : Below W.heap.size W W1 := by rw [← hW1]; exact (Below.refl _ _).alloc (Nat.le_refl _) _
  have hT1 := hT.later hb1
  have HC : Hid (∀ X, Below W1.heap.size W1 X → Calls Tryd.prog 51 #[.slice A t.args.length c, .func (.func 64) #[] #[]] X fun e w' => e = .returned (.bool (t.args.any fun a => !srtB a)) ∧ Below W1.heap.size W1 w') := fun X hX =>
    (tyHasFunc t.args _ F X (hT1.later hX).args 64 #[] (fun a => !srtB a) (enters_of Tryd.func64 (by kernel_rfl) rfl)
      (fun i h cs w1 _ hx => srt_clo _ w1 F cs hx (ih _ (List.getElem_mem h)))).mono fun e w' ⟨he, hb⟩ => ⟨he, hX.trans (hb.mono hX.size)⟩
  have hbk := Blk.new W 45 [.int .i64 t.kind, .string t.name, .int .i64 t.var, .slice A t.args.length c]
  rw [hW1, hb0] at hbk
  have x0 := hbk.cell (i := 0) rfl
  have x1 := hbk.cell (i := 1) rfl
  have x3 := hbk.cell (i := 3) rfl
  have HE0 := Lib.hid (srtB_eq t)
  have HT := Lib.hid hT
  have HB1 := Lib.hid hb1
  have HW1 := Lib.hid hW1
  have HB0 := Lib.hid hb0
  obtain ⟨q, hq⟩ : ∃ q, (t.args.any fun a => !srtB a) = q := ⟨_, rfl⟩
  rw [hq] at HC HE0
  unfold tyV
  clear hT hT1 ih hb1 hW1 hb0 hbk hq
  cases h1 : (t.kind == 5)
  · have HE : Hid (srtB t = !q) := by show _ = _; rw [HE0.out, srtHead_not (by rw [beq_eq_false_iff_ne] at h1; exact h1)]; rfl
    go_enter Tryd.func32, Tryd.ntmps32
    go_wp2_with fail
    go_quiet (fail)
    go_wp2_with fail
    rw [HW1.out]
    with_reducible refine (HC.out _ (Below.drewN (Below.refl _ _) _)).mono ?_
    rintro e w2 ⟨rfl, hb2⟩
    have HB2 := Lib.hid (HB1.out.trans (hb2.mono HB1.out.size))
    clear hb2
    go_wp2_with fail
    go_ret
    exact ⟨ret_bool HE.out.symm, HB2.out⟩
  · have hk : t.kind = 5 := by rw [beq_iff_eq] at h1; exact h1
    by_cases hl : t.args.length = 2
    · obtain ⟨a, r, hl2⟩ : ∃ a r, t.args = [a, r] := by
        rcases h : t.args with _ | ⟨a, _ | ⟨r, _ | ⟨z, zs⟩⟩⟩
        · rw [h] at hl; simp at hl
        · rw [h] at hl; simp at hl
        · exact ⟨a, r, rfl⟩
        · rw [h] at hl; simp at hl
      obtain ⟨g, off, vr, rfl, hFg, y0, y1, y2, y3, hTr⟩ := tyD.get (i := 1) HT.out.args (by omega)
      have hre : t.args[1]'(by omega) = r := by simp [hl2]
      rw [hre] at y0 y1 y2
      have hgl := block_lt_of_cell y0
      dsimp only at hgl
      clear y2 y3 hre hTr hFg
      have hsh : srtHead t.kind t.name t.args = !(r.kind == 5 && gtS t.name r.name) := by
        rw [hl2, hk]; rfl
      have HSH := Lib.hid hsh
      have l1 : (1 : Int) < (t.args.length : Int) := by omega
      have l2 : ((t.args.length : Int) == 2) = true := by rw [beq_iff_eq]; omega
      clear hl2 hl hk hsh
      cases h3 : (r.kind == 5)
      · have HE : Hid (srtB t = !q) := by show _ = _; rw [HE0.out, HSH.out, h3]; rfl
        go_enter Tryd.func32, Tryd.ntmps32
        go_wp2_with fail
        go_quiet (fail)
        go_wp2_with fail
        rw [HW1.out]
        with_reducible refine (HC.out _ (Below.drewN (Below.refl _ _) _)).mono ?_
        rintro e w2 ⟨rfl, hb2⟩
        have HB2 := Lib.hid (HB1.out.trans (hb2.mono HB1.out.size))
        clear hb2
        go_wp2_with fail
        go_ret
        exact ⟨ret_bool HE.out.symm, HB2.out⟩
      · cases h4 : Op.bytesLess t.name.toList r.name.toList
        · cases h5 : (t.name.toList == r.name.toList)
          · have HE : Hid (srtB t = false) := by show _ = _; rw [HE0.out, HSH.out, h3, gtS, h4, h5]; rfl
            go_enter Tryd.func32, Tryd.ntmps32
            go_wp2_with fail
            go_quiet (fail)
            go_wp2_with fail
            go_ret
            exact ⟨ret_bool HE.out.symm, by rw [HW1.out]; exact Below.drewN HB1.out _⟩
          · have HE : Hid (srtB t = !q) := by show _ = _; rw [HE0.out, HSH.out, h3, gtS, h4, h5]; rfl
            go_enter Tryd.func32, Tryd.ntmps32
            go_wp2_with fail
            go_quiet (fail)
            go_wp2_with fail
            rw [HW1.out]
            with_reducible refine (HC.out _ (Below.drewN (Below.refl _ _) _)).mono ?_
            rintro e w2 ⟨rfl, hb2⟩
            have HB2 := Lib.hid (HB1.out.trans (hb2.mono HB1.out.size))
            clear hb2
            go_wp2_with fail
            go_ret
            exact ⟨ret_bool HE.out.symm, HB2.out⟩
        · have HE : Hid (srtB t = !q) := by show _ = _; rw [HE0.out, HSH.out, h3, gtS, h4]; rfl
          go_enter Tryd.func32, Tryd.ntmps32
          go_wp2_with fail
          go_quiet (fail)
          go_wp2_with fail
          rw [HW1.out]
          with_reducible refine (HC.out _ (Below.drewN (Below.refl _ _) _)).mono ?_
          rintro e w2 ⟨rfl, hb2⟩
          have HB2 := Lib.hid (HB1.out.trans (hb2.mono HB1.out.size))
          clear hb2
          go_wp2_with fail
          go_ret
          exact ⟨ret_bool HE.out.symm, HB2.out⟩
    · have h2 : ((t.args.length : Int) == 2) = false := by rw [beq_eq_false_iff_ne]; omega
      have HE : Hid (srtB t = !q) := by
        show _ = _
        have : srtHead t.kind t.name t.args = true := by
          unfold srtHead
          split
          · rename_i e; rw [e] at hl; simp at hl
          · rfl
        rw [HE0.out, this]; rfl
      clear hl hk
      go_enter Tryd.func32, Tryd.ntmps32
      go_wp2_with fail
      go_quiet (fail)
      go_wp2_with fail
      rw [HW1.out]
      with_reducible refine (HC.out _ (Below.drewN (Below.refl _ _) _)).mono ?_
      rintro e w2 ⟨rfl, hb2⟩
      have HB2 := Lib.hid (HB1.out.trans (hb2.mono HB1.out.size))
      clear hb2
      go_wp2_with fail
      go_ret
      exact ⟨ret_bool HE.out.symm, HB2.out⟩
theorem srt_all (t : Ty) : SrtAt t := by
  obtain ⟨n, hn⟩ : ∃ n, nodes t = n := ⟨_, rfl⟩
  induction n using Nat.strongRecOn generalizing t with
  | _ n ih => exact srt_step t (fun a ha => ih (nodes a) (by have := nodess_mem t.args a ha; have := nodes_eq t; omega) a rfl)

/-! ### Check, CheckRow, num -/
set_option maxHeartbeats 400000 in
theorem check_any (t : Ty) (W : World) (F : Nat → Prop) (av : Value) (hT : TyC W F t av) (hF : ∀ b, F b → b < W.heap.size) (hz : Szs W) :
    Calls Tryd.prog 23 #[tyV t av] W fun e w' => e = .returned (.int .i64 (chk t 4096 false 1).1) ∧ Below W.heap.size W w' := by
  obtain ⟨A, c, rfl, _⟩ := hT.form
  obtain ⟨tb, htb⟩ : ∃ tb, W.heap.size = tb := ⟨_, rfl⟩
  obtain ⟨W2, hW2⟩ : ∃ W2, (W.alloc (.cells #[.int .i64 t.kind, .string t.name, .int .i64 t.var, .slice A t.args.length c] 45)).alloc (.cells #[.int .i64 4096] 92) = W2 := ⟨_, rfl⟩
  have hk2 : Keeps (fun _ => False) W W2 := by rw [← hW2]; exact ((Keeps.refl _ _).alloc _).alloc _
  have hc2 : Blk W2 (tb + 1) 92 [.int .i64 4096] := by
    have := Blk.new (W.alloc (.cells #[.int .i64 t.kind, .string t.name, .int .i64 t.var, .slice A t.args.length c] 45)) 92 [.int .i64 4096]
    rw [hW2] at this
    simpa [htb] using this
  have hzl := block_lt_of_cell hz.c0
  have HCk := Lib.hid (chk_all t W2 tb (tb + 1) _ 4096 1 false ((hT.keeps hk2 (fun _ _ h => h)).mono (fun b hb => by have := hF b hb; omega)) hc2 (by dsimp at hzl; omega) (by omega) (hz.keeps hk2 (fun h => h)) (by omega) (by omega) (by omega) (by omega))
  have HW2 := Lib.hid hW2
  have HK2 := Lib.hid hk2
  have HTb := Lib.hid htb
  unfold tyV
  clear hT hF hz hW2 hk2 hc2 htb hzl
  go_enter Tryd.func23, Tryd.ntmps23
  go_wp2_with fail
  rw [HW2.out, HTb.out]
  with_reducible refine HCk.out.mono ?_
  rintro e w3 ⟨rfl, _, hk3⟩
  have hb3 : Below W.heap.size W w3 := (HK2.out.trans hk3 (fun i hi h => by have := HTb.out; omega)).below (fun _ h => h.elim) (Nat.le_refl _)
  have HB3 := Lib.hid hb3
  clear hk3 hb3
  go_wp2_with fail
  go_ret
  exact ⟨rfl, HB3.out⟩
set_option maxHeartbeats 400000 in
theorem checkRow_any (t : Ty) (W : World) (F : Nat → Prop) (av : Value) (hT : TyC W F t av) (hF : ∀ b, F b → b < W.heap.size) (hz : Szs W) :
    Calls Tryd.prog 30 #[tyV t av] W fun e w' => e = .returned (.int .i64 (chk t 4096 true 1).1) ∧ Below W.heap.size W w' := by
  obtain ⟨A, c, rfl, _⟩ := hT.form
  obtain ⟨tb, htb⟩ : ∃ tb, W.heap.size = tb := ⟨_, rfl⟩
  obtain ⟨W2, hW2⟩ : ∃ W2, (W.alloc (.cells #[.int .i64 t.kind, .string t.name, .int .i64 t.var, .slice A t.args.length c] 45)).alloc (.cells #[.int .i64 4096] 92) = W2 := ⟨_, rfl⟩
  have hk2 : Keeps (fun _ => False) W W2 := by rw [← hW2]; exact ((Keeps.refl _ _).alloc _).alloc _
  have hc2 : Blk W2 (tb + 1) 92 [.int .i64 4096] := by
    have := Blk.new (W.alloc (.cells #[.int .i64 t.kind, .string t.name, .int .i64 t.var, .slice A t.args.length c] 45)) 92 [.int .i64 4096]
    rw [hW2] at this
    simpa [htb] using this
  have hzl := block_lt_of_cell hz.c0
  have HCk := Lib.hid (chk_all t W2 tb (tb + 1) _ 4096 1 true ((hT.keeps hk2 (fun _ _ h => h)).mono (fun b hb => by have := hF b hb; omega)) hc2 (by dsimp at hzl; omega) (by omega) (hz.keeps hk2 (fun h => h)) (by omega) (by omega) (by omega) (by omega))
  have HW2 := Lib.hid hW2
  have HK2 := Lib.hid hk2
  have HTb := Lib.hid htb
  unfold tyV
  clear hT hF hz hW2 hk2 hc2 htb hzl
  go_enter Tryd.func30, Tryd.ntmps30
  go_wp2_with fail
  rw [HW2.out, HTb.out]
  with_reducible refine HCk.out.mono ?_
  rintro e w3 ⟨rfl, _, hk3⟩
  have hb3 : Below W.heap.size W w3 := (HK2.out.trans hk3 (fun i hi h => by have := HTb.out; omega)).below (fun _ h => h.elim) (Nat.le_refl _)
  have HB3 := Lib.hid hb3
  clear hk3 hb3
  go_wp2_with fail
  go_ret
  exact ⟨rfl, HB3.out⟩
def numT : Ty := .mk 1 ⟨#[80, 114, 101, 108, 117, 100, 101, 46, 73, 110, 116]⟩ 0 []
set_option maxHeartbeats 400000 in
theorem num_any (W : World) : Calls Tryd.prog 28 #[] W fun e w' => e = .returned (tyV numT (.slice none 0 0)) ∧ Keeps (fun _ => False) W w' := by
  go_enter Tryd.func28, Tryd.ntmps28
  go_wp2_with fail
  refine ret_row Tryd.results28 rfl (Blk.new W 45 [.int .i64 1, .string ⟨#[80, 114, 101, 108, 117, 100, 101, 46, 73, 110, 116]⟩, .int .i64 0, .slice none 0 0]) Tryd.underlying45 (by kernel_rfl) rfl ⟨rfl, (Keeps.refl _ _).alloc _⟩
theorem num_ok {w : World} {F : Nat → Prop} : TyC w F numT (.slice none 0 0) := ⟨by show (Lit.int .i64 1).wf = true; decide, by show (11 : Nat) ≤ maxLen; unfold maxLen; omega, by show (Lit.int .i64 0).wf = true; decide, Sl.nil_⟩
end Go.Proofs.YtjofndhbpglfgaaDoor
