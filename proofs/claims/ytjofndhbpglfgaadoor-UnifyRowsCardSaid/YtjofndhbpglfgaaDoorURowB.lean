/- The laws' UnifyRows: the row of a list of labels (its closure). -/
import Derived.Test.YtjofndhbpglfgaaDoorURowL
namespace Go.Proofs.YtjofndhbpglfgaaDoor
open Go.RowKit Go.Shelf Go.Sort Stab

def ent (n : ByteArray) : ByteArray × Ty := (n, varT (labV n : Int))
def entL (l : List ByteArray) : List (ByteArray × Ty) := (l.map ent).reverse
theorem entL_step (l : List ByteArray) (k : Nat) (h : k < l.length) : entL (l.take (k + 1)) = ent l[k] :: entL (l.take k) := by
  unfold entL
  rw [← List.take_append_getElem h, List.map_append, List.reverse_append]; rfl
theorem entL_rowOf (l : List ByteArray) (h : l.length ≤ 300) : RowOf (entL l) := by
  refine ⟨fun x hx => ?_, by unfold entL; rw [List.length_reverse, List.length_map]; exact h⟩
  unfold entL at hx
  obtain ⟨n, _, rfl⟩ := List.mem_map.1 (List.mem_reverse.1 hx)
  rfl
theorem entL_perm {l m : List ByteArray} (h : l.Perm m) : (entL l).Perm (entL m) := ((List.reverse_perm _).trans (h.map ent)).trans (List.reverse_perm _).symm
/-- What the closure leaves. -/
def RowPost (t : Ty) (W : World) (e : Ending) (w' : World) : Prop := ∃ av, e = .returned (tyV t av) ∧ TyC w' (fun b => W.heap.size ≤ b ∧ b < w'.heap.size) t av ∧ Keeps (fun _ => False) W w'

set_option maxHeartbeats 4000000 in
theorem build_any (l : List ByteArray) (v : Value) (F : Nat → Prop) (W : World) (hv : Sl W F dStr l v) (hF : ∀ b, F b → b < W.heap.size) :
    Calls Tryd.prog 35 #[v] W (RowPost (rowT (entL l)) W) := by
  obtain ⟨A, c, rfl, hlc, hcm, _⟩ := hv.form
  have hl : l.length ≤ 9223372036854775807 := by unfold maxLen at hcm; omega
  obtain ⟨W0, hW0⟩ : ∃ W0, (W.alloc (.cells #[.int .i64 0, .string ⟨#[]⟩, .int .i64 0, .slice none 0 0] 45)).alloc (.cells #[.int .i64 4, .string ⟨#[]⟩, .int .i64 0, .slice none 0 0] 45) = W0 := ⟨_, rfl⟩
  obtain ⟨b0, hb0⟩ : ∃ b0, W.heap.size = b0 := ⟨_, rfl⟩
  have hk0 : Keeps (fun _ => False) W W0 := by rw [← hW0]; exact ((Keeps.refl _ _).alloc _).alloc _
  have hR : Blk W0 b0 45 [.int .i64 0, .string ⟨#[]⟩, .int .i64 0, .slice none 0 0] := by
    rw [← hW0, ← hb0]; exact (Blk.new W _ [_, _, _, _]).alloc _
  have hO : Blk W0 (b0 + 1) 45 [.int .i64 4, .string ⟨#[]⟩, .int .i64 0, .slice none 0 0] := by
    have := Blk.new (W.alloc (.cells #[.int .i64 0, .string ⟨#[]⟩, .int .i64 0, .slice none 0 0] 45)) 45 [.int .i64 4, .string ⟨#[]⟩, .int .i64 0, .slice none 0 0]
    rw [hW0] at this
    simpa [hb0] using this
  have hv0 := hv.keeps hk0 (fun _ _ h => h)
  have hs0 : W0.heap.size = b0 + 2 := by rw [← hW0, ← hb0]; simp
  have HV := Lib.hid hv0
  have HF := Lib.hid hF
  have HK0 := Lib.hid hk0
  have HR := Lib.hid hR
  have HO := Lib.hid hO
  have HS0 := Lib.hid hs0
  have HW0 := Lib.hid hW0
  have HB0 := Lib.hid hb0
  clear hv hF hk0 hR hO hs0 hW0 hb0 hv0
  go_enter Tryd.func35, Tryd.ntmps35
  go_wp2_with fail
  rw [HW0.out, HB0.out]
  go_loopw [5, 9] (fun _ i wr => ∃ (k : Nat) (B : Option Addr) (d : Nat), k ≤ l.length ∧ i = .int .i64 k ∧ Keeps (· = b0 + 1) W0 wr ∧ Blk wr (b0 + 1) 45 [.int .i64 (rowT (entL (l.take k))).kind, .string (rowT (entL (l.take k))).name, .int .i64 (rowT (entL (l.take k))).var, .slice B (rowT (entL (l.take k))).args.length d] ∧ TyC wr (fun b => W0.heap.size ≤ b ∧ b < wr.heap.size) (rowT (entL (l.take k))) (.slice B (rowT (entL (l.take k))).args.length d)) (fun _ i _ => l.length - (intOf i).toNat)
  case atStart => exact ⟨0, none, 0, Nat.zero_le _, rfl, Keeps.refl _ _, HO.out, ⟨by show (Lit.int .i64 4).wf = true; decide, by show (0 : Nat) ≤ maxLen; exact Nat.zero_le _, by show (Lit.int .i64 0).wf = true; decide, Sl.nil_⟩⟩
  case round =>
    obtain ⟨k, B, d, hk, rfl, hkr, hob, hoT⟩ := hrel
    have hob2 := hob
    obtain ⟨o, ho⟩ : ∃ o, rowT (entL (l.take k)) = o := ⟨_, rfl⟩
    rw [ho] at hob hoT
    by_cases hlt : k < l.length
    · have hst := entL_step l k hlt
      obtain ⟨g, off, hadr, hFg, c0, hsz⟩ := dStr.get (HV.out.keeps hkr (fun i hi h => by have := HF.out i hi; have := HB0.out; omega)) hlt
      obtain rfl := hadr
      obtain ⟨n, hn⟩ : ∃ n, l[k] = n := ⟨_, rfl⟩
      rw [hn] at c0 hsz hst
      have q0 := hob.cell (i := 0) rfl
      have q1 := hob.cell (i := 1) rfl
      have q2 := hob.cell (i := 2) rfl
      have q3 := hob.cell (i := 3) rfl
      have hgl := block_lt_of_cell c0
      have hol := hob.lt
      dsimp only at hgl
      have hmod : ((n.size : Int)).tmod 12 = (labV n : Int) := by
        unfold labV
        rw [Int.tmod_eq_emod_of_nonneg (by omega)]; omega
      have HEx := Lib.hid (ext_any n hsz wr _ (varT (labV n : Int)) o (.slice none 0 0) (.slice B o.args.length d) (varT_ok (wfI_nat (by unfold labV; omega))) hoT)
      have k0 : (0 : Int) ≤ (k : Int) := by omega
      have k1 : (k : Int) < (l.length : Int) := by omega
      have HOb := Lib.hid hob
      have HOT := Lib.hid hoT
      have HKR := Lib.hid hkr
      have HST := Lib.hid hst
      have HSz := Lib.hid hsz
      have HN := Lib.hid hn
      have HOo := Lib.hid ho
      clear hob hoT hkr hst hsz hn ho hob2
      go_wp2_with fail
      refine HEx.out.mono ?_
      rintro e w2 ⟨nv, rfl, hT2, hb2⟩
      obtain ⟨nB, nd, rfl, _⟩ := hT2.form
      obtain ⟨o2, ho2⟩ : ∃ o2, extT n (varT (labV n : Int)) o = o2 := ⟨_, rfl⟩
      rw [ho2] at hT2 ⊢
      have hr2 : rowT (entL (l.take (k + 1))) = o2 := by
        rw [HST.out, rowT_cons, HOo.out, ← ho2]; rfl
      have hob2 := HOb.out.later hb2
      have hs2 := hb2.size
      have f0 := hob2.free 0
      have f1 := hob2.free 1
      have f2 := hob2.free 2
      have f3 := hob2.free 3
      have p0 := hob2.cell (i := 0) rfl
      have p1 := hob2.cell (i := 1) rfl
      have p2 := hob2.cell (i := 2) rfl
      have p3 := hob2.cell (i := 3) rfl
      obtain ⟨hb4, hk4⟩ := four hob2 (.int .i64 o2.kind) (.string o2.name) (.int .i64 o2.var) (.slice nB o2.args.length nd)
      have hT4 := hT2.keeps hk4 (fun i hi h => by
        have h0 : i = b0 + 1 := h
        have := HS0.out
        rcases hi with hi | hi
        · have := hi.1; omega
        · have := hi.1; have := HKR.out.size; omega)
      have hT5 : TyC _ (fun b => W0.heap.size ≤ b ∧ b < w2.heap.size) o2 (.slice nB o2.args.length nd) := hT4.mono (fun b hb => by
        rcases hb with hb | hb
        · exact ⟨hb.1, by have := hb.2; omega⟩
        · exact ⟨by have := hb.1; have := HKR.out.size; omega, hb.2⟩)
      have hk5 : Keeps (· = b0 + 1) W0 w2 := HKR.out.trans (Keeps.of_below (X := fun _ => False) hb2) (fun _ _ h => h.elim)
      have hk6 := hk5.trans hk4 (fun _ _ h => h)
      have HT5 := Lib.hid hT5
      have HK6 := Lib.hid hk6
      have HB4 := Lib.hid hb4
      have HR2 := Lib.hid hr2
      clear hT2 hb2 ho2 hr2 hob2 hs2 hb4 hk4 hT4 hT5 hk5 hk6 q0 q1 q2 q3
      unfold tyV
      go_wp2_with fail
      go_roundw
      case rel => exact ⟨k + 1, nB, nd, by omega, by go_num, HK6.out, by rw [HR2.out]; exact HB4.out, by rw [HR2.out]; simpa using HT5.out⟩
      case measure => simp [intOf]; omega
    · have hke : k = l.length := by omega
      subst hke
      rw [List.take_length] at ho
      have o0 := hob.cell (i := 0) rfl
      have o1 := hob.cell (i := 1) rfl
      have o2 := hob.cell (i := 2) rfl
      have o3 := hob.cell (i := 3) rfl
      have hrb := HR.out.keeps hkr (by omega)
      have r0 := hrb.cell (i := 0) rfl
      have r1 := hrb.cell (i := 1) rfl
      have r2 := hrb.cell (i := 2) rfl
      have r3 := hrb.cell (i := 3) rfl
      have f0 := hrb.free 0
      have f1 := hrb.free 1
      have f2 := hrb.free 2
      have f3 := hrb.free 3
      obtain ⟨hb4, hk4⟩ := four hrb (.int .i64 o.kind) (.string o.name) (.int .i64 o.var) (.slice B o.args.length d)
      have hT4 := hoT.keeps hk4 (fun i hi h => by
        have h0 : i = b0 := h
        have := HS0.out
        have := hi.1
        omega)
      have HT4 : Hid _ := (hT4.mono (fun b hb => ⟨by have := hb.1; have := HS0.out; have := HB0.out; omega, hb.2⟩) : TyC _ (fun b => W.heap.size ≤ b ∧ b < wr.heap.size) o _)
      have hkk : Keeps (fun _ => False) W _ := (HK0.out.trans hkr (fun i hi h => by have h0 : i = b0 + 1 := h; have := HB0.out; omega)).trans hk4 (fun i hi h => by have h0 : i = b0 := h; have := HB0.out; omega)
      have HKK := Lib.hid hkk
      have HB4 := Lib.hid hb4
      have HOo := Lib.hid ho
      have k1 : ¬ (l.length : Int) < (l.length : Int) := by omega
      clear hob hoT hkr hrb hb4 hk4 hT4 hkk ho hob2
      go_wp2_with fail
      rw [HOo.out]
      exact ret_row Tryd.results35 rfl HB4.out Tryd.underlying45 (by kernel_rfl) rfl ⟨_, rfl, by simpa using HT4.out, HKK.out⟩
end Go.Proofs.YtjofndhbpglfgaaDoor
