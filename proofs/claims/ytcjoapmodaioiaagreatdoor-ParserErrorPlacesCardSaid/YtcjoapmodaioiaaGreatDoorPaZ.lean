/- depth, walked. -/
import Derived.Test.YtcjoapmodaioiaaGreatDoorPlC
import Derived.Test.YtcjoapmodaioiaaGreatDoorShelfLex
import Derived.Deep.LoopGhost
set_option linter.unusedVariables false
set_option linter.unusedSimpArgs false
namespace Go.Proofs.YtcjoapmodaioiaaGreatDoor
open Go.RowKit Go.Shelf Pa

theorem infoInts : (Tryz.prog.info? 3).map (fun i => (i.zero, i.size, i.bytes)) = some (some (.int .i64 0), 1, 8) := by kernel_rfl
def natc (l : List Nat) : List Value := l.map kidC
theorem made_nat (n : Nat) : madeCells (Value.int IntKind.i64 0).cells n = (natc (List.replicate n 0)).toArray := by
  apply Array.ext'; rw [List.toList_toArray]; apply List.ext_getElem
  · simp [madeCells, natc]
  · intro i h1 h2; simp [madeCells, natc, Value.cells, Nat.mod_one, kidC]
def kmax (d : List Nat) (kids : List Nat) : Nat := kids.foldl (fun m j => max m (d.getD j 0)) 0
theorem depths_snoc (l : List Nd) (x : Nd) : ∀ d, depths (l ++ [x]) d = depths l d ++ [kmax (depths l d) x.kids + 1] := by
  induction l with
  | nil => intro d; rfl
  | cons y l ih => intro d; exact ih _
theorem depths_len (l : List Nd) : ∀ d, (depths l d).length = d.length + l.length := by
  induction l with
  | nil => intro d; rfl
  | cons y l ih => intro d; rw [depths, ih]; simp; omega
theorem foldl_max_le (d : List Nat) (b : Nat) (hd : ∀ x ∈ d, x ≤ b) (kids : List Nat) : ∀ m, m ≤ b → kids.foldl (fun m j => max m (d.getD j 0)) m ≤ b := by
  induction kids with
  | nil => intro m h; exact h
  | cons k kids ih =>
    intro m h; refine ih _ ?_
    have h9 : d.getD k 0 ≤ b := by
      rw [List.getD_eq_getElem?_getD]
      cases hk : d[k]? with
      | none => exact Nat.zero_le _
      | some y => exact hd y (List.mem_of_getElem? hk)
    show max m (d.getD k 0) ≤ b
    omega
theorem depths_le (l : List Nd) : ∀ d b, (∀ x ∈ d, x ≤ b) → ∀ x ∈ depths l d, x ≤ b + l.length := by
  induction l with
  | nil => intro d b h x hx; have := h x hx; omega
  | cons y l ih =>
    intro d b h x hx
    have := ih (d ++ [kmax d y.kids + 1]) (b + 1) (fun z hz => by
      rcases List.mem_append.1 hz with hz | hz
      · have := h z hz; omega
      · rw [List.mem_singleton.1 hz]; have := foldl_max_le d b h y.kids 0 (Nat.zero_le _); unfold kmax; omega) x hx
    simp only [List.length_cons]; omega
theorem max_fold (l : List Nat) : ∀ m : Nat, (l.map (Int.ofNat)).foldl max (m : Int) = ((l.foldl max m : Nat) : Int) := by
  induction l with
  | nil => intro m; rfl
  | cons x l ih => intro m; rw [List.map_cons, List.foldl_cons, List.foldl_cons, show max (m : Int) (Int.ofNat x) = ((max m x : Nat) : Int) from by show max (m : Int) (x : Int) = _; omega, ih]
theorem max_of (l : List Nat) (h : 0 < l.length) : Lib.maxOf (l.map Int.ofNat) = ((l.foldl max 0 : Nat) : Int) := by
  cases l with
  | nil => simp at h
  | cons x l =>
    unfold Lib.maxOf; (rw [List.map_cons, List.headD_cons, List.foldl_cons, show max (Int.ofNat x) (Int.ofNat x) = ((x : Nat) : Int) from by show max (x : Int) (x : Int) = _; omega, max_fold, List.foldl_cons]); simp
structure NsAt (w : World) (G : Nat → Prop) (ns : List Nv) (g : Nat) : Prop where
  cell : ∀ i (h : i < ns.length) (j : Nat) (u : Value), (ns[i].cells)[j]? = some u → w.cell? ⟨g, i * 6 + j, none⟩ = some u
  kids : ∀ x ∈ ns, Sl w G kidD x.nd.kids x.kv
theorem kidD.wide : Wide kidD 1 := fun _ _ _ _ h => by unfold kidD at h; rw [rp_int] at h; rw [h.1]; rfl
theorem NsAt.keeps {w w' : World} {G X : Nat → Prop} {ns : List Nv} {g : Nat} (h : NsAt w G ns g) (hk : Keeps X w w') (h1 : ¬ X g) (h2 : ∀ i, G i → ¬ X i) : NsAt w' G ns g :=
  ⟨fun i hi j u hu => hk.cell (h.cell i hi j u hu) h1, fun x hx => (h.kids x hx).keeps hk h2⟩
section
variable {D R : List Nat} {i m : Nat}
theorem nat_at (h : D.length = i) : (natc (D ++ m :: R))[i]? = some (.int .i64 (m : Int)) := by
  unfold natc; subst h; simp [kidC]
theorem nat_lt (h : D.length = i) {k : Nat} (hk : k < i) : (natc (D ++ m :: R))[k]? = some (.int .i64 ((D.getD k 0 : Nat) : Int)) := by
  unfold natc; subst h; rw [List.getElem?_map, List.getElem?_append_left hk]; simp [kidC, List.getElem?_eq_getElem hk]
theorem nat_set (h : D.length = i) (m' : Nat) : (natc (D ++ m :: R)).set i (.int .i64 (m' : Int)) = natc (D ++ m' :: R) := by
  unfold natc; subst h; (rw [List.map_append, List.set_append_right _ _ (by simp)]); simp [kidC]
theorem kmax_snoc (D : List Nat) (l : List Nat) (k : Nat) : kmax D (l ++ [k]) = max (kmax D l) (D.getD k 0) := by unfold kmax; rw [List.foldl_append]; rfl
end
set_option maxRecDepth 100000 in
set_option maxHeartbeats 8000000 in
theorem depth_any {W : World} {G : Nat → Prop} {ns : List Nv} {g cap : Nat} (h : NsAt W G ns g) (hg : g < W.heap.size) (hG : ∀ i, G i → i < W.heap.size) (h0 : 0 < ns.length) (h1 : ns.length ≤ 4096) (hk : ∀ i (h : i < ns.length), ∀ k ∈ ns[i].nd.kids, k < i) :
    Calls Tryz.prog 20 #[.slice (some ⟨g, 0, none⟩) ns.length cap] W fun e w' => e = .returned (.int .i64 (depth (ns.map Nv.nd) : Int)) ∧ Keeps (fun _ => False) W w' := by
  obtain ⟨N, hN⟩ : ∃ N, ns.length = N := ⟨_, rfl⟩
  have hMk : ∀ W : World, (Instr.makeSlice 33 (.int .i64 (N : Int)) (.int .i64 (N : Int))).run Tryz.prog W = .ok (.slice (some ⟨W.heap.size, 0, none⟩) N N) (W.alloc (.cells (natc (List.replicate N 0)).toArray 3)) := fun W => by
    obtain ⟨i0, hi0, hz0, hz1, hz2⟩ := info_parts infoInts; (have h := run_make (P := Tryz.prog) W 33 3 i0 (.int .i64 0) Tryz.underlying33 hi0 hz0 .i64 .i64 (N : Int) (N : Int) (by omega) (by omega) (by rw [hz2]; omega) (by omega)); simp only [Int.toNat_natCast, hz1, Nat.mul_one] at h; rw [made_nat] at h; exact h
  (have HN0 : Hid (0 < N) := by rw [← hN]; exact h0); (have HN1 : Hid (N ≤ 4096) := by rw [← hN]; exact h1); have HNN := Lib.hid hN; have HH := Lib.hid h; have HG := Lib.hid hG; have HK := Lib.hid hk; have HL := Lib.hid hg; rw [hN]; clear hN h0 h1 h hG hk hg; go_enter Tryz.func20, Tryz.ntmps20; go_wp2_with fail; obtain ⟨g2, hg2⟩ : ∃ g, W.heap.size = g := ⟨_, rfl⟩; obtain ⟨W1, hW1⟩ : ∃ x, W.alloc (.cells (natc (List.replicate N 0)).toArray 3) = x := ⟨_, rfl⟩; have hb := Blk.new W 3 (natc (List.replicate N 0)); (have hk1 : Keeps (fun _ => False) W (W.alloc (.cells (natc (List.replicate N 0)).toArray 3)) := (Keeps.refl _ _).alloc _); rw [hW1, hg2] at hb; rw [hW1] at hk1; rw [hW1, hg2]; have HB := Lib.hid hb; have HK1 := Lib.hid hk1; have HG2 := Lib.hid hg2; clear hW1 hb hk1 hg2 hMk; go_loopw [13] (fun x wr => ∃ (i : Nat), i ≤ N ∧ x = .int .i64 i ∧ Hid (Blk wr g2 3 (natc (depths ((ns.take i).map Nv.nd) [] ++ List.replicate (N - i) 0))) ∧ Hid (Keeps (· = g2) W1 wr)) (fun x _ => N - (intOf x).toNat)
  case atStart => exact ⟨0, Nat.zero_le _, rfl, by simpa [depths] using HB, Keeps.refl _ _⟩
  case round =>
    obtain ⟨i, hi, rfl, hb1, hkw⟩ := hrel; by_cases hlt : i < N
    · (have j0 : (0 : Int) ≤ (i : Int) := by omega); (have j1 : (i : Int) < (N : Int) := by omega); (have jm : (i : Int) ≤ 4096 := by have := HN1.out; omega); (have hk5 := HK1.out.trans (hkw.out.mono (Y := fun b => ¬ b < W.heap.size) (fun b _ e => by subst e; have := HG2.out; omega)) (fun b hb h => h hb)); (have hil : i < ns.length := by have := HNN.out; omega); (have hns := HH.out.keeps hk5 (fun h => h) (fun _ _ h => h)); obtain ⟨x, hx⟩ : ∃ x, ns[i] = x := ⟨_, rfl⟩; (have y0 : wr.cell? ⟨g, i * 6, none⟩ = some (.int .i64 x.nd.kind) := hns.cell i hil 0 (.int .i64 x.nd.kind) (by rw [hx]; rfl)); (have y1 := hns.cell i hil 1 (.string x.nd.text) (by rw [hx]; rfl)); (have y2 := hns.cell i hil 2 (.int .i64 x.nd.n) (by rw [hx]; rfl)); (have y3 := hns.cell i hil 3 x.kv (by rw [hx]; rfl)); (have y4 := hns.cell i hil 4 (.int .i64 x.line) (by rw [hx]; rfl)); (have y5 := hns.cell i hil 5 (.int .i64 x.col) (by rw [hx]; rfl)); (have hkd := hns.kids x (by rw [← hx]; exact List.getElem_mem hil)); obtain ⟨A, c, hv, hlc, hcm, _⟩ := hkd.form; rw [hv] at y3 hkd; have hord := HK.out i hil; rw [hx] at hord; obtain ⟨D, hD⟩ : ∃ D, depths ((ns.take i).map Nv.nd) [] = D := ⟨_, rfl⟩; rw [hD] at hb1; (have hDl : D.length = i := by rw [← hD, depths_len]; simp; omega); have HKd := Lib.hid hkd; have HO := Lib.hid hord; have HD := Lib.hid hD; have HDl := Lib.hid hDl; have HX := Lib.hid hx; have HNs := Lib.hid hns; clear hkd hord hD hDl hx hns hk5; have hgl : g2 < wr.heap.size := hb1.out.lt
      have hDb : ∀ z ∈ D, z ≤ i := by
        (have := depths_le ((ns.take i).map Nv.nd) [] 0 (fun _ h => by cases h)); rw [HD.out] at this; intro z hz; have h2 := this z hz; simp at h2; omega
      have HDb := Lib.hid hDb; clear hDb; go_upto_region 5 with (fail); (have hk4 : Keeps (fun _ => False) wr (wr.alloc (.cells #[.int .i64 x.nd.kind, .string x.nd.text, .int .i64 x.nd.n, .slice A x.nd.kids.length c, .int .i64 x.line, .int .i64 x.col] 35)) := (Keeps.refl _ _).alloc _); have hb4 := Blk.new wr 35 [.int .i64 x.nd.kind, .string x.nd.text, .int .i64 x.nd.n, .slice A x.nd.kids.length c, .int .i64 x.line, .int .i64 x.col]; obtain ⟨b5, hb5⟩ : ∃ b, wr.heap.size = b := ⟨_, rfl⟩; obtain ⟨w4, hw4⟩ : ∃ y, wr.alloc (.cells #[.int .i64 x.nd.kind, .string x.nd.text, .int .i64 x.nd.n, .slice A x.nd.kids.length c, .int .i64 x.line, .int .i64 x.col] 35) = y := ⟨_, rfl⟩; rw [show wr.alloc (.cells [Value.int .i64 x.nd.kind, .string x.nd.text, .int .i64 x.nd.n, .slice A x.nd.kids.length c, .int .i64 x.line, .int .i64 x.col].toArray 35) = w4 from hw4, hb5] at hb4; rw [hw4] at hk4; rw [hw4, hb5]; have x3 := hb4.cell (i := 3) rfl; (have hbd : Blk w4 g2 3 (natc (D ++ List.replicate (N - i) 0)) := hb1.out.keeps hk4 (fun h => h)); (rw [show N - i = (N - i - 1) + 1 from by omega, List.replicate_succ] at hbd); have HB4 := Lib.hid hbd; have HK4 := Lib.hid hk4; have HG5 := Lib.hid hb5; (have HKd4 := Lib.hid (HKd.out.keeps hk4 (fun _ _ h => h))); (have HGg : Hid (∀ i, G i → ¬ i = g2) := fun i hi e => by have := HG.out i hi; have := HG2.out; omega); clear hw4 hb4 hk4 hb5 hbd y0 y1 y2 y3 y4 y5; go_wp2_with fail; clear x3; obtain ⟨R, hR⟩ : ∃ R, List.replicate (N - i - 1) 0 = R := ⟨_, rfl⟩; rw [hR] at HB4; have HRr := Lib.hid hR; clear hR; go_loopw [21] (fun y wi => ∃ (q m : Nat), q ≤ x.nd.kids.length ∧ y = .int .i64 q ∧ Hid (Blk wi g2 3 (natc (D ++ m :: R))) ∧ Hid (Keeps (· = g2) w4 wi) ∧ Hid (kmax D (x.nd.kids.take q) = m)) (fun y _ => x.nd.kids.length - (intOf y).toNat)
      case atStart => exact ⟨0, 0, Nat.zero_le _, rfl, HB4, Keeps.refl _ _, rfl⟩
      case round =>
        obtain ⟨q, m, hq, rfl, hbi, hki, hkm⟩ := hrel; (have hmi : m ≤ i := by rw [← hkm.out]; exact foldl_max_le D i HDb.out _ 0 (Nat.zero_le _)); by_cases hlq : q < x.nd.kids.length
        · (have q0 : (0 : Int) ≤ (q : Int) := by omega); (have q1 : (q : Int) < (x.nd.kids.length : Int) := by omega); (have qm : (q : Int) ≤ 9223372036854775806 := by have h9 := hcm; unfold maxLen at h9; omega); obtain ⟨g3, off, cs, hA, hg3, hcs, _, hat⟩ := Sl.get (HKd4.out.keeps hki.out HGg.out) kidD.wide hlq; obtain ⟨kq, hkq⟩ : ∃ k, x.nd.kids[q] = k := ⟨_, rfl⟩; (have hki2 : kq < i := HO.out kq (by rw [← hkq]; exact List.getElem_mem hlq)); unfold kidD at hcs; rw [rp_int, hkq] at hcs; obtain ⟨rfl, _⟩ := hcs; have hcq := hat 0 _ rfl; rw [Nat.mul_one, Nat.add_zero] at hcq; subst hA; obtain ⟨dk, hdk⟩ : ∃ k, D.getD kq 0 = k := ⟨_, rfl⟩; have hb2 := hbi.out; have hci := nat_at (m := m) (R := R) HDl.out; have hc1 := hb2.cell hci; have hc2 := hb2.cell (nat_lt (m := m) (R := R) HDl.out hki2); rw [hdk] at hc2; (have k0 : (0 : Int) ≤ (kq : Int) := by omega); (have k1 : (kq : Int) < (N : Int) := by omega); have HKq := Lib.hid hkq; have HDk := Lib.hid hdk; clear hat hkq hdk hki2; go_upto_region 8 with (fail); refine wp_region_noPanic ?_; refine wp_region_till [12] (fun X => X.cell? ⟨g2, i, none⟩ = some (.int .i64 (m : Int)) ∧ X.cell? ⟨g2, kq, none⟩ = some (.int .i64 (dk : Int))) (by kernel_rfl) ?_ (fun hE => ?_)
          · exact ⟨hc1, hc2⟩
          (have hS := hE (by kernel_rfl)); refine wpAnyT_pure (i := 0) (v := ?v8_0_1) rfl (by kernel_rfl) (fun _ _ _ h => h) (Or.inl ⟨by rfl, ?y8_0_1⟩) (fun _ => hS) ?_
          case y8_0_1 => (intro w hSw; go_simp; try with_reducible rfl)
          (try simp only [AP]); refine wpAnyT_pure (i := 1) (v := ?v8_1_2) rfl (by kernel_rfl) (fun _ _ _ h => h) (Or.inl ⟨by rfl, ?y8_1_2⟩) (fun _ => hS) ?_
          case y8_1_2 => (intro w hSw; go_simp; try with_reducible rfl)
          (try simp only [AP]); refine wpAnyT_pure (i := 2) (v := ?v8_2_3) rfl (by kernel_rfl) (fun _ _ _ h => h) (Or.inl ⟨by rfl, ?y8_2_3⟩) (fun _ => hS) ?_
          case y8_2_3 => (intro w hSw; go_simp; try with_reducible rfl)
          (try simp only [AP]); refine wpAnyT_pure (i := 3) (v := ?v8_3_4) rfl (by kernel_rfl) (fun _ _ _ h => h) (Or.inl ⟨by rfl, ?y8_3_4⟩) (fun _ => hS) ?_
          case y8_3_4 => (intro w hSw; go_simp; try with_reducible rfl)
          (try simp only [AP]); refine wpAnyT_pure (i := 4) (v := ?v8_4_5) rfl (by kernel_rfl) (fun _ _ _ h => h) (Or.inl ⟨by rfl, ?y8_4_5⟩) (fun _ => hS) ?_
          case y8_4_5 => (intro w hSw; go_simp; try with_reducible rfl)
          (try simp only [AP]); refine wpAnyT_take (i := 5) (v := ?v8_5_6) rfl (by kernel_rfl) (fun _ _ _ h => h) (Or.inl ⟨by rfl, ?y8_5_6⟩) hS ?_
          case y8_5_6 => (intro w hSw; (try dsimp only at hSw); go_simp; try with_reducible rfl)
          (try simp only [AP]); refine wpAnyT_pure (i := 6) (v := ?v8_6_7) rfl (by kernel_rfl) (fun _ _ _ h => h) (Or.inl ⟨by rfl, ?y8_6_7⟩) (fun _ => hS) ?_
          case y8_6_7 => (intro w hSw; go_simp; try with_reducible rfl)
          (try simp only [AP]); refine wpAnyT_pure (i := 7) (v := ?v8_7_8) rfl (by kernel_rfl) (fun _ _ _ h => h) (Or.inl ⟨by rfl, ?y8_7_8⟩) (fun _ => hS) ?_
          case y8_7_8 => (intro w hSw; go_simp; try with_reducible rfl)
          (try simp only [AP]); refine wpAnyT_pure (i := 8) (v := ?v8_8_9) rfl (by kernel_rfl) (fun _ _ _ h => h) (Or.inl ⟨by rfl, ?y8_8_9⟩) (fun _ => hS) ?_
          case y8_8_9 => (intro w hSw; go_simp; try with_reducible rfl)
          (try simp only [AP]); refine wpAnyT_take (i := 9) (v := ?v8_9_10) rfl (by kernel_rfl) (fun _ _ _ h => h) (Or.inl ⟨by rfl, ?y8_9_10⟩) hS ?_
          case y8_9_10 => (intro w hSw; (try dsimp only at hSw); go_simp; try with_reducible rfl)
          (try simp only [AP]); refine wpAnyT_pure (i := 10) (v := ?v8_10_11) rfl (by kernel_rfl) (fun _ _ _ h => h) (Or.inl ⟨by rfl, ?y8_10_11⟩) (fun _ => hS) ?_
          case y8_10_11 => (intro w hSw; go_simp; try with_reducible rfl)
          (try simp only [AP]); refine wpAnyT_pure (i := 11) (v := ?v8_11_12) rfl (by kernel_rfl) (fun _ _ _ h => h) (Or.inl ⟨by rfl, ?y8_11_12⟩) (fun _ => hS) ?_
          case y8_11_12 => (intro w hSw; go_simp; try with_reducible rfl)
          (try simp only [AP]); (refine wpAnyT_ready (rs := [12]) (by kernel_rfl) rfl ?_); refine AllT.cons rfl (fun K hK => ?_) ?_
          · (have z1 := hb2.cell (i := i) hci; have zf := hb2.free i; have zl := hb2.lt; go_simp); (refine hK.out _ _ (fun he => Bool.noConfusion (show false = true from he)) (fun hE => ?_)); clear hK K hE; (try simp only [AP]); (refine wpAnyT_done (by kernel_rfl) ?_ _); refine NoPanic.normal ?_; obtain ⟨w8, hw8⟩ : ∃ y, (wr.setCell ⟨g2, i, none⟩ (.int .i64 (max (m : Int) (dk : Int)))).drew = y := ⟨_, rfl⟩; have hset := (hb2.set_ i (.int .i64 (max (m : Int) (dk : Int)))).drew; (have hks : Keeps (· = g2) w4 (wr.setCell ⟨g2, i, none⟩ (.int .i64 (max (m : Int) (dk : Int)))).drew := (hki.out.setCell (p := ⟨g2, i, none⟩) (fun _ => rfl) _).drew); rw [hw8] at hset hks ⊢; (rw [show max (m : Int) (dk : Int) = ((max m dk : Nat) : Int) from by omega, nat_set HDl.out] at hset); have HSet := Lib.hid hset; have HKs := Lib.hid hks; clear hw8 hset hks hS z1 zf zl hc1 hc2; go_wp2_with fail; go_roundw
            case rel => exact ⟨q + 1, max m dk, by omega, by go_num, HSet, HKs, (by show kmax D (x.nd.kids.take (q + 1)) = _; rw [List.take_succ_eq_append_getElem hlq, kmax_snoc, hkm.out, HKq.out, HDk.out])⟩
            case measure => simp [intOf]; omega
          exact AllT.nil
        · (obtain rfl : q = x.nd.kids.length := by omega); (have q1 : ¬ (x.nd.kids.length : Int) < (x.nd.kids.length : Int) := by omega); have hb2 := hbi.out; have hci := nat_at (m := m) (R := R) HDl.out; have z1 := hb2.cell hci; have zf := hb2.free i; have zl := hb2.lt; (have hm0 : (0 : Int) ≤ (m : Int) := by omega); (have hm1 : (m : Int) ≤ 4096 := by have := HN1.out; omega); clear hci hb2; go_wp2_with fail; obtain ⟨w8, hw8⟩ : ∃ y, (wr.setCell ⟨g2, i, none⟩ (.int .i64 ((m : Int) + 1))) = y := ⟨_, rfl⟩; have hset := hbi.out.set_ i (.int .i64 (((m + 1 : Nat) : Int))); (rw [nat_set HDl.out, show (((m + 1 : Nat) : Int)) = (m : Int) + 1 from by omega, hw8] at hset); (have hks : Keeps (· = g2) w4 (wr.setCell ⟨g2, i, none⟩ (.int .i64 ((m : Int) + 1))) := hki.out.setCell (p := ⟨g2, i, none⟩) (fun _ => rfl) _); rw [hw8] at hks; (try rw [hw8]); (have hkk := hkw.out.trans ((HK4.out.mono (Y := (· = g2)) (fun _ _ h => h.elim)).trans hks (fun _ _ h => h)) (fun _ _ h => h)); have HSet := Lib.hid hset; have HKs := Lib.hid hkk
          have hstep : depths ((ns.take (i + 1)).map Nv.nd) [] = D ++ [m + 1] := by
            rw [List.take_succ_eq_append_getElem hil, List.map_append, HX.out, List.map_cons, List.map_nil, depths_snoc, HD.out, ← hkm.out, List.take_length]
          have HSt := Lib.hid hstep; clear hw8 hset hks hkk hstep z1 zf zl; go_roundw
          case rel => exact ⟨i + 1, by omega, by go_num, (by show Blk w8 g2 3 _; rw [HSt.out, show N - (i + 1) = N - i - 1 from by omega, HRr.out, List.append_assoc]; exact HSet.out), HKs⟩
          case measure => simp [intOf]; omega
    · (obtain rfl : i = N := by omega); (have j1 : ¬ (i : Int) < (i : Int) := by omega); have hiN := HNN.out
      have hM := Tryz.slices_Max_int g2 0 i i ((depths ((ns.take i).map Nv.nd) []).map Int.ofNat) wr HN0.out (by rw [List.length_map, depths_len]; simp; omega) (by have := HN1.out; omega) (fun j hj => by
        have hj2 : j < (depths ((ns.take i).map Nv.nd) []).length := by simpa using hj
        have hc := hb1.out.cell (i := j) (u := .int .i64 (((depths ((ns.take i).map Nv.nd) []).map Int.ofNat).getD j 0)) (by
          rw [Nat.sub_self, List.replicate_zero, List.append_nil]; unfold natc; rw [List.getElem?_map, List.getElem?_eq_getElem hj2, List.getD_eq_getElem?_getD, List.getElem?_map, List.getElem?_eq_getElem hj2]
          rfl)
        rw [Nat.zero_add]; exact hc)
      have hz : Lib.maxOf (((depths ((ns.take i).map Nv.nd) []).map Int.ofNat).take i) = ((depth (ns.map Nv.nd) : Nat) : Int) := by
        (rw [List.take_of_length_le (by rw [List.length_map, depths_len]; simp; omega), max_of _ (by rw [depths_len]; simp; have := HN0.out; omega), List.take_of_length_le (by omega)]); rfl
      rw [hz] at hM; have HM := Lib.hid hM; (have hkf := HK1.out.trans (hkw.out.mono (Y := fun b => ¬ b < W.heap.size) (fun b _ e => by subst e; have := HG2.out; omega)) (fun b hb h => h hb)); have HKf := Lib.hid hkf; clear hM hz hkf hiN; go_wp2_with fail
      with_reducible refine HM.out.mono ?_
      rintro e w5 ⟨rfl, rfl⟩; go_wp2_with fail; go_ret; exact ⟨rfl, HKf.out⟩
end Go.Proofs.YtcjoapmodaioiaaGreatDoor
