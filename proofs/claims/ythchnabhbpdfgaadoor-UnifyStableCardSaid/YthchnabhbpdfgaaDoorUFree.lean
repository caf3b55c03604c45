/- slices.Contains at ints; unify.Free. -/
import Derived.Test.YthchnabhbpdfgaaDoorUChk
import Derived.Test.YthchnabhbpdfgaaDoorMKept
namespace Go.Proofs.YthchnabhbpdfgaaDoor
open Go.RowKit Go.Shelf

def intIn (l : List Int) (x : Int) : Bool := l.any fun y => decide (x = y)
set_option maxHeartbeats 400000 in
theorem intIndex (l : List Int) (x : Int) (v : Value) (F : Nat → Prop) (w : World) (hv : Sl w F dInt l v) :
    Calls Tryd.prog 30 #[v, .int .i64 x] w fun e w' => e = .returned (.int .i64 (idxInt (fun y => decide (x = y)) l)) ∧ w = w' := by
  obtain ⟨A, c, rfl, hlc, hcm, _⟩ := hv.form
  have hl : l.length ≤ 9223372036854775807 := by unfold maxLen at hcm; omega
  go_enter Tryd.func30, Tryd.ntmps30
  go_wp2
  go_loop [5, 8] (fun _ i => ∃ k : Nat, k ≤ l.length ∧ i = .int .i64 k ∧ Hid (idxInt (fun y => decide (x = y)) l = idxFrom (fun y => decide (x = y)) (l.drop k) k)) (fun _ i => l.length - (intOf i).toNat)
  case atStart => exact ⟨0, Nat.zero_le _, rfl, rfl⟩
  case round =>
    obtain ⟨k, hk, rfl, hno⟩ := hrel
    by_cases hlt : k < l.length
    · have hst := idxFrom_step (fun y => decide (x = y)) l k hlt
      obtain ⟨g, off, hadr, hF, c0, _⟩ := dInt.get hv hlt
      obtain rfl := hadr
      obtain ⟨y, hy⟩ : ∃ y, l[k] = y := ⟨_, rfl⟩
      rw [hy] at c0 hst
      have k0 : (0 : Int) ≤ (k : Int) := by omega
      have k1 : (k : Int) < (l.length : Int) := by omega
      by_cases hq : x = y
      · have HE := Lib.hid (hno.out.trans (hst.2 (by simpa using hq)))
        have hqb : (x == y) = true := beq_iff_eq.2 hq
        clear hst hy hno hq
        go_wp2
        go_ret
        exact ⟨ret_int HE.out.symm, rfl⟩
      · have HE := Lib.hid (hno.out.trans (hst.1 (by simpa using hq)))
        have hqb : (x == y) = false := by rw [beq_eq_false_iff_ne]; exact hq
        clear hst hy hno hq
        go_wp2
        go_round
        case rel => exact ⟨k + 1, by omega, by go_num, HE.out⟩
        case measure => simp [intOf]; omega
    · have HE := Lib.hid (hno.out.trans (idxFrom_end _ l k (by omega)))
      have k1 : ¬ (k : Int) < (l.length : Int) := by omega
      go_wp2
      go_ret
      exact ⟨ret_int HE.out.symm, rfl⟩

set_option maxHeartbeats 400000 in
theorem intContains (l : List Int) (x : Int) (v : Value) (F : Nat → Prop) (w : World) (hv : Sl w F dInt l v) :
    Calls Tryd.prog 20 #[v, .int .i64 x] w fun e w' => e = .returned (.bool (intIn l x)) ∧ w = w' := by
  have HN := Lib.hid (intIndex l x v F w hv)
  have HE := Lib.hid (idxInt_any (fun y => decide (x = y)) l)
  clear hv
  go_enter Tryd.func20, Tryd.ntmps20
  go_wp2_with fail
  with_reducible refine HN.out.mono ?_
  rintro e w1 ⟨rfl, rfl⟩
  go_wp2
  go_ret
  exact ⟨ret_bool HE.out, rfl⟩

/-- A list with one more, if it isn't there yet. -/
def addV (acc : List Int) (x : Int) : List Int := if intIn acc x = true then acc else acc ++ [x]
mutual
def freeP : Ty → List Int
  | .mk k _ v l => if k = 0 then [v] else frees l []
def frees : List Ty → List Int → List Int
  | [], acc => acc
  | a :: r, acc => frees r ((freeP a).foldl addV acc)
end
mutual
def nodes : Ty → Nat
  | .mk _ _ _ l => nodess l + 1
def nodess : List Ty → Nat
  | [] => 0
  | a :: r => nodes a + nodess r
end
theorem addV_len (acc : List Int) (x : Int) : (addV acc x).length ≤ acc.length + 1 := by
  unfold addV; split <;> simp
theorem foldl_len : ∀ (l acc : List Int), (l.foldl addV acc).length ≤ acc.length + l.length
  | [], acc => by simp
  | x :: l, acc => by
    have h1 := foldl_len l (addV acc x)
    have h2 := addV_len acc x
    simp only [List.foldl_cons, List.length_cons]; omega
mutual
theorem free_len : ∀ t : Ty, (freeP t).length ≤ nodes t
  | .mk k _ v l => by
    rw [freeP, nodes]
    split
    · simp
    · have := frees_len l []; simp at this; omega
theorem frees_len : ∀ (l : List Ty) (acc : List Int), (frees l acc).length ≤ acc.length + nodess l
  | [], acc => by rw [frees, nodess]; omega
  | a :: r, acc => by
    have h1 := frees_len r ((freeP a).foldl addV acc)
    have h2 := foldl_len (freeP a) acc
    have h3 := free_len a
    rw [frees, nodess]; omega
end
theorem frees_step (l : List Ty) (k : Nat) (h : k < l.length) (acc : List Int) : frees (l.drop k) acc = frees (l.drop (k + 1)) ((freeP l[k]).foldl addV acc) := by
  rw [List.drop_eq_getElem_cons h, frees]
theorem nodess_take (l : List Ty) : ∀ k, k < l.length → nodess (l.take k) + nodes (l.getD k (.mk 0 ⟨#[]⟩ 0 [])) ≤ nodess l := by
  induction l with
  | nil => intro k h; simp at h
  | cons a r ih =>
    intro k h
    cases k with
    | zero => simp [nodess]
    | succ k =>
      have := ih k (by simpa using h)
      simp only [List.take_succ_cons, nodess, List.getD_cons_succ]; omega
theorem nodess_mem : ∀ (l : List Ty) (a : Ty), a ∈ l → nodes a ≤ nodess l
  | [], _, h => by cases h
  | b :: r, a, h => by
    rw [nodess]
    rcases List.mem_cons.1 h with rfl | h
    · omega
    · have := nodess_mem r a h; omega
def wfI (x : Int) : Prop := (Lit.int .i64 x).wf = true
theorem rp_ints {W : World} {F : Nat → Prop} : ∀ l : List Int, (∀ x ∈ l, wfI x) → RpAll W F (l.map dInt) (l.map (Value.int .i64))
  | [], _ => by simp [RpAll]
  | x :: l, h => by
    rw [List.map_cons, List.map_cons, rpAll_cons]
    exact ⟨[_], _, rfl, rp_int.2 ⟨rfl, h x (by simp)⟩, rp_ints l fun y hy => h y (by simp [hy])⟩
theorem own_ints {W : World} {base : Nat} {v : Value} {l : List Int} (h : W.ownsRow base 3 1 v l.length (l.map (Value.int .i64))) (hw : ∀ x ∈ l, wfI x) : Sl W (fun b => base ≤ b) dInt l v :=
  Sl.of_own (F := fun _ => False) h rfl (rp_ints l hw) (fun _ h => h.elim) (fun b hb => (h.lt b hb).1)
theorem Sl.wfs {W : World} {F : Nat → Prop} {l : List Int} {v : Value} (h : Sl W F dInt l v) : ∀ x ∈ l, wfI x := fun x hx => by
  obtain ⟨A, c, rfl, _⟩ := h.form
  obtain ⟨i, hi, rfl⟩ := List.mem_iff_getElem.1 hx
  obtain ⟨_, _, _, _, _, h1⟩ := dInt.get h hi
  exact h1
theorem foldl_wf : ∀ (l acc : List Int), (∀ x ∈ l, wfI x) → (∀ x ∈ acc, wfI x) → ∀ x ∈ l.foldl addV acc, wfI x
  | [], _, _, h => h
  | y :: l, acc, h1, h2 => by
    refine foldl_wf l (addV acc y) (fun x hx => h1 x (by simp [hx])) fun x hx => ?_
    unfold addV at hx
    split at hx
    · exact h2 x hx
    · rcases List.mem_append.1 hx with hx | hx
      · exact h2 x hx
      · rw [List.mem_singleton.1 hx]; exact h1 y (by simp)
theorem own_at {v : Value} {X : Nat → Prop} {gg n cap H : Nat} (hat : v.ownBlock = some gg ∨ gg = H) (h1 : ∀ i, v.ownBlock = some i → X i) (h2 : X H) : ∀ i, (Value.slice (some ⟨gg, 0, none⟩) n cap).ownBlock = some i → X i := fun i hi => by
  have e : gg = i := by simpa [Value.ownBlock] using hi
  rw [← e]
  rcases hat with h | h
  · exact h1 _ h
  · rw [h]; exact h2
theorem infoIntF : (Tryd.prog.info? 3).map (fun i => (i.zero, i.size, i.bytes)) = some (some (.int .i64 0), 1, 8) := by kernel_rfl

/-- What Free answers. -/
def Freed (l : List Int) (W : World) (e : Ending) (w' : World) : Prop := ∃ u, e = .returned u ∧ Below W.heap.size W w' ∧ Sl w' (fun b => W.heap.size ≤ b) dInt l u
def FreeAt (t : Ty) : Prop := ∀ (W : World) (F : Nat → Prop) (av : Value), TyC W F t av → nodes t ≤ 33554432 →
  Calls Tryd.prog 10 #[.agg #[.int .i64 t.kind, .string t.name, .int .i64 t.var, av]] W (Freed (freeP t) W)

set_option maxRecDepth 100000 in
set_option maxHeartbeats 4000000 in
theorem free_step (k : Int) (n : ByteArray) (v : Int) (l : List Ty) (ih : ∀ a ∈ l, FreeAt a) : FreeAt (.mk k n v l) := by
  intro W F av hT hN
  obtain ⟨i0, hi0, hz0, hz1, hz2⟩ := info_parts infoIntF
  have hvw : wfI v := hT.var
  obtain ⟨A, c, rfl, hlc, hcm, _⟩ := hT.form
  have hTa : Sl W F tyD l (.slice A l.length c) := hT.args
  simp only [Ty.kind, Ty.name, Ty.var, Ty.args] at *
  have hlm : l.length ≤ 9223372036854775807 := by unfold maxLen at hcm; omega
  by_cases hk : k = 0
  · subst hk
    have HE := Lib.hid (show freeP (.mk 0 n v l) = [v] by rw [freeP, if_pos rfl])
    clear hT hTa ih
    go_enter Tryd.func10, Tryd.ntmps10
    go_wp2
    go_ret
    refine ⟨_, rfl, Below.alloc (Below.alloc (Below.refl _ _) (Nat.le_refl _) _) (by simp) _, ?_⟩
    rw [HE.out]
    have hb := Blk.new (W.alloc (.cells #[.int .i64 0, .string n, .int .i64 v, .slice A l.length c] 24)) 3 [.int .i64 v]
    rw [show (W.alloc (.cells #[.int .i64 0, .string n, .int .i64 v, .slice A l.length c] 24)).heap.size = W.heap.size + 1 by simp] at hb
    unfold Sl
    simp only [Rp]
    refine ⟨_, 1, rfl, by simp, by unfold maxLen; omega, (fun h => nomatch h), fun _ => ⟨_, 0, [.int .i64 v], rfl, by simp, rp_ints [v] (by simpa using hvw), fun j u hj => by rw [Nat.zero_add]; exact hb.cell hj⟩⟩
  · have hkb : (k == 0) = false := by rw [beq_eq_false_iff_ne]; exact hk
    have HE := Lib.hid (show freeP (.mk k n v l) = frees l [] by rw [freeP, if_neg hk])
    have HIH := Lib.hid ih
    have HTa := Lib.hid hTa
    have HN := Lib.hid (show nodess l ≤ 33554431 by rw [nodes] at hN; omega)
    have HFl := Lib.hid (fun j (h : j ≤ l.length) => frees_len (l.drop j))
    clear hT hTa ih hN hk
    go_enter Tryd.func10, Tryd.ntmps10
    go_wp2
    obtain ⟨B, hB⟩ : ∃ B, W.heap.size = B := ⟨_, rfl⟩
    have HB := Lib.hid hB
    clear hB
    go_loopw [3, 17] (fun ov i wr => ∃ (j : Nat) (acc : List Int), j ≤ l.length ∧ i = .int .i64 j ∧ Below W.heap.size W wr ∧ wr.ownsRow B 3 1 ov acc.length (acc.map (Value.int .i64)) ∧ (∀ x ∈ acc, wfI x) ∧ acc.length ≤ nodess (l.take j) ∧ Hid (frees l [] = frees (l.drop j) acc)) (fun _ i _ => l.length - (intOf i).toNat)
    case atStart => exact ⟨0, [], Nat.zero_le _, rfl, Below.alloc (Below.refl _ _) (Nat.le_refl _) _, World.ownsRow_nil _ _ _ _, by simp, by simp, rfl⟩
    case round =>
      obtain ⟨j, acc, hj, rfl, hb, hown, hwf, hal, hno⟩ := hrel
      by_cases hlt : j < l.length
      · have hst := frees_step l j hlt acc
        have hnt := nodess_take l j hlt
        obtain ⟨g, off, av, hadr, hg, e0, e1, e2, e3, hTj⟩ := tyD.get (HTa.out.later hb) hlt
        obtain rfl := hadr
        rw [List.getD_eq_getElem?_getD, List.getElem?_eq_getElem hlt, Option.getD_some] at hnt
        have hnj := nodess_mem l _ (List.getElem_mem hlt)
        have htk : nodess (l.take (j + 1)) = nodess (l.take j) + nodes l[j] := by
          rw [List.take_succ_eq_append_getElem hlt]
          have : ∀ (a b : List Ty), nodess (a ++ b) = nodess a + nodess b := by
            intro a b
            induction a with
            | nil => simp [nodess]
            | cons x a ih => simp only [List.cons_append, nodess, ih]; omega
          rw [this]; simp [nodess]
        have hIA := HIH.out _ (List.getElem_mem hlt)
        obtain ⟨a, ha⟩ : ∃ a, l[j] = a := ⟨_, rfl⟩
        rw [ha] at hst e0 e1 e2 hTj hIA hnj htk hnt
        have HNt := Lib.hid hnt
        have hfl := free_len a
        obtain ⟨A3, c3, rfl, _⟩ := hTj.form
        have hgw := block_lt_of_cell e0
        have hka : Below wr.heap.size wr (wr.alloc (.cells #[.int .i64 a.kind, .string a.name, .int .i64 a.var, .slice A3 a.args.length c3] 24)) := Below.alloc (Below.refl _ _) (Nat.le_refl _) _
        have HCL := Lib.hid (hIA _ _ _ (hTj.later hka) (by have := HN.out; omega))
        have HST := Lib.hid (hno.out.trans hst)
        have HKA := Lib.hid hka
        have HBw := Lib.hid hb
        have HOw := Lib.hid hown
        have HW := Lib.hid hwf
        have HTk := Lib.hid htk
        have HAl := Lib.hid hal
        have HFa := Lib.hid hfl
        have j0 : (0 : Int) ≤ (j : Int) := by omega
        have j1 : (j : Int) < (l.length : Int) := by omega
        clear hst hka hIA hTj ha hno hb hown hwf hal htk hnt hnj hfl
        go_wp2_with fail
        with_reducible refine HCL.out.mono ?_
        rintro e w2 ⟨u, rfl, hb2, hsu⟩
        obtain ⟨A4, c4, rfl, _, hc4, _⟩ := hsu.form
        have hul : (freeP a).length ≤ 9223372036854775807 := by unfold maxLen at hc4; omega
        have hbw2 : Below W.heap.size W w2 := HBw.out.trans ((HKA.out.trans (hb2.mono (by simp))).mono HBw.out.size)
        have hk2 : Keeps (fun _ => False) wr w2 := (Keeps.of_below (X := fun _ => False) HKA.out).trans (Keeps.of_below (X := fun _ => False) hb2) (fun _ _ h => h)
        have hown2 := own_keeps HOw.out hk2 (fun _ _ h => h)
        have hsz2 := hk2.size
        have HSU := Lib.hid hsu
        have HWu := Lib.hid hsu.wfs
        have HBz : Hid (B ≤ wr.heap.size) := by have := HBw.out.size; have := HB.out; show _ ≤ _; omega
        obtain ⟨xs, hxs⟩ : ∃ xs, freeP a = xs := ⟨_, rfl⟩
        rw [hxs] at hul HSU HWu HST HFa ⊢
        clear hsu hb2 hxs
        go_wp2_with fail
        obtain ⟨wo, rfl⟩ : ∃ wo, wo = wr := ⟨_, rfl⟩
        go_loopw [3, 7, 24] (fun ov _ i wi => ∃ (q : Nat) (acc2 : List Int), q ≤ xs.length ∧ i = .int .i64 q ∧ Keeps (fun i => B ≤ i ∧ i < wo.heap.size ∨ w2.heap.size ≤ i) w2 wi ∧ wi.ownsRow B 3 1 ov acc2.length (acc2.map (Value.int .i64)) ∧ (∀ i, ov.ownBlock = some i → i < wo.heap.size ∨ w2.heap.size ≤ i) ∧ (∀ x ∈ acc2, wfI x) ∧ acc2.length ≤ acc.length + q ∧ Hid (xs.foldl addV acc = (xs.drop q).foldl addV acc2)) (fun _ _ i _ => xs.length - (intOf i).toNat)
        case atStart => exact ⟨0, acc, Nat.zero_le _, rfl, Keeps.refl _ _, hown2, fun i hi => .inl (HOw.out.lt i hi).2, HW.out, by omega, rfl⟩
        case round =>
          obtain ⟨q, acc2, hq, rfl, hki, hown3, hovc, hwf3, hal3, hno3⟩ := hrel
          have hkz := hki.size
          have hso := own_ints hown3 hwf3
          obtain ⟨A5, c5, rfl, _⟩ := hso.form
          by_cases hql : q < xs.length
          · obtain ⟨g5, off5, hadr5, hg5, f0, f9⟩ := dInt.get HSU.out hql
            have hlt5 := block_lt_of_cell f0
            obtain rfl := hadr5
            have f1 := hki.cell f0 (by simp at hg5 hlt5 ⊢; omega)
            have hfs : (xs.drop q).foldl addV acc2 = (xs.drop (q + 1)).foldl addV (addV acc2 xs[q]) := by rw [List.drop_eq_getElem_cons hql, List.foldl_cons]
            have hzw := HWu.out _ (List.getElem_mem hql)
            obtain ⟨z, hz⟩ : ∃ z, xs[q] = z := ⟨_, rfl⟩
            rw [hz] at f1 hfs hzw
            have HCo := Lib.hid (intContains acc2 z _ _ wr hso)
            have q0 : (0 : Int) ≤ (q : Int) := by omega
            have q1 : (q : Int) < (xs.length : Int) := by omega
            have HNo := Lib.hid (hno3.out.trans hfs)
            have HO3 := Lib.hid hown3
            have HV3 := Lib.hid hovc
            have HW3 := Lib.hid hwf3
            have HKi := Lib.hid hki
            have HZw := Lib.hid hzw
            clear f0 f9 hz hfs hso hno3 hg5 hlt5 hown3 hovc hwf3 hki hzw
            cases hin : intIn acc2 z
            · rw [hin] at HCo
              have HAd := Lib.hid (show addV acc2 z = acc2 ++ [z] by unfold addV; rw [hin]; rfl)
              have hown4 := HO3.out
              have hal4 : acc2.length ≤ 100663296 := by have := HN.out; have := HFa.out; have := HNt.out; have := HAl.out; omega
              have hbz : B ≤ wr.heap.size := by have := HBz.out; omega
              clear hin
              go_wp2_with fail
              with_reducible refine HCo.out.mono ?_
              rintro e w4 ⟨rfl, rfl⟩
              go_wp2_with (at_builtin; refine wpList_append_lies _ rfl _ _ 33 rfl B 3 i0 _ 1 8 Tryd.underlying33 hi0 hz0 hz1 hz2 rfl (by omega) _ acc2.length _ rfl (World.ownsRow.alloc hown4 _) ⟨wr.heap.size, 0, none⟩ 1 1 [.int .i64 z] rfl rfl (World.news_of_block (cs := #[.int .i64 z]) (t := 3) (fr := (0, 0)) (heap_alloc_new _ _)) (by simp [Value.oneCell']) (by omega) (by unfold maxLen; omega) (by omega) (by simp; omega) (wr.heap.size + 1) (by simp) ?_; intro gg cap w5 hown5 hgrow hat hlt6; have hk5 : Keeps (fun i => B ≤ i ∧ i < wo.heap.size ∨ w2.heap.size ≤ i) w2 w5 := HKi.out.trans (((Keeps.refl (fun i => B ≤ i ∧ i < wo.heap.size ∨ w2.heap.size ≤ i) wr).alloc _).grown hgrow (fun i hi _ => (HV3.out i hi).imp (fun h => ⟨(hown4.lt i hi).1, h⟩) id)) (fun _ _ h => h); have hv5 := own_at (n := acc2.length + 1) (cap := cap) hat HV3.out (.inr (by omega)))
              go_roundw
              case rel => exact ⟨q + 1, acc2 ++ [z], by omega, by go_num, hk5, by rw [List.length_append, List.map_append]; exact hown5, hv5, fun x hx => by
                rcases List.mem_append.1 hx with hx | hx
                · exact HW3.out x hx
                · rw [List.mem_singleton.1 hx]; exact HZw.out, by rw [List.length_append, List.length_singleton]; omega, by rw [HNo.out, HAd.out]; rfl⟩
              case measure => simp [intOf]; omega
            · rw [hin] at HCo
              have HAd := Lib.hid (show addV acc2 z = acc2 by unfold addV; rw [hin]; rfl)
              clear hin
              go_wp2_with fail
              with_reducible refine HCo.out.mono ?_
              rintro e w4 ⟨rfl, rfl⟩
              go_wp2_with fail
              go_roundw
              case rel => exact ⟨q + 1, acc2, by omega, by go_num, HKi.out, HO3.out, HV3.out, HW3.out, by omega, by rw [HNo.out, HAd.out]; rfl⟩
              case measure => simp [intOf]; omega
          · obtain rfl : q = xs.length := by omega
            have q1 : ¬ (xs.length : Int) < (xs.length : Int) := by omega
            have HE2 := Lib.hid (HST.out.trans (by rw [hno3.out, List.drop_length, List.foldl_nil]))
            have HO3 := Lib.hid hown3
            have HW3 := Lib.hid hwf3
            have HKi := Lib.hid hki
            clear hso hno3 hown3 hovc hwf3 hki
            go_wp2_with fail
            go_roundw
            case rel => exact ⟨j + 1, acc2, by omega, by go_num, hbw2.trans (HKi.out.below (fun i hi => by have := HB.out; have := HBz.out; omega) hbw2.size), HO3.out, HW3.out, by rw [HTk.out]; have := HAl.out; have := HFa.out; omega, HE2.out⟩
            case measure => simp [intOf]; omega
      · obtain rfl : j = l.length := by omega
        have j1 : ¬ (l.length : Int) < (l.length : Int) := by omega
        have HE2 := Lib.hid (HE.out.trans (hno.out.trans (by rw [List.drop_length, frees])))
        have hso := own_ints hown hwf
        obtain ⟨A5, c5, rfl, _⟩ := hso.form
        have HSO := Lib.hid hso
        have HBw := Lib.hid hb
        clear hso hown hno hb hwf
        go_wp2_with fail
        go_ret
        refine ⟨_, rfl, HBw.out, ?_⟩
        rw [HE2.out]
        exact HSO.out.mono fun b hb => by have := HB.out; omega

theorem free_any (t : Ty) : FreeAt t := by
  suffices h : ∀ (m : Nat) (t : Ty), SizeOf.sizeOf t ≤ m → FreeAt t from h _ t (Nat.le_refl _)
  intro m
  induction m with
  | zero => intro t ht; cases t; simp at ht
  | succ m ihm =>
    intro t ht
    obtain ⟨k, n, v, l⟩ := t
    exact free_step k n v l fun a ha => ihm a (by
      have := List.sizeOf_lt_of_mem ha
      simp at ht; omega)
end Go.Proofs.YthchnabhbpdfgaaDoor
