/- StoreBounded: for every room and all keys and values the law returns true: a store never uses more than its room, and has what was stored last. No conditions. -/
import Derived.Test.YtpeabfbljiaedaaStoreGet
import Derived.Test.YtpeabfbljiaedaaStrs
import Derived.Test.YtpeabfbljiaedaaWithin
import Derived.Deep.RegionHeld3
import Derived.Test.YtpeabfbljiaedaaRaise
namespace Go.Proofs.Ytpeabfbljiaedaa
open Go.RowKit
theorem St.drewN {w : World} {B s g m n room : Nat} {L : List Nat} {r : Rg} (h : St w B s g m n room L r) (k : Nat) : St (w.drewN k) B s g m n room L r :=
  h.keeps (X := fun _ => False) ((Keeps.refl _ w).drewN k) (fun _ _ h => h)
end Go.Proofs.Ytpeabfbljiaedaa

namespace Go.Proofs.Ytpeabfbljiaedaa.storeBounded
open Go.ChangeShapes Go.WideShapes Go.ChangeAt Go.RowKit Go.Shelf

theorem own : ownKnob Try.prog.godebug = none := by kernel_rfl

set_option maxRecDepth 100000 in
set_option maxHeartbeats 1000000 in
theorem walk (room : Int) (K V : List ByteArray) (kv vv : Value) (w : World) (hK : Sl w (· < w.heap.size) dStr K kv) (hV : Sl w (· < w.heap.size) dStr V vv) (bK : K.length * 16 ≤ 140737488351232) (zK : ∀ x ∈ K, x.size ≤ 140737488351232) (zV : ∀ x ∈ V, x.size ≤ 140737488351232) :
    Calls Try.prog 6 #[.int .i64 room, kv, vv] w fun e w' => e = .returned (.bool true) ∧ Below w.heap.size w w' := by
  obtain ⟨AK, ck, rfl, hck, hckm, _⟩ := hK.form
  obtain ⟨AV, cv, rfl, hcv, hcvm, _⟩ := hV.form
  have HN3 := Lib.hid (new_any w 3 (by omega))
  obtain ⟨N, hN⟩ : ∃ N : Nat, withinI room 0 40 = N := ⟨(withinI room 0 40).toNat, by have := withinI_lo room 0 40 (by omega); omega⟩
  have hN40 : N ≤ 40 := by have := withinI_hi room 0 40 (by omega); omega
  have HW := Lib.hid (fun (W : World) => within_any room 0 40 W (by omega) (by omega) (by omega) (by omega))
  rw [hN] at HW
  have HNN := Lib.hid (fun (W : World) => new_any W N (by omega))
  have lK : K.length ≤ 9223372036854775807 := by omega
  have lV : V.length ≤ 9223372036854775807 := by unfold maxLen at hcvm; omega
  clear hN
  go_enter Try.func6, Try.ntmps6
  go_wp2_with fail
  refine HN3.out.mono ?_
  rintro e w1 ⟨s1, g1, m1, r1, rfl, hst1, hb1⟩
  have HF := Lib.hid (put_full w1 _ s1 g1 m1 0 3 [] r1 hst1 ⟨#[97]⟩ ⟨#[98, 99, 100]⟩ (by decide) (by decide) (by decide))
  go_wp2_with fail
  with_reducible refine HF.out.mono ?_
  rintro e w2 ⟨rfl, rfl⟩
  go_wp2_with fail
  with_reducible refine (HW.out _).mono ?_
  rintro e w2 ⟨rfl, rfl⟩
  go_wp2_with fail
  with_reducible refine (HNN.out _).mono ?_
  rintro e w3 ⟨s, g, m, r3, rfl, hst3, hb3⟩
  go_wp2_with fail
  all_goals
    go_loopw [40] (fun i wr => ∃ k : Nat, k ≤ min K.length V.length ∧ i = .int .i64 k ∧ Below w.heap.size w wr ∧ ∃ L r, St wr w.heap.size s g m k N L r) (fun i _ => min K.length V.length - (intOf i).toNat)
    case atStart => 
      have hz := hb1.size
      exact ⟨0, Nat.zero_le _, rfl, hb1.trans (hb3.mono hz), [], r3, { hst3 with low := fun b hb => Nat.le_trans hz (hst3.low b hb) }⟩
    case round =>
      obtain ⟨k, hk, rfl, hb, L, r, hst⟩ := hrel
      by_cases hlt : k < min K.length V.length
      · have hk1 : k < K.length := by omega
        have hk2 : k < V.length := by omega
        have i1 : (k : Int) < (K.length : Int) := by omega
        have i2 : (k : Int) < (V.length : Int) := by omega
        have i0 : (0 : Int) ≤ (k : Int) := by omega
        obtain ⟨gk', ok, rfl, hgk, ck0, _⟩ := dStr.get hK hk1
        obtain ⟨gv', ov, rfl, hgv, cv0, _⟩ := dStr.get hV hk2
        have hzk := zK _ (List.getElem_mem hk1)
        have hzv := zV _ (List.getElem_mem hk2)
        obtain ⟨key, hkey⟩ : ∃ key, K[k] = key := ⟨_, rfl⟩
        obtain ⟨val, hval⟩ : ∃ val, V[k] = val := ⟨_, rfl⟩
        rw [hkey] at ck0 hzk
        rw [hval] at cv0 hzv
        have c0 := (hb.cell (p := ⟨gk', ok + k, none⟩) hgk).trans ck0
        have c1 := (hb.cell (p := ⟨gv', ov + k, none⟩) hgv).trans cv0
        clear hkey hval
        by_cases hbig : N < key.size + val.size
        · have HP := Lib.hid (fun (W : World) (hS : St W w.heap.size s g m k N L r) => put_full W _ s g m k N L r hS key val (by omega) (by omega) hbig)
          have HWQ := Lib.hid (fun (W : World) => (HW.out W).mono (R' := fun e w' => e = .returned (.int .i64 N) ∧ w' = W) fun _ _ h => ⟨h.1, h.2.symm⟩)
          have HPQ := Lib.hid (fun (n : Nat) => (HP.out (wr.drewN n) (hst.drewN n)).mono (R' := fun e w' => e = .returned (.tuple #[.slice none 0 0, .int .i64 16]) ∧ w' = wr.drewN n) fun _ _ h => ⟨h.1, h.2.symm⟩)
          have p1 : (0 : Int) ≤ (key.size : Int) + val.size := by omega
          have p2 : (key.size : Int) + val.size ≤ 281474976702464 := by omega
          have p3 : (N : Int) < (key.size : Int) + val.size := by omega
          go_wp2_with fail
          go_quiet ((go_at_call 20; refine Calls.quiet_of_same (HPQ.out _)))
          go_wp2_with fail
          go_quiet ((go_at_call 21; refine (HW.out _).mono ?_; rintro e w'' ⟨rfl, rfl⟩; exact ⟨rfl, _, rfl⟩))
          go_wp2_with fail
          go_roundw
          case rel => exact ⟨k + 1, by omega, by go_num, Below.drewN hb _, L, r, (hst.mono (by omega)).drewN _⟩
          case measure => simp [intOf]; omega
        · have HP := Lib.hid (fun (W : World) (hS : Keeps (fun _ => False) wr W) => put_any W _ s g m k N L r (hst.keeps hS (fun _ _ h => h)) key val (by omega) (by omega))
          have HWQ := Lib.hid (fun (W : World) => (HW.out W).mono (R' := fun e w' => e = .returned (.int .i64 N) ∧ w' = W) fun _ _ h => ⟨h.1, h.2.symm⟩)
          have p1 : (0 : Int) ≤ (key.size : Int) + val.size := by omega
          have p2 : (key.size : Int) + val.size ≤ 281474976702464 := by omega
          have p3 : (key.size : Int) + val.size ≤ (N : Int) := by omega
          have p4 : ¬ (N : Int) < (key.size : Int) + val.size := by omega
          have hS := Lib.hid (fun (W : World) (hk : Keeps (fun _ => False) wr W) => (⟨hk.cell c0 (fun h => h), hk.cell c1 (fun h => h)⟩ : W.cell? ⟨gk', ok + k, none⟩ = some (.string key) ∧ W.cell? ⟨gv', ov + k, none⟩ = some (.string val)))
          go_wp2_with fail
          go_region_held3 (fun W => W.cell? ⟨gk', ok + k, none⟩ = some (.string key) ∧ W.cell? ⟨gv', ov + k, none⟩ = some (.string val))
            (first | exact ⟨d0, d1⟩ | exact hS.out _ (by repeat (first | assumption | exact Keeps.refl _ _ | refine Keeps.drewN ?_ _ | refine Keeps.drew ?_)))
            ((go_at_call 20; refine (HP.out _ (by repeat (first | assumption | exact Keeps.refl _ _ | refine Keeps.drewN ?_ _ | refine Keeps.drew ?_))).mono ?_; rintro e w2 ⟨gn, G, rfl, hown2, hG2, x2, L2, r2, hst2, hkx2, hvx2, hkp2⟩; have hkw2 : Keeps (Mine s m (g :: L)) wr w2 := Keeps.trans (X := Mine s m (g :: L)) (Keeps.mono (X := fun _ => False) (by repeat (first | assumption | exact Keeps.refl _ _ | refine Keeps.drewN ?_ _ | refine Keeps.drew ?_)) (fun _ _ h => h.elim)) hkp2 (fun _ _ h => h); have d0 := hkw2.cell c0 (fun h => absurd (hst.low _ h) (Nat.not_le.2 hgk)); have d1 := hkw2.cell c1 (fun h => absurd (hst.low _ h) (Nat.not_le.2 hgv))))
          go_wp2_with fail
          go_quiet ((go_at_call 21; refine (HW.out _).mono ?_; rintro e w'' ⟨rfl, rfl⟩; exact ⟨rfl, _, rfl⟩))
          have HG := Lib.hid (fun (q : Nat) => get_any (w2.drewN q) _ s g m (k + 1) N [] L2 x2 r2 (hst2.drewN q) key hkx2)
          rw [hvx2] at HG
          go_wp2_with fail
          with_reducible refine (HG.out _).mono ?_
          rintro e w4 ⟨rfl, hst4, hk4⟩
          rw [List.nil_append] at hst4 hk4
          obtain ⟨r4, hr4⟩ : ∃ r4, (r2.out x2).front g x2 = r4 := ⟨_, rfl⟩
          have hkx4 : r4.key x2 = key := by rw [← hr4]; exact hkx2
          rw [hr4] at hst4
          have hm4 : ∀ b, b < w.heap.size → ¬ Mine s m (g :: (x2 :: L2)) b := fun b hb h => absurd (hst2.low b h) (Nat.not_le.2 hb)
          have e0 := hk4.cell (p := ⟨gk', ok + k, none⟩) d0 (hm4 _ hgk)
          have e1 := hk4.cell (p := ⟨gv', ov + k, none⟩) d1 (hm4 _ hgv)
          obtain ⟨F2, hmp2, _⟩ := hst2.tied
          have hown4 := own_keeps (show (w2.drewN _).ownsRow _ _ _ _ _ _ from hown2) hk4 (fun i hi (hb : Mine s m (g :: (x2 :: L2)) i) => by
            rcases hb with rfl | rfl | hb
            · exact own_ne_blk hown2 hst2.cell (by decide) hi
            · exact hmp2.ne_own hown2 hi
            · exact own_ne_blk hown2 (hst2.nodes _ hb) (by decide) hi)
          have hslG : Sl w4 (fun _ => True) dStr G gn := by
            have hrp : ∀ (l : List ByteArray), (∀ y ∈ l, y.size ≤ maxLen) → ∀ F : Nat → Prop, RpAll w4 F (l.map dStr) (l.map Value.string) := by
              intro l
              induction l with
              | nil => intro _ F; simp [RpAll]
              | cons y l ih => intro hl F; rw [List.map_cons, rpAll_cons]; exact ⟨[.string y], l.map Value.string, rfl, rp_str.2 ⟨rfl, hl y (by simp)⟩, ih (fun z hz => hl z (by simp [hz])) F⟩
            exact Sl.of_own (F := fun _ => False) hown4 rfl (hrp _ (fun y hy => (hG2 y hy).2) _) (fun _ h => h.elim) (fun _ _ => trivial)
          have hGf : G.any (fun y => decide (key = y)) = false := by
            rw [List.any_eq_false]
            intro y hy
            simpa using fun e : key = y => (hG2 y hy).1 e.symm
          have hwN := hst4.fits
          have q1 : ¬ (N : Int) < (weight r4 (x2 :: L2) : Nat) := by omega
          have q1' : decide ((N : Int) < ((weight r4 (x2 :: L2) : Nat) : Int)) = false := by simpa using q1
          have q1'' : decide (N < weight r4 (x2 :: L2)) = false := by simpa using hwN
          have q2 : (0 : Int) < (L2.length : Int) + 1 := by omega
          have q3 : L2.length + 1 ≤ 9223372036854775807 := by have := hst4.len; simp at this; omega
          have HU := Lib.hid (fun (W : World) (hk : Keeps (fun _ => False) w4 W) => used_any W _ s g m (k + 1) N _ _ (hst4.keeps hk (fun _ _ h => h)))
          have HKy := Lib.hid (fun (W : World) (hk : Keeps (fun _ => False) w4 W) => (keys_any W _ s g m (k + 1) N _ _ (hst4.keeps hk (fun _ _ h => h)) (by omega)).mono
            (R' := fun e w' => ∃ g6 o6 c6, e = .returned (.slice (some ⟨g6, o6, none⟩) (L2.length + 1) c6) ∧ w'.cell? ⟨g6, o6, none⟩ = some (.string key) ∧ Keeps (fun _ => False) w4 w') fun e w' hh => by
              obtain ⟨A6, he, hsl6, hb6⟩ := hh
              obtain ⟨g6, o6, hA, _, k6, _⟩ := dStr.get hsl6 (i := 0) (by simp)
              subst hA
              refine ⟨g6, o6, _, he, ?_, hk.trans (X := fun _ => False) (Keeps.of_below (X := fun _ => False) hb6) (fun _ _ h => h)⟩
              rw [Nat.add_zero] at k6
              rw [k6]
              show some (Value.string (r4.key x2)) = _
              rw [hkx4])
          have HCn := Lib.hid (fun (W : World) (hk : Keeps (fun _ => False) w4 W) => strContains G key gn _ W (hslG.keeps hk (fun _ _ h => h)))
          rw [hGf] at HCn
          have hS4 := Lib.hid (fun (W : World) (hk : Keeps (fun _ => False) w4 W) => (⟨hk.cell e0 (fun h => h), hk.cell e1 (fun h => h)⟩ : W.cell? ⟨gk', ok + k, none⟩ = some (.string key) ∧ W.cell? ⟨gv', ov + k, none⟩ = some (.string val)))
          go_wp2_with fail
          go_region_held3 (fun W => W.cell? ⟨gk', ok + k, none⟩ = some (.string key) ∧ W.cell? ⟨gv', ov + k, none⟩ = some (.string val))
            (first | exact ⟨f0, f1, k7⟩ | exact hS4.out _ (by repeat (first | assumption | exact Keeps.refl _ _ | refine Keeps.drewN ?_ _ | refine Keeps.drew ?_)))
            ((first
              | (go_at_call 23; refine (HU.out _ (by repeat (first | assumption | exact Keeps.refl _ _ | refine Keeps.drewN ?_ _ | refine Keeps.drew ?_))).mono ?_; rintro e w5 ⟨rfl, rfl⟩)
              | (go_at_call 21; refine (HW.out _).mono ?_; rintro e w5 ⟨rfl, rfl⟩)
              | (go_at_call 24; refine (HKy.out _ (by repeat (first | assumption | exact Keeps.refl _ _ | refine Keeps.drewN ?_ _ | refine Keeps.drew ?_))).mono ?_; rintro e w6 ⟨g6, o6, c6, rfl, k7, hkw6⟩; have f0 := hkw6.cell e0 (fun h => h); have f1 := hkw6.cell e1 (fun h => h); rw [raise (S' := fun W => W.cell? ⟨gk', ok + k, none⟩ = some (.string key) ∧ W.cell? ⟨gv', ov + k, none⟩ = some (.string val) ∧ W.cell? ⟨g6, o6, none⟩ = some (.string key)) (fun _ h => ⟨h.1, h.2.1⟩) (by assumption)] at *)
              | (go_at_call 25; refine (HCn.out _ (by repeat (first | assumption | exact Keeps.refl _ _ | refine Keeps.drewN ?_ _ | refine Keeps.drew ?_))).mono ?_; rintro e w5 ⟨rfl, rfl⟩)))
          go_wp2_with fail
          go_roundw
          case rel =>
            have b2 : Below w.heap.size w w2 := hb.trans (hkw2.below (fun i h => hst.low i h) hb.size)
            have b4 : Below w.heap.size w w4 := (Below.drewN b2 _).trans (hk4.below (fun i h => hst2.low i h) b2.size)
            exact ⟨k + 1, by omega, by go_num, b4.trans (hkw6.below (fun _ h => h.elim) b4.size), _, _, hst4.keeps hkw6 (fun _ _ h => h)⟩
          case measure => simp [intOf]; omega
      · first
          | (have HE : ¬ ((k : Int) < (V.length : Int)) := by omega
             go_wp2_with fail
             go_ret
             exact ⟨rfl, hb⟩)
          | (have HE : ¬ ((k : Int) < (K.length : Int)) := by omega
             go_wp2_with fail
             go_ret
             exact ⟨rfl, hb⟩)

theorem laid : laidOutB Try.prog = true := by kernel_rfl

set_option maxRecDepth 100000 in
theorem lifted (os : Os) (started : os.Started) (H : Type) (enc : TypeId × Value → H) :
    ReturnsInHanded {} Try.checked os 6 .any (Rows.storeBoundedSpec.pre6 enc Try.prog Try.f6 Rows.storeBoundedRow.domain false) (Rows.storeBoundedSpec.post enc Try.prog Try.f6 false true false false) := by
  refine returnsInHanded_of_change_sized (C := Try.checked) own started (by kernel_rfl) Try.func6
    (ChangeSpec.witness6 (enc := enc) (C := Try.checked) false ⟨#[], #[.int .i64 0, .slice none 0 0, .slice none 0 0], []⟩ 8 (by kernel_rfl) (by kernel_rfl) (by kernel_rfl) (by kernel_rfl)) ?_
  intro W base args ds gs before hval0 hW hcnd hsz0 _
  have hval : ∀ (j : Nat) t v, Try.f6.params[j]? = some t → args[j]? = some v → Value.okWide Try.prog W .any base t v := hval0
  have hW' := hW
  obtain ⟨p, q, hA0, hV, hbef, hfz, hnd⟩ := hW
  have hA : DataW.TrodAll enc Try.prog W 0 (fun _ => true) true Try.f6.params.toList args.toList ds p := hA0
  have hsz : (DataW.weightsEach Try.prog (Try.f6.params.toList ++ Rows.storeBoundedSpec.plain.varTypes Try.prog) (ds ++ gs)).all (· ≤ reachBytes) = true := hsz0
  rw [Try.params6] at hA hval hsz
  obtain ⟨v0, vs0, d0, ds0, p0, q0, hargs, hds, rfl, h0, r0⟩ := trodAll_cons hA
  obtain ⟨v1, vs1, d1, ds1, p1, q1, rfl, rfl, rfl, h1, r1⟩ := trodAll_cons r0
  obtain ⟨v2, vs2, d2, ds2, p2, q2, rfl, rfl, rfl, h2, r2⟩ := trodAll_cons r1
  obtain ⟨rfl, rfl, rfl⟩ := trodAll_nil r2
  obtain rfl : args = #[v0, v1, v2] := by cases args; simp_all
  obtain ⟨rfl, _⟩ := trodVars_none hV
  subst hds
  obtain ⟨a0, rfl, rfl, rfl, s0⟩ := open_int Try.underlying3 (hval 0 3 v0 rfl rfl) h0
  obtain ⟨a1, s1, b1, z1⟩ := strs_of_arg Try.underlying31 Try.underlying9 (by kernel_rfl) (hval 1 31 v1 rfl rfl) h1 (weight_at hsz (j := 1) rfl rfl)
  rw [show Try.prog.bytesOf 9 = 16 from by kernel_rfl] at b1
  obtain ⟨a2, s2, b2, z2⟩ := strs_of_arg Try.underlying31 Try.underlying9 (by kernel_rfl) (hval 2 31 v2 rfl rfl) h2 (weight_at hsz (j := 2) rfl rfl)
  rw [show Try.prog.bytesOf 9 = 16 from by kernel_rfl] at b2
  refine (walk a0 a1 a2 v1 v2 W s1 s2 b1 z1 z2).mono fun e W' ⟨he, hb⟩ => ?_
  subst he
  exact ⟨_, rfl, law_post laid (by kernel_rfl) rfl Try.underlying4 rfl rfl rfl rfl hW' hb⟩

theorem over : Rows.storeBoundedRow.holds Try.pinned (OpenSpec.ofChange Rows.storeBoundedSpec) :=
  OpenClaim.holds_of_wide 6 Try.f6 rfl rfl rfl rfl rfl rfl rfl ⟨rfl, rfl, rfl, rfl, rfl⟩ rfl rfl rfl rfl rfl (by kernel_rfl) Try.func6 (by kernel_rfl)
    (of_decide_eq_true (by kernel_rfl)) (by unfold Func.isWrapper; first | (rw [if_pos (by decide +kernel)]; kernel_rfl) | (rw [if_neg (by decide +kernel)]; exact ⟨rfl, rfl⟩))
    (fun os started H enc _ => lifted os started H enc)

theorem proved : Rows.StoreBoundedSaid :=
  over
#print axioms proved
end Go.Proofs.Ytpeabfbljiaedaa.storeBounded
