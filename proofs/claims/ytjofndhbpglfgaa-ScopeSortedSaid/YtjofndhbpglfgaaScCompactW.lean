/- slices.Compact at api.Diag, walked. No conditions but bounds. -/
import Derived.Test.YtjofndhbpglfgaaScCompact
namespace Go.Proofs.Ytjofndhbpglfgaa
open Go.RowKit Go.Shelf Go.Sort Cpt

def CptPost (W0 : World) (blk cap : Nat) (l : List Diag) (e : Ending) (w' : World) : Prop :=
  e = .returned (.slice (some ⟨blk, 0, none⟩) (cpl l).length cap) ∧ Keeps (· = blk) W0 w' ∧ ∀ (i : Nat) (x : Diag), (cpl l)[i]? = some x → ∀ j, j < 4 → w'.cell? ⟨blk, i * 4 + j, none⟩ = some (x.v4.cell j)
theorem v4_at {l : List Diag} {d : Array V4} (hd : d.toList = l.map Diag.v4) {i : Nat} (hi : i < l.length) : d[i]! = l[i].v4 := by
  have hz : d.size = l.length := by have := congrArg List.length hd; simpa using this
  have h2 : d.toList[i]? = some l[i].v4 := by rw [hd, List.getElem?_map, List.getElem?_eq_getElem hi]; rfl
  rw [Stab.list_at (by omega)] at h2
  exact Option.some.inj h2
theorem Row.cell4 {Fm : V4 → Prop} {W0 W : World} {blk : Nat} {t : TypeId} {tl : List Value} {d : Array V4} (h : Row Fm W0 W blk t tl d) {i : Nat} (hi : i < d.size) {x : V4} (hx : d[i]! = x) {j : Nat} (hj : j < 4) : W.cell? ⟨blk, i * 4 + j, none⟩ = some (x.cell j) := by
  obtain ⟨h0, h1, h2, h3⟩ := h.at_ hi hx (off := 0) rfl
  rw [Nat.zero_add] at h0 h1 h2 h3
  match j, hj with
  | 0, _ => exact h0
  | 1, _ => exact h1
  | 2, _ => exact h2
  | 3, _ => exact h3
section
variable {W0 W : World} {blk cap off : Nat} {tl : List Value} {d : Array V4}
set_option maxRecDepth 100000 in
set_option maxHeartbeats 8000000 in
theorem compact_any (l : List Diag) (hR : Row FmDg W0 W blk 25 tl d) (hd : d.toList = l.map Diag.v4) (ho : off = 0) (hcap : d.size ≤ cap) (hs : d.size < 1125899906842624) :
    Calls Try.prog 13 #[.slice (some ⟨blk, off, none⟩) d.size cap] W (CptPost W0 blk cap l) := by
  have hz : d.size = l.length := by have := congrArg List.length hd; simpa using this
  obtain ⟨n, hn⟩ : ∃ n, l.length = n := ⟨_, rfl⟩
  have same : cpl l = l → ∀ (w' : World), Row FmDg W0 w' blk 25 tl d → CptPost W0 blk cap l (.returned (.slice (some ⟨blk, off, none⟩) n cap)) w' := fun he w' hr =>
    ⟨by rw [he, hn, ho], hr.keeps, fun i x hx j hj => by
      rw [he] at hx
      obtain ⟨hlt, rfl⟩ := List.getElem?_eq_some_iff.1 hx
      exact hr.cell4 (by omega) (v4_at hd hlt) hj⟩
  rw [hz, hn] at hcap hs ⊢
  have HSAME := Lib.hid same
  have HR := Lib.hid hR
  have HO := Lib.hid ho
  have HD := Lib.hid hd
  have HZ := Lib.hid (hz.trans hn)
  have HN := Lib.hid hn
  clear hR hd ho hz hn same
  by_cases hsm : n < 2
  · have hsz : (n : Int) < 2 := by omega
    have HE : Hid (cpl l = l) := by
      have := HN.out
      show cs _ _ _ = _
      match l, this with
      | [], _ => rfl
      | [_], _ => rfl
      | _ :: _ :: _, h => simp at h; omega
    go_enter Try.func13, Try.ntmps13
    go_wp2
    go_ret
    exact HSAME.out HE.out _ HR.out
  · have hsz : ¬ (n : Int) < 2 := by omega
    go_enter Try.func13, Try.ntmps13
    go_wp2
    go_loopw [3] (fun s3 wr => ∃ k : Nat, s3 = .int .i64 k ∧ 1 ≤ k ∧ k ≤ n ∧ Row FmDg W0 wr blk 25 tl d ∧ Hid (cpl (l.take k) = l.take k)) (fun s3 _ => n - (intOf s3).toNat)
    case atStart => exact ⟨1, rfl, Nat.le_refl _, by omega, HR.out, cs_one (by rw [HN.out]; omega)⟩
    case round =>
      obtain ⟨k, rfl, hk1, hkn, hr, hall⟩ := hrel
      by_cases hlt : k < n
      · obtain ⟨kp, hkp⟩ : ∃ kp : Nat, (k : Int) - 1 = (kp : Int) := ⟨k - 1, by omega⟩
        have hke : k = kp + 1 := by omega
        have kl : k < l.length := by rw [HN.out]; exact hlt
        have kpl : kp < l.length := by omega
        obtain ⟨x, hx⟩ : ∃ x, l[k] = x := ⟨_, rfl⟩
        obtain ⟨y, hy⟩ : ∃ y, l[kp] = y := ⟨_, rfl⟩
        obtain ⟨p0, p1, p2, p3⟩ := hr.at_ (i := k) (by rw [HZ.out]; exact hlt) ((v4_at HD.out kl).trans (by rw [hx])) HO.out
        obtain ⟨q0, q1, q2, q3⟩ := hr.at_ (i := kp) (by rw [HZ.out]; omega) ((v4_at HD.out kpl).trans (by rw [hy])) HO.out
        simp only [Diag.v4] at p0 p1 p2 p3 q0 q1 q2 q3
        have kz : (k : Int) < (n : Int) := by omega
        have kpz : (kp : Int) < (n : Int) := by omega
        have hwp : IntKind.i64.wrap (kp : Int) = (kp : Int) := by rw [IntKind.wrap_i64]; omega
        have kp0 : (0 : Int) ≤ (kp : Int) := by omega
        have k0 : (0 : Int) ≤ (k : Int) := by omega
        have HKE := Lib.hid hke
        cases hq : Diag.eqB x y
        · have hn2 := fun (W : World) => (Diag.eql_run W x y).trans (by rw [hq])
          have HALL : Hid (cpl (l.take (k + 1)) = l.take (k + 1)) := by
            subst hke
            show cs _ _ _ = _
            rw [cs_step kl, hx, hy, hq, if_neg (by simp)]
            rw [List.take_succ_eq_append_getElem kl]
            have := hall.out
            show cpl _ ++ _ = _
            rw [this, hx]
          clear hx hy hq hke
          go_wp2
          go_quiet (fail)
          go_wp2
          go_roundw
          case rel => exact ⟨k + 1, by go_num, by omega, by omega, hr.drewN _, HALL⟩
          case measure => simp [intOf]; omega
        · have hn2 := fun (W : World) => (Diag.eql_run W x y).trans (by rw [hq])
          have HCI : Hid (CI l (k + 1) k d) := by
            subst hke
            exact CI.start HD.out kl hall.out (by rw [hx, hy]; exact hq)
          have hck : ¬ cap = k := by omega
          obtain ⟨m, hm⟩ : ∃ m, n - k = m := ⟨_, rfl⟩
          have hmk : k + m = n := by omega
          have HM := Lib.hid hmk
          clear hx hy hq hke hall
          go_wp2
          go_quiet (fail)
          go_wp2
          have hr1 := hr.drewN nq
          have HR1 := Lib.hid hr1
          clear hr hr1 p0 p1 p2 p3 q0 q1 q2 q3 hn2
          go_loopw [3, 5] (fun s3 s5 wr => ∃ (kk k2 : Nat) (dk : Array V4), s3 = .int .i64 kk ∧ s5 = .int .i64 k2 ∧ 1 ≤ k2 ∧ k2 ≤ m ∧ kk < k + k2 ∧ Row FmDg W0 wr blk 25 tl dk ∧ Hid (CI l (k + k2) kk dk)) (fun _ s5 _ => m - (intOf s5).toNat)
          case atStart => exact ⟨k, 1, d, rfl, rfl, Nat.le_refl _, by omega, by omega, HR1.out, HCI.out⟩
          case round =>
            clear HR1
            obtain ⟨kk, k2, dk, rfl, rfl, h1, h2, h3, hr, hci⟩ := hrel
            have hzk : dk.size = n := hci.out.size.trans HN.out
            have HZK := Lib.hid hzk
            clear hzk
            have hmn : k + m = n := HM.out
            by_cases hlt2 : k2 < m
            · obtain ⟨kq, hkq⟩ : ∃ kq : Nat, (k2 : Int) - 1 = (kq : Int) := ⟨k2 - 1, by omega⟩
              have hkqe : k2 = kq + 1 := by omega
              have HKQ := Lib.hid hkqe
              have ul : k + k2 < l.length := by rw [HN.out]; omega
              have vl : k + kq < l.length := by rw [HN.out]; omega
              obtain ⟨u, hu⟩ : ∃ u, l[k + k2] = u := ⟨_, rfl⟩
              obtain ⟨v, hv⟩ : ∃ v, l[k + kq] = v := ⟨_, rfl⟩
              obtain ⟨p0, p1, p2, p3⟩ := hr.at_ (i := k + k2) (by rw [HZK.out]; omega) (hci.out.hi (k + k2) u (by omega) (by rw [List.getElem?_eq_getElem ul, hu])) HO.out
              obtain ⟨q0, q1, q2, q3⟩ := hr.at_ (i := k + kq) (by rw [HZK.out]; omega) (hci.out.hi (k + kq) v (by omega) (by rw [List.getElem?_eq_getElem vl, hv])) HO.out
              simp only [Diag.v4] at p0 p1 p2 p3 q0 q1 q2 q3
              have a1 : off + (k + k2) * 4 = off + k * 4 + k2 * 4 := by omega
              have a2 : off + (k + kq) * 4 = off + k * 4 + kq * 4 := by omega
              rw [a1] at p0 p1 p2 p3
              rw [a2] at q0 q1 q2 q3
              have k2z : (k2 : Int) < (m : Int) := by omega
              have kqz : (kq : Int) < (m : Int) := by omega
              have hwq : IntKind.i64.wrap (kq : Int) = (kq : Int) := by rw [IntKind.wrap_i64]; omega
              have kq0 : (0 : Int) ≤ (kq : Int) := by omega
              have k20 : (0 : Int) ≤ (k2 : Int) := by omega
              clear a1 a2 hmn
              cases hq : Diag.eqB u v
              · have hn2 := fun (W : World) => (Diag.neq_run W u v).trans (by rw [hq])
                have HCI2 : Hid (CI l (k + (k2 + 1)) (kk + 1) (dk.setIfInBounds kk u.v4)) := by
                  have e := HKQ.out
                  subst e
                  have := hci.out.keep (n := k + kq) (by omega) (by rw [show l[k + kq + 1]'(by omega) = u from hu, hv]; exact hq)
                  rw [show l[k + kq + 1]'(by omega) = u from hu] at this
                  exact this
                obtain ⟨o, ho⟩ : ∃ o, dk[kk]! = o := ⟨_, rfl⟩
                obtain ⟨oa, ob, oc, od, rfl⟩ := (ho ▸ hr.one kk (by rw [HZK.out]; have := HM.out; omega) : FmDg o)
                obtain ⟨o0, o1, o2, o3⟩ := hr.at_ (i := kk) (by rw [HZK.out]; have := HM.out; omega) ho HO.out
                dsimp only at o0 o1 o2 o3
                have f0 := hr.free (off + kk * 4)
                have f1 := hr.free (off + kk * 4 + 1)
                have f2 := hr.free (off + kk * 4 + 2)
                have f3 := hr.free (off + kk * 4 + 3)
                have kkz : (kk : Int) < (n : Int) := by have := HM.out; omega
                have kk0 : (0 : Int) ≤ (kk : Int) := by omega
                clear hu hv hq hkqe ho
                go_wp2
                go_quiet (fail)
                have HSET := Lib.hid ((hr.drewN nq).set4 (i := kk) (by rw [HZK.out]; have := HM.out; omega) u.v4 u.v4_form HO.out)
                simp only [Diag.v4] at HSET
                go_wp2
                go_roundw
                case rel => exact ⟨kk + 1, k2 + 1, _, by go_num, by go_num, by omega, by omega, by omega, HSET.out, HCI2⟩
                case measure => simp [intOf]; omega
              · have hn2 := fun (W : World) => (Diag.neq_run W u v).trans (by rw [hq])
                have HCI2 : Hid (CI l (k + (k2 + 1)) kk dk) := by
                  have e := HKQ.out
                  subst e
                  exact hci.out.skip (n := k + kq) (by omega) (by rw [show l[k + kq + 1]'(by omega) = u from hu, hv]; exact hq)
                clear hu hv hq hkqe
                go_wp2
                go_quiet (fail)
                go_wp2
                go_roundw
                case rel => exact ⟨kk, k2 + 1, dk, rfl, by go_num, by omega, by omega, by omega, hr.drewN _, HCI2⟩
                case measure => simp [intOf]; omega
            · have hke2 : k2 = m := by omega
              have HK2 := Lib.hid hke2
              have k2z : ¬ (k2 : Int) < (m : Int) := by omega
              obtain ⟨r, hr2⟩ : ∃ r, n - kk = r := ⟨_, rfl⟩
              have hrr : kk + r = n := by omega
              have hr0 : 0 < r := by omega
              obtain ⟨zs, hzl, hcl⟩ := run_clear_many (P := Try.prog) wr 22 25 (.agg #[.int .i64 0, .int .i64 0, .int .i64 0, .string ⟨#[]⟩]) 4 Try.underlying22 Try.zeroValue25 rfl
                (fun i hi => by match i, hi with | 0, _ => rfl | 1, _ => rfl | 2, _ => rfl | 3, _ => rfl) (by omega) blk (off + kk * 4) r (cap - kk) hr0
                (fun j hj => by
                  have h4 := hr.cell4 (i := kk + j / 4) (by rw [HZK.out]; omega) rfl (Nat.mod_lt j (show 0 < 4 by omega))
                  rw [show off + kk * 4 + j = (kk + j / 4) * 4 + j % 4 by rw [HO.out]; omega, h4]; rfl)
                (fun j _ => hr.free _)
              have HFIN : Hid (CptPost W0 blk cap l (.returned (.slice (some ⟨blk, off, none⟩) kk cap)) (wr.setCells blk (off + kk * 4) zs)) := by
                have hc := hci.out
                have ho := HO.out
                have hln : l.take (k + k2) = l := by rw [HK2.out]; exact List.take_of_length_le (by rw [HN.out]; omega)
                have hlen := hc.len
                rw [hln] at hlen
                refine ⟨by rw [← hlen, ho], setCells_keeps blk zs _ _ _ hr.keeps, fun i x hx j hj => ?_⟩
                have hik : i < kk := by rw [hlen]; exact (List.getElem?_eq_some_iff.1 hx).1
                rw [World.cell?_setCells_out blk _ _ _ _ (fun _ _ => .inl (by show i * 4 + j < off + kk * 4; omega))]
                exact hr.cell4 (by rw [HZK.out]; omega) (hc.lo i x (by rw [hln]; exact hx)) hj
              have hkkc : ¬ cap = kk := by omega
              have g1 : (kk : Int) ≤ (n : Int) := by omega
              have g2 : (kk : Int) ≤ (cap : Int) := by omega
              have g3 : (n : Int) ≤ (cap : Int) := by omega
              have HRR := Lib.hid hrr
              clear hke2 hzl hrr hmn
              go_wp2
              go_ret
              exact HFIN.out
      · have hke : k = n := by omega
        have HE : Hid (cpl l = l) := by
          have := hall.out
          rw [hke, List.take_of_length_le (by rw [HN.out]; exact Nat.le_refl _)] at this
          exact this
        have kz : ¬ (k : Int) < (n : Int) := by omega
        clear hke
        go_wp2
        go_ret
        exact HSAME.out HE.out _ hr
end
end Go.Proofs.Ytjofndhbpglfgaa
