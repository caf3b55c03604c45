/- kinds.Find and kinds.Check. -/
import Derived.Test.YtjofndhbpglfgaaDoorSigs
import Derived.Test.YtjofndhbpglfgaaDoorUChk
import Derived.Test.YtjofndhbpglfgaaDoorStepKept
namespace Go.Proofs.YtjofndhbpglfgaaDoor
open Go.RowKit Go.Shelf


set_option maxHeartbeats 400000 in
theorem kindIndexFunc (l : List KindSig) (v : Value) (F : Nat → Prop) (w : World) (hv : Sl w F KindSig.d l v) (m : FuncId) (cap : Array Value) (p : KindSig → Bool)
    (eg : Enters Tryd.prog m) (hc : ∀ i (h : i < l.length) cs w1, Below w.heap.size w w1 → Rp w1 F (KindSig.d l[i]) cs → Calls Tryd.prog m (#[.agg cs.toArray] ++ cap) w1 fun e w' => e = .returned (.bool (p l[i])) ∧ Below w1.heap.size w1 w') :
    Calls Tryd.prog 71 #[v, .func (.func m) #[] cap] w fun e w' => e = .returned (.int .i64 (idxInt p l)) ∧ Below w.heap.size w w' := by
  obtain ⟨A, c, rfl, hlc, hcm, _⟩ := hv.form
  have hl : l.length ≤ 9223372036854775807 := by unfold maxLen at hcm; omega
  have HC := Lib.hid hc
  clear hc
  unfold Enters at eg
  go_enter Tryd.func71, Tryd.ntmps71
  go_wp2
  go_loopw [5, 8] (fun _ i wr => ∃ k : Nat, k ≤ l.length ∧ i = .int .i64 k ∧ Below w.heap.size w wr ∧ Hid (idxInt p l = idxFrom p (l.drop k) k)) (fun _ i _ => l.length - (intOf i).toNat)
  case atStart => exact ⟨0, Nat.zero_le _, rfl, Below.refl _ _, rfl⟩
  case round =>
    obtain ⟨k, hk, rfl, hb, hno⟩ := hrel
    by_cases hlt : k < l.length
    · have hv' := hv.later hb
      obtain ⟨g, off, v1, rfl, hF, c0, c1, s0, s1⟩ := KindSig.get hv' hlt
      have HN := Lib.hid (HC.out k hlt [.string l[k].name, v1] _ hb (KindSig.rp.2 ⟨_, rfl, s0, s1⟩))
      have hst := idxFrom_step p l k hlt
      cases hp : p l[k]
      · have HE := Lib.hid (hno.out.trans (hst.1 hp))
        rw [hp] at HN
        clear hst hp
        go_wp2_with fail
        refine HN.out.mono ?_
        rintro e w1 ⟨rfl, hb1⟩
        go_wp2
        go_roundw
        case rel => exact ⟨k + 1, by omega, by go_num, hb.trans (hb1.mono hb.size), HE.out⟩
        case measure => simp [intOf]; omega
      · have HE := Lib.hid (hno.out.trans (hst.2 hp))
        rw [hp] at HN
        clear hst hp
        go_wp2_with fail
        refine HN.out.mono ?_
        rintro e w1 ⟨rfl, hb1⟩
        go_wp2
        go_ret
        exact ⟨ret_int HE.out.symm, hb.trans (hb1.mono hb.size)⟩
    · have HE := Lib.hid (hno.out.trans (idxFrom_end p l k (by omega)))
      go_wp2
      go_ret
      exact ⟨ret_int HE.out.symm, hb⟩

set_option maxHeartbeats 400000 in
theorem kindContainsFunc (l : List KindSig) (v : Value) (F : Nat → Prop) (w : World) (hv : Sl w F KindSig.d l v) (m : FuncId) (cap : Array Value) (p : KindSig → Bool)
    (eg : Enters Tryd.prog m) (hc : ∀ i (h : i < l.length) cs w1, Below w.heap.size w w1 → Rp w1 F (KindSig.d l[i]) cs → Calls Tryd.prog m (#[.agg cs.toArray] ++ cap) w1 fun e w' => e = .returned (.bool (p l[i])) ∧ Below w1.heap.size w1 w') :
    Calls Tryd.prog 46 #[v, .func (.func m) #[] cap] w fun e w' => e = .returned (.bool (l.any p)) ∧ Below w.heap.size w w' := by
  have HN := Lib.hid (kindIndexFunc l v F w hv m cap p eg hc)
  clear hc hv
  have HE := Lib.hid (idxInt_any p l)
  clear eg
  go_enter Tryd.func46, Tryd.ntmps46
  go_wp2_with fail
  refine HN.out.mono ?_
  rintro e w1 ⟨rfl, hb1⟩
  go_wp2
  go_ret
  exact ⟨ret_bool (by rw [HE.out]), hb1⟩


abbrev Bt := ByteArray
def named (x : Bt) (k : KindSig) : Bool := decide (k.name = x)
/-- What Find answers. -/
def Found (l : List KindSig) (x : Bt) (F : Nat → Prop) (W : World) (e : Ending) (w' : World) : Prop := Below W.heap.size W w' ∧
  ((∃ k v, l.find? (named x) = some k ∧ e = .returned (.tuple #[v, .bool true]) ∧ Sl w' F dInt k.params v) ∨ (l.find? (named x) = none ∧ e = .returned (.tuple #[.slice none 0 0, .bool false])))
theorem find_step {α : Type} (p : α → Bool) (l : List α) (k : Nat) (hk : k < l.length) : (p l[k] = false → (l.drop k).find? p = (l.drop (k + 1)).find? p) ∧ (p l[k] = true → (l.drop k).find? p = some l[k]) := by
  rw [List.drop_eq_getElem_cons hk, List.find?_cons]
  exact ⟨fun h => by simp [h], fun h => by simp [h]⟩

set_option maxHeartbeats 1000000 in
theorem find_any (l : List KindSig) (x : Bt) (v : Value) (F : Nat → Prop) (w : World) (hv : Sl w F KindSig.d l v) :
    Calls Tryd.prog 18 #[v, .string x] w (Found l x F w) := by
  obtain ⟨A, c, rfl, hlc, hcm, _⟩ := hv.form
  have hl : l.length ≤ 9223372036854775807 := by unfold maxLen at hcm; omega
  go_enter Tryd.func18, Tryd.ntmps18
  go_wp2
  go_loopw [10] (fun i wr => ∃ k : Nat, k ≤ l.length ∧ i = .int .i64 k ∧ Below w.heap.size w wr ∧ Hid (l.find? (named x) = (l.drop k).find? (named x))) (fun i _ => l.length - (intOf i).toNat)
  case atStart => exact ⟨0, Nat.zero_le _, rfl, Below.refl _ _, rfl⟩
  case round =>
    obtain ⟨k, hk, rfl, hb, hno⟩ := hrel
    by_cases hlt : k < l.length
    · have hst := find_step (named x) l k hlt
      obtain ⟨g, off, v1, hadr, hF, c0, c1, s0, s1⟩ := KindSig.get (hv.later hb) hlt
      obtain rfl := hadr
      obtain ⟨A3, c3, rfl, _⟩ := s1.form
      obtain ⟨y, hy⟩ : ∃ y, l[k] = y := ⟨_, rfl⟩
      rw [hy] at c0 c1 s1 hst
      have k0 : (0 : Int) ≤ (k : Int) := by omega
      have k1 : (k : Int) < (l.length : Int) := by omega
      have hgw := block_lt_of_cell c0
      cases hp : named x y
      · have HE := Lib.hid (hno.out.trans (hst.1 hp))
        have hq := str_no (show y.name ≠ x from of_decide_eq_false hp)
        clear hst hp hy hno
        go_wp2
        go_roundw
        case rel => exact ⟨k + 1, by omega, by go_num, Below.alloc hb hb.size _, HE.out⟩
        case measure => simp [intOf]; omega
      · have HE := Lib.hid (hno.out.trans (hst.2 hp))
        have hq := str_yes (show y.name = x from of_decide_eq_true hp)
        have HS := Lib.hid s1
        clear hst hp hy hno
        go_wp2
        go_ret2
        exact ⟨Below.alloc hb hb.size _, .inl ⟨y, _, HE.out, rfl, HS.out.later (Below.alloc (Below.refl _ _) (Nat.le_refl _) _)⟩⟩
    · have HE := Lib.hid (hno.out.trans (by rw [List.drop_eq_nil_of_le (by omega), List.find?_nil]))
      go_wp2
      go_ret2
      exact ⟨hb, .inr ⟨HE.out, rfl⟩⟩

/-- The closure that Check asks with. -/
theorem clo_check (y : KindSig) (z : Nat) (W : World) (hz : W.cell? ⟨z, 0, none⟩ = some (.string y.name)) (F : Nat → Prop) (x : KindSig) (cs : List Value) (hx : Rp W F x.d cs) :
    Calls Tryd.prog 47 (#[.agg cs.toArray] ++ #[.pointer (some ⟨z, 0, none⟩)]) W fun e w' => e = .returned (.bool (named y.name x)) ∧ Below W.heap.size W w' := by
  obtain ⟨v1, rfl, s0, s1⟩ := KindSig.rp.1 hx
  obtain ⟨A3, c3, rfl, _⟩ := s1.form
  have hzl := block_lt_of_cell hz
  change Calls Tryd.prog 47 #[.agg #[.string x.name, .slice A3 x.params.length c3], .pointer (some ⟨z, 0, none⟩)] W _
  cases hq : named y.name x
  · have hp := str_no (show x.name ≠ y.name from of_decide_eq_false hq)
    clear hq hx
    go_enter Tryd.func47, Tryd.ntmps47
    go_wp2
    go_ret
    exact ⟨rfl, Below.alloc (Below.refl _ _) (Nat.le_refl _) _⟩
  · have hp := str_yes (show x.name = y.name from of_decide_eq_true hq)
    clear hq hx
    go_enter Tryd.func47, Tryd.ntmps47
    go_wp2
    go_ret
    exact ⟨rfl, Below.alloc (Below.refl _ _) (Nat.le_refl _) _⟩

def outK (p : Int) : Bool := decide (p < 0) || decide (2 < p)
def chkKs : List KindSig → List KindSig → Int
  | _, [] => 0
  | pre, k :: r => if pre.any (named k.name) = true then 7 else if k.params.any outK = true then 4 else chkKs (pre ++ [k]) r
/-- What Check answers. -/
def chkK (l : List KindSig) : Int := if 4096 < l.length then 2 else chkKs [] l
theorem chkKs_step (l : List KindSig) (k : Nat) (h : k < l.length) : chkKs (l.take k) (l.drop k) = if (l.take k).any (named l[k].name) = true then 7 else if l[k].params.any outK = true then 4 else chkKs (l.take (k + 1)) (l.drop (k + 1)) := by
  rw [List.drop_eq_getElem_cons h, chkKs, List.take_succ_eq_append_getElem h]
theorem any_step' {α : Type} (f : α → Bool) (l : List α) (k : Nat) (h : k < l.length) : (l.drop k).any f = (f l[k] || (l.drop (k + 1)).any f) := by
  rw [List.drop_eq_getElem_cons h, List.any_cons]

set_option maxHeartbeats 2000000 in
theorem kcheck_any (l : List KindSig) (v : Value) (F : Nat → Prop) (w : World) (hv : Sl w F KindSig.d l v) :
    Calls Tryd.prog 13 #[v] w fun e w' => e = .returned (.int .i64 (chkK l)) ∧ Below w.heap.size w w' := by
  obtain ⟨A, c, rfl, hlc, hcm, _⟩ := hv.form
  have hl : l.length ≤ 9223372036854775807 := by unfold maxLen at hcm; omega
  by_cases hbig : 4096 < l.length
  · have HE := Lib.hid (show chkK l = 2 from if_pos hbig)
    have hb2 : (4096 : Int) < (l.length : Int) := by omega
    go_enter Tryd.func13, Tryd.ntmps13
    go_wp2
    go_ret
    exact ⟨ret_int HE.out.symm, Below.refl _ _⟩
  · have HE := Lib.hid (show chkK l = chkKs [] l from if_neg hbig)
    have hb2 : ¬ (4096 : Int) < (l.length : Int) := by omega
    go_enter Tryd.func13, Tryd.ntmps13
    go_wp2
    go_loopw [12] (fun i wr => ∃ k : Nat, k ≤ l.length ∧ i = .int .i64 k ∧ Below w.heap.size w wr ∧ Hid (chkK l = chkKs (l.take k) (l.drop k))) (fun i _ => l.length - (intOf i).toNat)
    case atStart => exact ⟨0, Nat.zero_le _, rfl, Below.refl _ _, by rw [HE.out]; rfl⟩
    case round =>
      obtain ⟨k, hk, rfl, hb, hno⟩ := hrel
      by_cases hlt : k < l.length
      · have hst := chkKs_step l k hlt
        obtain ⟨g, off, v1, hadr, hF, c0, c1, s0, s1⟩ := KindSig.get (hv.later hb) hlt
        have hvt := (hv.later hb).take (i := k) (by omega)
        obtain rfl := hadr
        obtain ⟨A3, c3, rfl, hc3l, hc3m, _⟩ := s1.form
        obtain ⟨y, hy⟩ : ∃ y, l[k] = y := ⟨_, rfl⟩
        rw [hy] at c0 c1 s0 s1 hst
        rw [hy] at hc3l
        have k0 : (0 : Int) ≤ (k : Int) := by omega
        have k1 : (k : Int) < (l.length : Int) := by omega
        have k2 : (k : Int) ≤ (c : Int) := by omega
        have hgw := block_lt_of_cell c0
        obtain ⟨zb, hzb⟩ : ∃ zb, wr.heap.size = zb := ⟨_, rfl⟩
        have hblk : Blk (wr.alloc (.cells #[.string y.name, .slice A3 y.params.length c3] 29)) zb 29 [.string y.name, .slice A3 y.params.length c3] := by
          have := Blk.new wr 29 [.string y.name, .slice A3 y.params.length c3]
          simpa [hzb] using this
        have hba : Below wr.heap.size wr (wr.alloc (.cells #[.string y.name, .slice A3 y.params.length c3] 29)) := Below.alloc (Below.refl _ _) (Nat.le_refl _) _
        have eg : Enters Tryd.prog 47 := enters_of Tryd.func47 (by kernel_rfl) rfl
        have HCf := Lib.hid (kindContainsFunc (l.take k) _ _ _ (hvt.later hba) 47 #[.pointer (some ⟨zb, 0, none⟩)] (named y.name) eg (fun i hi cs w1 hb1 hr => clo_check y zb w1 ((hblk.later hb1).cell (i := 0) rfl) _ _ _ hr))
        have HS1 := Lib.hid s1
        have HBL := Lib.hid hblk
        have HBA := Lib.hid hba
        rw [← hzb] at HCf
        have HZB := Lib.hid hzb
        clear hvt hba hblk eg hy s1 hzb
        cases hq : (l.take k).any (named y.name)
        · rw [hq] at HCf hst
          have hst2 := hst.trans (if_neg (by decide))
          have HN := Lib.hid (hno.out.trans hst2)
          have hpl : y.params.length ≤ 9223372036854775807 := by unfold maxLen at hc3m; omega
          clear hq hst hst2 hno
          go_wp2_with fail
          refine HCf.out.mono ?_
          rintro e w2 ⟨rfl, hb2'⟩
          have hbl2 := (HBL.out.later hb2')
          rw [← HZB.out] at hbl2
          have d1 := hbl2.cell (i := 1) rfl
          have hbw2 : Below w.heap.size w w2 := hb.trans ((HBA.out.trans (hb2'.mono (by simp))).mono hb.size)
          have HS2 := Lib.hid ((HS1.out.later HBA.out).later hb2')
          clear hbl2
          go_wp2_with fail
          obtain ⟨wo, rfl⟩ : ∃ wo, wo = w2 := ⟨_, rfl⟩
          go_loop [6, 25] (fun _ i => ∃ q : Nat, q ≤ y.params.length ∧ i = .int .i64 q ∧ Hid (y.params.any outK = (y.params.drop q).any outK)) (fun _ i => y.params.length - (intOf i).toNat)
          case atStart => exact ⟨0, Nat.zero_le _, rfl, rfl⟩
          case round =>
            obtain ⟨q, hq, rfl, hnq⟩ := hrel
            by_cases hql : q < y.params.length
            · obtain ⟨g5, off5, hadr5, _, e0, e9⟩ := dInt.get HS2.out hql
              obtain rfl := hadr5
              have hstq := any_step' outK y.params q hql
              obtain ⟨pz, hpz⟩ : ∃ pz, y.params[q] = pz := ⟨_, rfl⟩
              rw [hpz] at e0 e9 hstq
              have q0 : (0 : Int) ≤ (q : Int) := by omega
              have q1 : (q : Int) < (y.params.length : Int) := by omega
              by_cases h1 : pz < 0
              · have HO := Lib.hid (HN.out.trans (if_pos (hnq.out.trans (hstq.trans (by rw [show outK pz = true by simp [outK, h1]]; rfl)))))
                clear hstq hnq hpz
                go_wp2_with fail
                go_ret
                exact ⟨ret_int HO.out.symm, hbw2⟩
              · by_cases h2 : 2 < pz
                · have HO := Lib.hid (HN.out.trans (if_pos (hnq.out.trans (hstq.trans (by rw [show outK pz = true by simp [outK, h2]]; rfl)))))
                  clear hstq hnq hpz
                  go_wp2_with fail
                  go_ret
                  exact ⟨ret_int HO.out.symm, hbw2⟩
                · have HQ := Lib.hid (show y.params.any outK = (y.params.drop (q + 1)).any outK from hnq.out.trans (hstq.trans (by rw [show outK pz = false by simp [outK, h1, h2], Bool.false_or])))
                  clear hstq hnq hpz
                  go_wp2_with fail
                  go_round
                  case rel => exact ⟨q + 1, by omega, by go_num, HQ.out⟩
                  case measure => simp [intOf]; omega
            · have HO := Lib.hid (HN.out.trans (if_neg (by rw [hnq.out, List.drop_eq_nil_of_le (by omega)]; decide)))
              have q1 : ¬ (q : Int) < (y.params.length : Int) := by omega
              go_wp2_with fail
              go_roundw
              case rel => exact ⟨k + 1, by omega, by go_num, hbw2, HO.out⟩
              case measure => simp [intOf]; omega
        · rw [hq] at HCf hst
          have HO := Lib.hid (hno.out.trans (hst.trans (if_pos rfl)))
          clear hq hst hno
          go_wp2_with fail
          refine HCf.out.mono ?_
          rintro e w2 ⟨rfl, hb2'⟩
          go_wp2_with fail
          go_ret
          exact ⟨ret_int HO.out.symm, hb.trans ((HBA.out.trans (hb2'.mono (by simp))).mono hb.size)⟩
      · have HO := Lib.hid (show chkK l = 0 from hno.out.trans (by rw [List.drop_eq_nil_of_le (by omega), chkKs]))
        have k1 : ¬ (k : Int) < (l.length : Int) := by omega
        go_wp2_with fail
        go_ret
        exact ⟨ret_int HO.out.symm, hb⟩
end Go.Proofs.YtjofndhbpglfgaaDoor
