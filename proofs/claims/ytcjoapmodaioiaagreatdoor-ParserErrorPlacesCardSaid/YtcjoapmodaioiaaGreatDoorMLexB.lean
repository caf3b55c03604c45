/- The parser: LexSt, LexRun, LexPut. -/
import Derived.Test.YtcjoapmodaioiaaGreatDoorShelfLex
import Derived.Test.YtcjoapmodaioiaaGreatDoorMLexA
import Derived.Test.YtcjoapmodaioiaaGreatDoorTokTypes
import Derived.Test.YtcjoapmodaioiaaGreatDoorStrClone
import Derived.Deep.QuietTactic
import Derived.BigQuiet
import Derived.Deep.RegionLaw
section
namespace Go.Proofs.YtcjoapmodaioiaaGreatDoor
open Go.RowKit Go.Shelf

def Tok.cells (x : Tok) : List Value := [.int .i64 x.kind, .string x.text, .int .i64 x.n, .int .i64 x.line, .int .i64 x.col]
def dcells (x : Int × Int × Int) : List Value := [.int .i64 x.1, .int .i64 x.2.1, .int .i64 x.2.2, .string ⟨#[]⟩]

structure Sc (W : World) (B p : Nat) (s : ByteArray) (at_ ln cl : Int) (ov bv : Value) (toks : List Tok) (bads : List (Int × Int × Int)) : Prop where
  blk : Blk W p 84 [.string s, .int .i64 at_, .int .i64 ln, .int .i64 cl, ov, bv]
  outs : W.ownsRow B 59 5 ov toks.length (toks.flatMap Tok.cells)
  bds : W.ownsRow B 28 4 bv bads.length (bads.flatMap dcells)
  low : B ≤ p

section
variable {W W' : World} {B p : Nat} {s : ByteArray} {at_ ln cl : Int} {ov bv : Value} {toks : List Tok} {bads : List (Int × Int × Int)}
theorem Sc.reblk (h : Sc W B p s at_ ln cl ov bv toks bads) (hk : Keeps (fun j => j = p) W W') {a l c : Int} (hb : Blk W' p 84 [.string s, .int .i64 a, .int .i64 l, .int .i64 c, ov, bv]) :
    Sc W' B p s a l c ov bv toks bads :=
  ⟨hb, own_keeps h.outs hk (fun i hi e => own_ne_blk h.outs h.blk (by decide) (by rw [hi, e])), own_keeps h.bds hk (fun i hi e => own_ne_blk h.bds h.blk (by decide) (by rw [hi, e])), h.low⟩
theorem Sc.keeps (h : Sc W B p s at_ ln cl ov bv toks bads) (hk : Keeps (fun _ => False) W W') : Sc W' B p s at_ ln cl ov bv toks bads :=
  ⟨h.blk.keeps hk (fun h => h), own_keeps h.outs hk (fun _ _ h => h), own_keeps h.bds hk (fun _ _ h => h), h.low⟩
end

set_option maxHeartbeats 1000000 in
theorem skip_any (W : World) (B p : Nat) (s : ByteArray) (at_ ln cl : Int) (ov bv : Value) (toks : List Tok) (bads : List (Int × Int × Int)) (h : Sc W B p s at_ ln cl ov bv toks bads) (n : Int) (h0 : 0 ≤ at_ ∧ 0 ≤ cl ∧ 0 ≤ n) (h1 : at_ ≤ 100000 ∧ cl ≤ 100000 ∧ n ≤ 100000) (hB : B ≤ W.heap.size) :
    Calls Tryz.prog 70 #[.pointer (some ⟨p, 0, none⟩), .int .i64 n] W fun e w' => e = .returned (.tuple #[]) ∧ Sc w' B p s (at_ + n) ln (cl + n) ov bv toks bads ∧ Below B W w' := by
  obtain ⟨a0, b0, c0⟩ := h0
  obtain ⟨a1, b1, d1⟩ := h1
  have q0 : (0 : Int) ≤ at_ + n := by omega
  have q1 : at_ + n ≤ 200000 := by omega
  have q2 : (0 : Int) ≤ cl + n := by omega
  have q3 : cl + n ≤ 200000 := by omega
  have e1 := h.blk.cell (i := 1) rfl
  have e3 := h.blk.cell (i := 3) rfl
  have f1 := h.blk.free 1
  have f3 := h.blk.free 3
  go_enter Tryz.func70, Tryz.ntmps70
  go_wp2_with fail
  go_end0
  have hk : Keeps (fun j => j = p) W ((W.setCell ⟨p, 1, none⟩ (.int .i64 (at_ + n))).setCell ⟨p, 3, none⟩ (.int .i64 (cl + n))) :=
    ((Keeps.refl (fun j => j = p) W).setCell (p := ⟨p, 1, none⟩) (fun _ => rfl) _).setCell (p := ⟨p, 3, none⟩) (fun _ => rfl) _
  have hb := (h.blk.set_ 1 (.int .i64 (at_ + n))).set_ 3 (.int .i64 (cl + n))
  exact ⟨rfl, h.reblk hk hb, hk.below (fun j hj => by rw [hj]; exact h.low) hB⟩

set_option maxHeartbeats 400000 in
theorem small_any (c : UInt8) (W : World) : Calls Tryz.prog 71 #[.int .u8 (c.toNat : Int)] W fun e w' => e = .returned (.bool (small c)) ∧ W = w' := by
  go_enter Tryz.func71, Tryz.ntmps71
  go_wp2
  all_goals
    go_ret
    exact ⟨ret_bool (by rw [Bool.eq_iff_iff]; simp [small]; omega), rfl⟩
theorem large_any (c : UInt8) (W : World) : Calls Tryz.prog 75 #[.int .u8 (c.toNat : Int)] W fun e w' => e = .returned (.bool (large c)) ∧ W = w' := by
  go_enter Tryz.func75, Tryz.ntmps75
  go_wp2
  all_goals
    go_ret
    exact ⟨ret_bool (by rw [Bool.eq_iff_iff]; simp [large]; omega), rfl⟩
theorem digit_any (c : UInt8) (W : World) : Calls Tryz.prog 76 #[.int .u8 (c.toNat : Int)] W fun e w' => e = .returned (.bool (digit c)) ∧ W = w' := by
  go_enter Tryz.func76, Tryz.ntmps76
  go_wp2
  all_goals
    go_ret
    exact ⟨ret_bool (by rw [Bool.eq_iff_iff]; simp [digit]; omega), rfl⟩
set_option maxHeartbeats 400000 in
theorem inner_any (c : UInt8) (W : World) : Calls Tryz.prog 74 #[.int .u8 (c.toNat : Int)] W fun e w' => e = .returned (.bool (inner c)) ∧ W = w' := by
  have H1 := Lib.hid (fun (W : World) => small_any c W)
  have H2 := Lib.hid (fun (W : World) => large_any c W)
  have H3 := Lib.hid (fun (W : World) => digit_any c W)
  have hI : inner c = (small c || large c || digit c || decide (c.toNat = 39)) := rfl
  have HI := Lib.hid hI
  clear hI
  cases hs : small c
  · rw [hs] at H1 HI
    cases hl : large c
    · rw [hl] at H2 HI
      cases hd : digit c
      · rw [hd] at H3 HI
        clear hs hl hd
        go_enter Tryz.func74, Tryz.ntmps74
        go_wp2_with fail
        with_reducible refine (H1.out _).mono ?_
        rintro e w1 ⟨rfl, rfl⟩
        go_wp2_with fail
        with_reducible refine (H2.out _).mono ?_
        rintro e w1 ⟨rfl, rfl⟩
        go_wp2_with fail
        with_reducible refine (H3.out _).mono ?_
        rintro e w1 ⟨rfl, rfl⟩
        go_wp2_with fail
        go_ret
        exact ⟨ret_bool (by rw [HI.out, Bool.eq_iff_iff]; simp; omega), rfl⟩
      · rw [hd] at H3 HI
        clear hs hl hd
        go_enter Tryz.func74, Tryz.ntmps74
        go_wp2_with fail
        with_reducible refine (H1.out _).mono ?_
        rintro e w1 ⟨rfl, rfl⟩
        go_wp2_with fail
        with_reducible refine (H2.out _).mono ?_
        rintro e w1 ⟨rfl, rfl⟩
        go_wp2_with fail
        with_reducible refine (H3.out _).mono ?_
        rintro e w1 ⟨rfl, rfl⟩
        go_wp2_with fail
        go_ret
        exact ⟨ret_bool (by rw [HI.out]; simp), rfl⟩
    · rw [hl] at H2 HI
      clear hs hl
      go_enter Tryz.func74, Tryz.ntmps74
      go_wp2_with fail
      with_reducible refine (H1.out _).mono ?_
      rintro e w1 ⟨rfl, rfl⟩
      go_wp2_with fail
      with_reducible refine (H2.out _).mono ?_
      rintro e w1 ⟨rfl, rfl⟩
      go_wp2_with fail
      go_ret
      exact ⟨ret_bool (by rw [HI.out]; simp), rfl⟩
  · rw [hs] at H1 HI
    clear hs
    go_enter Tryz.func74, Tryz.ntmps74
    go_wp2_with fail
    with_reducible refine (H1.out _).mono ?_
    rintro e w1 ⟨rfl, rfl⟩
    go_wp2_with fail
    go_ret
    exact ⟨ret_bool (by rw [HI.out]; simp), rfl⟩
theorem mark_any (c : UInt8) (W : World) : Calls Tryz.prog 78 #[.int .u8 (c.toNat : Int)] W fun e w' => e = .returned (.bool (mark c)) ∧ W = w' := by
  have H1 := Lib.hid ((Tryz.strings_IndexByte ⟨symbols.toArray⟩ (c.toNat : Int) W).mono (R' := fun e w' => e = .returned (.int .i64 (Lib.indexByte symbols c)) ∧ W = w') fun e w' ⟨he, hw⟩ => ⟨by rw [he]; simp, hw.symm⟩)
  go_enter Tryz.func78, Tryz.ntmps78
  go_wp2_with fail
  refine H1.out.mono ?_
  rintro e w1 ⟨rfl, rfl⟩
  go_wp2_with fail
  go_ret
  exact ⟨ret_bool (by unfold mark; rfl), rfl⟩
theorem notnl_any (c : UInt8) (W : World) : Calls Tryz.prog 80 #[.int .u8 (c.toNat : Int)] W fun e w' => e = .returned (.bool (c != 10)) ∧ W = w' := by
  go_enter Tryz.func80, Tryz.ntmps80
  go_wp2
  go_ret
  exact ⟨ret_bool (by rw [Bool.eq_iff_iff]; simp [← UInt8.toNat_inj]; omega), rfl⟩
end Go.Proofs.YtcjoapmodaioiaaGreatDoor
end

section
namespace Go.Proofs.YtcjoapmodaioiaaGreatDoor
open Go.RowKit Go.Shelf

theorem tw_step (pr : UInt8 → Bool) (l : Bs) (k : Nat) (h : k < l.length) : ((l.drop k).takeWhile pr).length = if pr l[k] then 1 + ((l.drop (k + 1)).takeWhile pr).length else 0 := by
  rw [List.drop_eq_getElem_cons h, List.takeWhile_cons]
  split
  · simp only [List.length_cons]; omega
  · rfl

set_option maxHeartbeats 1000000 in
theorem run_any (W : World) (p : Nat) (s : ByteArray) (a : Nat) (v2 v3 v4 v5 : Value) (h : Blk W p 84 [.string s, .int .i64 a, v2, v3, v4, v5]) (ha : a ≤ s.size) (hs : s.size ≤ 8192)
    (m : FuncId) (pr : UInt8 → Bool) (eg : Enters Tryz.prog m) (hm : ∀ (c : UInt8) (W : World), Calls Tryz.prog m #[.int .u8 (c.toNat : Int)] W fun e w' => e = .returned (.bool (pr c)) ∧ W = w') :
    Calls Tryz.prog 73 #[.pointer (some ⟨p, 0, none⟩), .func (.func m) #[] #[]] W fun e w' =>
      e = .returned (.string (s.extract a (a + ((s.data.toList.drop a).takeWhile pr).length))) ∧ Keeps (fun _ => False) W w' := by
  have e0 := h.cell (i := 0) rfl
  have e1 := h.cell (i := 1) rfl
  have HM := Lib.hid hm
  clear hm
  unfold Enters at eg
  have hsl : s.data.toList.length = s.size := (Lib.size_eq s).symm
  have a1 : (a : Int) ≤ (s.size : Int) := by omega
  have a2 : (s.size : Int) ≤ 8192 := by omega
  go_enter Tryz.func73, Tryz.ntmps73
  go_wp2_with fail
  go_loopw [5] (fun i wr => ∃ j : Nat, a + j ≤ s.size ∧ i = .int .i64 ((a + j : Nat) : Int) ∧ W = wr ∧ Hid (((s.data.toList.drop a).takeWhile pr).length = j + ((s.data.toList.drop (a + j)).takeWhile pr).length)) (fun i _ => s.size - (intOf i).toNat)
  case atStart => exact ⟨0, by omega, by simp, rfl, by show _ = _; simp⟩
  case round =>
    obtain ⟨j, hj, rfl, rfl, hno⟩ := hrel
    obtain ⟨k, hk⟩ : ∃ k, a + j = k := ⟨_, rfl⟩
    rw [hk] at hj hno ⊢
    have hak : (a : Int) ≤ (k : Int) := by omega
    by_cases hlt : k < s.size
    · have k0 : (0 : Int) ≤ (k : Int) := by omega
      have k1 : (k : Int) < (s.size : Int) := by omega
      have hst := tw_step pr s.data.toList k (by omega)
      have hget : s.data.toList[k]'(by omega) = s[k] := by rw [Array.getElem_toList]; rfl
      rw [hget] at hst
      have HC := Lib.hid (HM.out s[k])
      cases hp : pr s[k]
      · rw [hp] at HC
        rw [hp, if_neg (by decide)] at hst
        have hE := Lib.hid (hno.out.trans (by rw [hst]; rfl) : ((s.data.toList.drop a).takeWhile pr).length = j)
        clear hst hget hp hno
        go_wp2_with fail
        refine (HC.out _).mono ?_
        rintro e w1 ⟨rfl, rfl⟩
        go_wp2_with fail
        go_quiet (fail)
        go_wp2_with fail
        go_ret
        exact ⟨by rw [hE.out, hk]; rfl, (Keeps.refl _ _).drewN _⟩
      · rw [hp] at HC
        rw [hp, if_pos rfl] at hst
        have hE := Lib.hid (hno.out.trans (by rw [hst]; omega) : ((s.data.toList.drop a).takeWhile pr).length = (j + 1) + ((s.data.toList.drop (k + 1)).takeWhile pr).length)
        clear hst hget hp hno
        go_wp2_with fail
        refine (HC.out _).mono ?_
        rintro e w1 ⟨rfl, rfl⟩
        go_wp2_with fail
        go_roundw
        case rel => exact ⟨j + 1, by omega, by congr 1; omega, by trivial, by rw [show a + (j + 1) = k + 1 by omega]; exact hE.out⟩
        case measure => simp [intOf]; omega
    · have k1 : ¬ (k : Int) < (s.size : Int) := by omega
      have hz : ((s.data.toList.drop a).takeWhile pr).length = j := by rw [hno.out, List.drop_eq_nil_of_le (by omega)]; rfl
      have hE := Lib.hid hz
      obtain rfl : k = s.size := by omega
      clear hz hno
      go_wp2_with fail
      go_quiet (fail)
      go_wp2_with fail
      go_ret
      exact ⟨by rw [hE.out, hk]; rfl, (Keeps.refl _ _).drewN _⟩

def kwBytes : ByteArray := ⟨#[32, 109, 111, 100, 117, 108, 101, 32, 105, 109, 112, 111, 114, 116, 32, 101, 120, 112, 111, 114, 116, 32, 100, 97, 116, 97, 32, 99, 108, 97, 115, 115, 32, 105, 110, 115, 116, 97, 110, 99, 101, 32, 101, 102, 102, 101, 99, 116, 32, 119, 104, 101, 114, 101, 32, 108, 101, 116, 32, 105, 110, 32, 105, 102, 32, 116, 104, 101, 110, 32, 101, 108, 115, 101, 32, 99, 97, 115, 101, 32, 111, 102, 32, 104, 97, 110, 100, 108, 101, 32, 119, 105, 116, 104, 32, 105, 110, 102, 105, 120, 108, 32, 105, 110, 102, 105, 120, 114, 32, 105, 110, 102, 105, 120, 32, 114, 101, 116, 117, 114, 110, 32, 32, 61, 32, 45, 62, 32, 61, 62, 32, 58, 32, 124, 32, 92, 32, 46, 32, 33, 32]⟩
def kwB (u : Bs) : Bool := (!u.isEmpty) && !(decide (0 ≤ Lib.indexByte u 32)) && Lib.contains kwBytes.data.toList ([32] ++ u ++ [32])

set_option maxRecDepth 100000 in
set_option maxHeartbeats 1000000 in
theorem keyword_any (s : ByteArray) (W : World) (m : Int) (hm : W.cell? ⟨0, 0, none⟩ = some (.int .i64 m)) (hs : s.size ≤ 8192) :
    Calls Tryz.prog 109 #[.string s] W fun e w' => e = .returned (.bool (kwB s.data.toList)) ∧ W = w' := by
  have hk : kwB s.data.toList = ((!s.data.toList.isEmpty) && !(decide (0 ≤ Lib.indexByte s.data.toList 32)) && Lib.contains kwBytes.data.toList ([32] ++ s.data.toList ++ [32])) := rfl
  have HK := Lib.hid hk
  clear hk
  have hte : s.toList = s.data.toList := ByteArray.toList_eq s
  cases hE : s.data.toList.isEmpty
  · have hE' : s.toList.isEmpty = false := by rw [hte]; exact hE
    rw [hE] at HK
    cases hC : decide (0 ≤ Lib.indexByte s.data.toList 32)
    · rw [hC] at HK
      have H1 := Lib.hid (Tryz.strings_Contains_one s 32 W)
      rw [hC] at H1
      clear hC hE hte
      go_enter Tryz.func109, Tryz.ntmps109
      go_wp2_with fail
      with_reducible refine H1.out.mono ?_
      rintro e w1 ⟨rfl, rfl⟩
      go_wp2_with fail
      have hdata : (⟨#[32]⟩ ++ s ++ ⟨#[32]⟩ : ByteArray).data.toList = [32] ++ s.data.toList ++ [32] := by simp [ByteArray.data_append]
      refine ((Tryz.strings_Contains kwBytes (⟨#[32]⟩ ++ s ++ ⟨#[32]⟩) m w1 (by decide +kernel) hm).mono (R' := fun e w' => e = .returned (.bool (kwB s.data.toList)) ∧ w' = w1) fun e w' ⟨he, hw⟩ => ⟨by rw [he, hdata, HK.out]; rfl, hw⟩).mono ?_
      rintro e w2 ⟨rfl, rfl⟩
      go_wp2_with fail
      go_ret
      exact ⟨rfl, rfl⟩
    · rw [hC] at HK
      have H1 := Lib.hid (Tryz.strings_Contains_one s 32 W)
      rw [hC] at H1
      clear hC hE hte
      go_enter Tryz.func109, Tryz.ntmps109
      go_wp2_with fail
      with_reducible refine H1.out.mono ?_
      rintro e w1 ⟨rfl, rfl⟩
      go_wp2_with fail
      go_ret
      exact ⟨ret_bool (by rw [HK.out]; rfl), rfl⟩
  · have hE' : s.toList.isEmpty = true := by rw [hte]; exact hE
    rw [hE] at HK
    clear hE hte
    go_enter Tryz.func109, Tryz.ntmps109
    go_wp2_with fail
    go_ret
    exact ⟨ret_bool (by rw [HK.out]; rfl), rfl⟩
end Go.Proofs.YtcjoapmodaioiaaGreatDoor
end

section
namespace Go.Proofs.YtcjoapmodaioiaaGreatDoor
open Go.RowKit Go.Shelf

theorem infoTok : (Tryz.prog.info? 59).map (fun i => (i.zero, i.size, i.bytes)) = some (some (.agg #[.int .i64 0, .string ⟨#[]⟩, .int .i64 0, .int .i64 0, .int .i64 0]), 5, 48) := by kernel_rfl
theorem infoDiag : (Tryz.prog.info? 28).map (fun i => (i.zero, i.size, i.bytes)) = some (some (.agg #[.int .i64 0, .int .i64 0, .int .i64 0, .string ⟨#[]⟩]), 4, 40) := by kernel_rfl

theorem own_apart {w : World} {base base' : Nat} {e e' : TypeId} {size size' : Nat} {v v' : Value} {n n' : Nat} {xs xs' : List Value} (h : w.ownsRow base e size v n xs) (h' : w.ownsRow base' e' size' v' n' xs') (hne : e ≠ e') :
    ∀ i, v.ownBlock = some i → ¬ v'.ownBlock = some i := by
  intro i hi hj
  rcases h.2 with ⟨rfl, _⟩ | ⟨g, cap, cur, rfl, _, hh, _⟩
  · simp [Value.ownBlock] at hi
  · rcases h'.2 with ⟨rfl, _⟩ | ⟨g', cap', cur', rfl, _, hh', _⟩
    · simp [Value.ownBlock] at hj
    · have e1 : g = i := by simpa [Value.ownBlock] using hi
      have e2 : g' = i := by simpa [Value.ownBlock] using hj
      subst e1; subst e2
      rw [hh] at hh'
      injection hh' with hh'
      injection hh' with _ he
      exact hne he

section
variable {W W1 : World} {B p : Nat} {s : ByteArray} {at_ ln cl : Int} {ov bv : Value} {toks : List Tok} {bads : List (Int × Int × Int)}
theorem Sc.pushBad (h : Sc W B p s at_ ln cl ov bv toks bads) {v' : Value} {x : Int × Int × Int} (hk : Keeps (fun j => bv.ownBlock = some j) W W1)
    (hown : W1.ownsRow B 28 4 v' (bads.length + 1) (bads.flatMap dcells ++ dcells x)) :
    Sc (W1.setCell ⟨p, 5, none⟩ v') B p s at_ ln cl ov v' toks (bads ++ [x]) ∧ Keeps (fun j => B ≤ j) W (W1.setCell ⟨p, 5, none⟩ v') := by
  have hnb : ¬ (bv.ownBlock = some p) := own_ne_blk h.bds h.blk (by decide)
  have hb1 : Blk W1 p 84 _ := h.blk.keeps hk hnb
  have hno : ∀ i, ov.ownBlock = some i → ¬ bv.ownBlock = some i := own_apart h.outs h.bds (by decide)
  have k2 : Keeps (fun j => j = p) W1 (W1.setCell ⟨p, 5, none⟩ v') := (Keeps.refl (fun j => j = p) W1).setCell (p := ⟨p, 5, none⟩) (fun _ => rfl) v'
  have ho1 := own_keeps h.outs hk hno
  refine ⟨⟨hb1.set_ 5 v', own_keeps ho1 k2 (fun i hi e => own_ne_blk ho1 hb1 (by decide) (by rw [hi, e])), ?_, h.low⟩, ?_⟩
  · have := own_keeps hown k2 (fun i hi e => own_ne_blk hown hb1 (by decide) (by rw [hi, e]))
    rw [List.length_append, List.flatMap_append]
    simpa using this
  · exact (hk.mono (fun i _ hi => (h.bds.lt i hi).1)).trans (k2.mono (fun i _ hi => by rw [hi]; exact h.low)) (fun _ _ h => h)
end

set_option maxRecDepth 100000 in
set_option maxHeartbeats 4000000 in
theorem fail_any (W : World) (B p : Nat) (s : ByteArray) (at_ ln cl : Int) (ov bv : Value) (toks : List Tok) (bads : List (Int × Int × Int)) (h : Sc W B p s at_ ln cl ov bv toks bads) (c : Int) (hn : bads.length ≤ 100000) (hB : B ≤ W.heap.size) :
    Calls Tryz.prog 81 #[.pointer (some ⟨p, 0, none⟩), .int .i64 c] W fun e w' => e = .returned (.tuple #[]) ∧ ∃ bv', Sc w' B p s at_ ln cl ov bv' toks (bads ++ [(c, ln, cl)]) ∧ Below B W w' := by
  obtain ⟨i0, hi0, hz0, hz1, hz2⟩ := info_parts infoDiag
  have hown := h.bds
  have c2 := h.blk.cell (i := 2) rfl
  have c3 := h.blk.cell (i := 3) rfl
  have c5 := h.blk.cell (i := 5) rfl
  have f5 := h.blk.free 5
  have hpl := h.blk.lt
  have hne := own_ne_blk h.bds h.blk (by decide)
  obtain ⟨n, hnl⟩ : ∃ n, bads.length = n := ⟨_, rfl⟩
  rw [hnl] at hown hn
  go_enter Tryz.func81, Tryz.ntmps81
  go_wp2_with fail
  go_region_law (refine step_append_lies _ (by rfl) _ _ _ (by rfl) B 28 i0 _ 4 40 Tryz.underlying23 hi0 hz0 hz1 hz2 rfl (by omega) bv n (bads.flatMap dcells) (by rfl) ((hown.alloc _).drew) ⟨W.heap.size, 0, none⟩ 1 1 (dcells (c, ln, cl)) (by rfl) (by rfl) (World.news_of_block (cs := #[.int .i64 c, .int .i64 ln, .int .i64 cl, .string ⟨#[]⟩]) (t := 28) (fr := (0, 0)) (heap_alloc_new _ _)) (by simp [dcells, Value.oneCell']) (by omega) (by unfold maxLen; omega) (by omega) (by simp; omega) (W.heap.size + 1) (by simp) ?_; intro gg cap w1 hown1 hgrow hat hlt; have k5 : w1.cell? ⟨p, 5, none⟩ = some bv := (hgrow.cell_far _ (by simp; omega) (Ne.symm hne)).trans (by go_simp); have k6 : w1.frozen? ⟨p, 5, none⟩ = false := (hgrow.frozen_far _ (by simp; omega) (Ne.symm hne)).trans (by go_simp))
  all_goals
    have hk : Keeps (fun j => bv.ownBlock = some j) W w1 := (((Keeps.refl (fun j => bv.ownBlock = some j) W).alloc _).drew).grown hgrow (fun j hj _ => hj)
    subst hnl
    obtain ⟨h1, h2⟩ := h.pushBad hk hown1
    clear k5 k6 hgrow hat hown1
    go_wp2_with fail
    go_end0
    exact ⟨rfl, _, h1, h2.below (fun j hj => hj) hB⟩

section
variable {W W1 : World} {B p : Nat} {s : ByteArray} {at_ ln cl : Int} {ov bv : Value} {toks : List Tok} {bads : List (Int × Int × Int)}
theorem Sc.pushTok (h : Sc W B p s at_ ln cl ov bv toks bads) {v' : Value} {x : Tok} (hk : Keeps (fun j => ov.ownBlock = some j) W W1)
    (hown : W1.ownsRow B 59 5 v' (toks.length + 1) (toks.flatMap Tok.cells ++ x.cells)) :
    Sc (W1.setCell ⟨p, 4, none⟩ v') B p s at_ ln cl v' bv (toks ++ [x]) bads ∧ Keeps (fun j => B ≤ j) W (W1.setCell ⟨p, 4, none⟩ v') := by
  have hnb : ¬ (ov.ownBlock = some p) := own_ne_blk h.outs h.blk (by decide)
  have hb1 : Blk W1 p 84 _ := h.blk.keeps hk hnb
  have hno : ∀ i, bv.ownBlock = some i → ¬ ov.ownBlock = some i := own_apart h.bds h.outs (by decide)
  have k2 : Keeps (fun j => j = p) W1 (W1.setCell ⟨p, 4, none⟩ v') := (Keeps.refl (fun j => j = p) W1).setCell (p := ⟨p, 4, none⟩) (fun _ => rfl) v'
  have ho1 := own_keeps h.bds hk hno
  refine ⟨⟨hb1.set_ 4 v', ?_, own_keeps ho1 k2 (fun i hi e => own_ne_blk ho1 hb1 (by decide) (by rw [hi, e])), h.low⟩, ?_⟩
  · have := own_keeps hown k2 (fun i hi e => own_ne_blk hown hb1 (by decide) (by rw [hi, e]))
    rw [List.length_append, List.flatMap_append]
    simpa using this
  · exact (hk.mono (fun i _ hi => (h.outs.lt i hi).1)).trans (k2.mono (fun i _ hi => by rw [hi]; exact h.low)) (fun _ _ h => h)
end

set_option maxRecDepth 100000 in
set_option maxHeartbeats 16000000 in
theorem put_any (W : World) (B p : Nat) (s : ByteArray) (at_ ln cl : Int) (ov bv : Value) (toks : List Tok) (bads : List (Int × Int × Int)) (h : Sc W B p s at_ ln cl ov bv toks bads) (kd num : Int) (u : ByteArray)
    (hn : toks.length ≤ 100000) (hB : B ≤ W.heap.size) (hu : u.size ≤ 8192) (h0 : 0 ≤ at_ ∧ 0 ≤ cl) (h1 : at_ ≤ 100000 ∧ cl ≤ 100000) :
    Calls Tryz.prog 36 #[.pointer (some ⟨p, 0, none⟩), .int .i64 kd, .string u, .int .i64 num] W fun e w' => e = .returned (.tuple #[]) ∧
      ∃ ov', Sc w' B p s (at_ + u.size) ln (cl + u.size) ov' bv (toks ++ [⟨kd, u, num, ln, cl⟩]) bads ∧ Below B W w' := by
  obtain ⟨i0, hi0, hz0, hz1, hz2⟩ := info_parts infoTok
  have hc2 := h.blk.cell (i := 2) rfl
  have hc3 := h.blk.cell (i := 3) rfl
  have hc4 := h.blk.cell (i := 4) rfl
  have f4 := h.blk.free 4
  have hpl := h.blk.lt
  have hne := own_ne_blk h.outs h.blk (by decide)
  have HCl := Lib.hid (fun (V : World) (hk : Keeps (fun _ => False) W V) => ((strClone u V (by omega)).mono (R' := fun e w' => e = .returned (.string u) ∧ Keeps (fun _ => False) W w') fun e w' ⟨he, hb⟩ => ⟨he, hk.trans (Keeps.of_below (X := fun _ => False) hb) (fun _ _ h => h)⟩))
  have HSk := Lib.hid (fun (V : World) (ov' : Value) (tk : List Tok) (hS : Sc V B p s at_ ln cl ov' bv tk bads) (hb : B ≤ V.heap.size) => skip_any V B p s at_ ln cl ov' bv tk bads hS (u.size : Int) ⟨h0.1, h0.2, by omega⟩ ⟨h1.1, h1.2, by omega⟩ hb)
  have hub : (u.size : Int) ≤ 8192 := by omega
  clear h0 h1
  go_enter Tryz.func36, Tryz.ntmps36
  go_wp2_with fail
  have hown := h.outs
  obtain ⟨n, hnl⟩ : ∃ n, toks.length = n := ⟨_, rfl⟩
  rw [hnl] at hown hn
  go_region_law (first
    | (refine step_append_lies _ (by rfl) _ _ _ (by rfl) B 59 i0 _ 5 48 Tryz.underlying45 hi0 hz0 hz1 hz2 rfl (by omega) ov n (toks.flatMap Tok.cells) (by rfl) (hownV.alloc _) ⟨w1.heap.size, 0, none⟩ 1 1 (Tok.cells ⟨kd, u, num, ln, cl⟩) (by rfl) (by rfl) (World.news_of_block (cs := #[.int .i64 kd, .string u, .int .i64 num, .int .i64 ln, .int .i64 cl]) (t := 59) (fr := (0, 0)) (heap_alloc_new _ _)) (by simp [Tok.cells, Value.oneCell']) (by omega) (by unfold maxLen; omega) (by omega) (by simp; omega) (w1.heap.size + 1) (by simp) ?_; intro gg cap w2 hown1 hgrow hat hlt; have k5 : w2.cell? ⟨p, 4, none⟩ = some ov := (hgrow.cell_far _ (by simp; omega) (Ne.symm hne)).trans (by go_simp); have k6 : w2.frozen? ⟨p, 4, none⟩ = false := (hgrow.frozen_far _ (by simp; omega) (Ne.symm hne)).trans (by go_simp))
    | (go_simp; go_at_call 55; refine (HCl.out _ (by repeat (first | assumption | exact Keeps.refl _ _ | refine Keeps.drewN ?_ _ | refine Keeps.drew ?_))).mono ?_; rintro e w1 ⟨rfl, hkV⟩; have hownV := own_keeps hown hkV (fun _ _ h => h); have hszV := hkV.size; have hblkV := h.blk.keeps hkV (fun h => h); have x2 := hblkV.cell (i := 2) rfl; have x3 := hblkV.cell (i := 3) rfl; have x4 := hblkV.cell (i := 4) rfl; have x5 := hblkV.free 4; have x6 := hblkV.lt; go_wp2_with fail))
  all_goals
    have hk : Keeps (fun j => ov.ownBlock = some j) w1 w2 := ((Keeps.refl (fun j => ov.ownBlock = some j) w1).alloc _).grown hgrow (fun j hj _ => hj)
    subst hnl
    obtain ⟨y1, y2⟩ := (h.keeps hkV).pushTok (x := ⟨kd, u, num, ln, cl⟩) hk hown1
    have hyb : B ≤ (w2.setCell ⟨p, 4, none⟩ (.slice (some ⟨gg, 0, none⟩) (toks.length + 1) cap)).heap.size := Nat.le_trans (Nat.le_trans hB hszV) y2.size
    have HS1 := Lib.hid (HSk.out _ _ _ y1 hyb)
    have hbl : Below B W (w2.setCell ⟨p, 4, none⟩ (.slice (some ⟨gg, 0, none⟩) (toks.length + 1) cap)) := (hkV.below (fun _ h => h.elim) hB).trans (y2.below (fun j hj => hj) (Nat.le_trans hB hszV))
    clear k5 k6 hgrow hat hown1 HSk HCl hownV hown x2 x3 x4 x5 hc2 hc3 hc4 f4
    go_wp2_with fail
    with_reducible refine HS1.out.mono ?_
    rintro e w3 ⟨rfl, z1, z2⟩
    go_wp2_with fail
    go_end0
    exact ⟨rfl, _, z1, hbl.trans z2⟩
end Go.Proofs.YtcjoapmodaioiaaGreatDoor
end
