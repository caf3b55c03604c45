/- The scanner in memory; skip; the classes of bytes. -/
import Derived.Test.YtnpgdeioaehahaaDoorShelfLex
import Derived.Test.YtnpgdeioaehahaaDoorLexLaw
import Derived.Test.YtnpgdeioaehahaaDoorTokTypes
import Derived.Test.YtnpgdeioaehahaaDoorStrClone
import Derived.Deep.QuietTactic
import Derived.BigQuiet
namespace Go.Proofs.YtnpgdeioaehahaaDoor
open Go.RowKit Go.Shelf

def Tok.cells (x : Tok) : List Value := [.int .i64 x.kind, .string x.text, .int .i64 x.n, .int .i64 x.line, .int .i64 x.col]
def dcells (x : Int × Int × Int) : List Value := [.int .i64 x.1, .int .i64 x.2.1, .int .i64 x.2.2, .string ⟨#[]⟩]

/-- The scanner's whole state. -/
structure Sc (W : World) (B p : Nat) (s : ByteArray) (at_ ln cl : Int) (ov bv : Value) (toks : List Tok) (bads : List (Int × Int × Int)) : Prop where
  blk : Blk W p 46 [.string s, .int .i64 at_, .int .i64 ln, .int .i64 cl, ov, bv]
  outs : W.ownsRow B 28 5 ov toks.length (toks.flatMap Tok.cells)
  bds : W.ownsRow B 50 4 bv bads.length (bads.flatMap dcells)
  low : B ≤ p

section
variable {W W' : World} {B p : Nat} {s : ByteArray} {at_ ln cl : Int} {ov bv : Value} {toks : List Tok} {bads : List (Int × Int × Int)}
/-- The numbers alone have turned. -/
theorem Sc.reblk (h : Sc W B p s at_ ln cl ov bv toks bads) (hk : Keeps (fun j => j = p) W W') {a l c : Int} (hb : Blk W' p 46 [.string s, .int .i64 a, .int .i64 l, .int .i64 c, ov, bv]) :
    Sc W' B p s a l c ov bv toks bads :=
  ⟨hb, own_keeps h.outs hk (fun i hi e => own_ne_blk h.outs h.blk (by decide) (by rw [hi, e])), own_keeps h.bds hk (fun i hi e => own_ne_blk h.bds h.blk (by decide) (by rw [hi, e])), h.low⟩
theorem Sc.keeps (h : Sc W B p s at_ ln cl ov bv toks bads) (hk : Keeps (fun _ => False) W W') : Sc W' B p s at_ ln cl ov bv toks bads :=
  ⟨h.blk.keeps hk (fun h => h), own_keeps h.outs hk (fun _ _ h => h), own_keeps h.bds hk (fun _ _ h => h), h.low⟩
end

set_option maxHeartbeats 1000000 in
theorem skip_any (W : World) (B p : Nat) (s : ByteArray) (at_ ln cl : Int) (ov bv : Value) (toks : List Tok) (bads : List (Int × Int × Int)) (h : Sc W B p s at_ ln cl ov bv toks bads) (n : Int) (h0 : 0 ≤ at_ ∧ 0 ≤ cl ∧ 0 ≤ n) (h1 : at_ ≤ 100000 ∧ cl ≤ 100000 ∧ n ≤ 100000) (hB : B ≤ W.heap.size) :
    Calls Tryd.prog 34 #[.pointer (some ⟨p, 0, none⟩), .int .i64 n] W fun e w' => e = .returned (.tuple #[]) ∧ Sc w' B p s (at_ + n) ln (cl + n) ov bv toks bads ∧ Below B W w' := by
  obtain ⟨a0, b0, c0⟩ := h0
  obtain ⟨a1, b1, d1⟩ := h1
  have q0 : (0 : Int) ≤ at_ + n := by omega
  have q1 : at_ + n ≤ 200000 := by omega
  have q2 : (0 : Int) ≤ cl + n := by omega
  have q3 : cl + n ≤ 200000 := by omega
  have e1 := h.blk.cell (i := 1) rfl
  have e3 := h.blk.cell (i := 3) rfl
  have f1 := h.blk.free 1
  have f3 := h.blk.free 3
  go_enter Tryd.func34, Tryd.ntmps34
  go_wp2_with fail
  go_end0
  have hk : Keeps (fun j => j = p) W ((W.setCell ⟨p, 1, none⟩ (.int .i64 (at_ + n))).setCell ⟨p, 3, none⟩ (.int .i64 (cl + n))) :=
    ((Keeps.refl (fun j => j = p) W).setCell (p := ⟨p, 1, none⟩) (fun _ => rfl) _).setCell (p := ⟨p, 3, none⟩) (fun _ => rfl) _
  have hb := (h.blk.set_ 1 (.int .i64 (at_ + n))).set_ 3 (.int .i64 (cl + n))
  exact ⟨rfl, h.reblk hk hb, hk.below (fun j hj => by rw [hj]; exact h.low) hB⟩

set_option maxHeartbeats 400000 in
theorem small_any (c : UInt8) (W : World) : Calls Tryd.prog 35 #[.int .u8 (c.toNat : Int)] W fun e w' => e = .returned (.bool (small c)) ∧ W = w' := by
  go_enter Tryd.func35, Tryd.ntmps35
  go_wp2
  all_goals
    go_ret
    exact ⟨ret_bool (by rw [Bool.eq_iff_iff]; simp [small]; omega), rfl⟩
theorem large_any (c : UInt8) (W : World) : Calls Tryd.prog 39 #[.int .u8 (c.toNat : Int)] W fun e w' => e = .returned (.bool (large c)) ∧ W = w' := by
  go_enter Tryd.func39, Tryd.ntmps39
  go_wp2
  all_goals
    go_ret
    exact ⟨ret_bool (by rw [Bool.eq_iff_iff]; simp [large]; omega), rfl⟩
theorem digit_any (c : UInt8) (W : World) : Calls Tryd.prog 40 #[.int .u8 (c.toNat : Int)] W fun e w' => e = .returned (.bool (digit c)) ∧ W = w' := by
  go_enter Tryd.func40, Tryd.ntmps40
  go_wp2
  all_goals
    go_ret
    exact ⟨ret_bool (by rw [Bool.eq_iff_iff]; simp [digit]; omega), rfl⟩
set_option maxHeartbeats 400000 in
theorem inner_any (c : UInt8) (W : World) : Calls Tryd.prog 38 #[.int .u8 (c.toNat : Int)] W fun e w' => e = .returned (.bool (inner c)) ∧ W = w' := by
  have H1 := Lib.hid (fun (W : World) => small_any c W)
  have H2 := Lib.hid (fun (W : World) => large_any c W)
  have H3 := Lib.hid (fun (W : World) => digit_any c W)
  have hI : inner c = (small c || large c || digit c || decide (c.toNat = 39)) := rfl
  have HI := Lib.hid hI
  clear hI
  cases hs : small c
  · rw [hs] at H1 HI
    cases hl : large c
    · rw [hl] at H2 HI
      cases hd : digit c
      · rw [hd] at H3 HI
        clear hs hl hd
        go_enter Tryd.func38, Tryd.ntmps38
        go_wp2_with fail
        with_reducible refine (H1.out _).mono ?_
        rintro e w1 ⟨rfl, rfl⟩
        go_wp2_with fail
        with_reducible refine (H2.out _).mono ?_
        rintro e w1 ⟨rfl, rfl⟩
        go_wp2_with fail
        with_reducible refine (H3.out _).mono ?_
        rintro e w1 ⟨rfl, rfl⟩
        go_wp2_with fail
        go_ret
        exact ⟨ret_bool (by rw [HI.out, Bool.eq_iff_iff]; simp; omega), rfl⟩
      · rw [hd] at H3 HI
        clear hs hl hd
        go_enter Tryd.func38, Tryd.ntmps38
        go_wp2_with fail
        with_reducible refine (H1.out _).mono ?_
        rintro e w1 ⟨rfl, rfl⟩
        go_wp2_with fail
        with_reducible refine (H2.out _).mono ?_
        rintro e w1 ⟨rfl, rfl⟩
        go_wp2_with fail
        with_reducible refine (H3.out _).mono ?_
        rintro e w1 ⟨rfl, rfl⟩
        go_wp2_with fail
        go_ret
        exact ⟨ret_bool (by rw [HI.out]; simp), rfl⟩
    · rw [hl] at H2 HI
      clear hs hl
      go_enter Tryd.func38, Tryd.ntmps38
      go_wp2_with fail
      with_reducible refine (H1.out _).mono ?_
      rintro e w1 ⟨rfl, rfl⟩
      go_wp2_with fail
      with_reducible refine (H2.out _).mono ?_
      rintro e w1 ⟨rfl, rfl⟩
      go_wp2_with fail
      go_ret
      exact ⟨ret_bool (by rw [HI.out]; simp), rfl⟩
  · rw [hs] at H1 HI
    clear hs
    go_enter Tryd.func38, Tryd.ntmps38
    go_wp2_with fail
    with_reducible refine (H1.out _).mono ?_
    rintro e w1 ⟨rfl, rfl⟩
    go_wp2_with fail
    go_ret
    exact ⟨ret_bool (by rw [HI.out]; simp), rfl⟩
theorem mark_any (c : UInt8) (W : World) : Calls Tryd.prog 42 #[.int .u8 (c.toNat : Int)] W fun e w' => e = .returned (.bool (mark c)) ∧ W = w' := by
  have H1 := Lib.hid ((Tryd.strings_IndexByte ⟨symbols.toArray⟩ (c.toNat : Int) W).mono (R' := fun e w' => e = .returned (.int .i64 (Lib.indexByte symbols c)) ∧ W = w') fun e w' ⟨he, hw⟩ => ⟨by rw [he]; simp, hw.symm⟩)
  go_enter Tryd.func42, Tryd.ntmps42
  go_wp2_with fail
  refine H1.out.mono ?_
  rintro e w1 ⟨rfl, rfl⟩
  go_wp2_with fail
  go_ret
  exact ⟨ret_bool (by unfold mark; rfl), rfl⟩
theorem notnl_any (c : UInt8) (W : World) : Calls Tryd.prog 44 #[.int .u8 (c.toNat : Int)] W fun e w' => e = .returned (.bool (c != 10)) ∧ W = w' := by
  go_enter Tryd.func44, Tryd.ntmps44
  go_wp2
  go_ret
  exact ⟨ret_bool (by rw [Bool.eq_iff_iff]; simp [← UInt8.toNat_inj]; omega), rfl⟩
end Go.Proofs.YtnpgdeioaehahaaDoor
