/- fixity.Find: the first entry of the table for an operator, or the usual fixity. No conditions. -/
import Derived.Test.YtpeabfbljiaedaaFixTypes
namespace Go.Proofs.Ytpeabfbljiaedaa
open Go.RowKit

def fixFind : List FixSig → ByteArray → FixSig
  | [], op => ⟨op, 0, 9⟩
  | x :: l, op => if x.op = op then x else fixFind l op

theorem fixFind_yes (l : List FixSig) (op : ByteArray) (k : Nat) (hk : k < l.length) (h : l[k].op = op) (hno : fixFind l op = fixFind (l.drop k) op) : fixFind l op = l[k] := by
  rw [hno, List.drop_eq_getElem_cons hk, fixFind, if_pos h]
theorem fixFind_no (l : List FixSig) (op : ByteArray) (k : Nat) (hk : k < l.length) (h : l[k].op ≠ op) (hno : fixFind l op = fixFind (l.drop k) op) : fixFind l op = fixFind (l.drop (k + 1)) op := by
  rw [hno, List.drop_eq_getElem_cons hk, fixFind, if_neg h]
theorem fixFind_end (l : List FixSig) (op : ByteArray) (k : Nat) (hk : l.length ≤ k) (hno : fixFind l op = fixFind (l.drop k) op) : fixFind l op = ⟨op, 0, 9⟩ := by
  rw [hno, List.drop_eq_nil_of_le hk]; rfl

def FixSig.v (x : FixSig) : Value := .agg #[.string x.op, .int .i64 x.side, .int .i64 x.level]

set_option maxHeartbeats 400000 in
theorem fixFind_any (l : List FixSig) (op : ByteArray) (v : Value) (F : Nat → Prop) (w : World) (hv : Sl w F FixSig.d l v) :
    Calls Try.prog 26 #[v, .string op] w fun e w' => e = .returned (fixFind l op).v ∧ Below w.heap.size w w' := by
  obtain ⟨A, c, rfl, hlc, hcm, _⟩ := hv.form
  have hl : l.length ≤ 9223372036854775807 := by unfold maxLen at hcm; omega
  go_enter Try.func26, Try.ntmps26
  go_wp2
  go_loopw [9] (fun i wr => ∃ k : Nat, k ≤ l.length ∧ i = .int .i64 k ∧ Blk wr w.heap.size 47 [.string ⟨#[]⟩, .int .i64 0, .int .i64 0] ∧ Below w.heap.size w wr ∧ Hid (fixFind l op = fixFind (l.drop k) op)) (fun i _ => l.length - (intOf i).toNat)
  case atStart => exact ⟨0, Nat.zero_le _, rfl, Blk.new _ _ _, (Below.refl _ _).alloc (Nat.le_refl _) _, rfl⟩
  case round =>
    obtain ⟨k, hk, rfl, hblk, hb, hno⟩ := hrel
    have hz : w.heap.size < wr.heap.size := hblk.lt
    by_cases hlt : k < l.length
    · have hv' := hv.later hb
      obtain ⟨g, off, rfl, hF, c0, c1, c2, s0, s1, s2⟩ := FixSig.get hv' hlt
      have b0 := hblk.cell (i := 0) rfl
      have b1 := hblk.cell (i := 1) rfl
      have b2 := hblk.cell (i := 2) rfl
      have f0 := hblk.free 0
      have f1 := hblk.free 1
      have f2 := hblk.free 2
      by_cases hop : l[k].op = op
      · have ho := str_yes hop
        have HE := Lib.hid (fixFind_yes l op k hlt hop hno.out)
        clear hop
        go_wp2
        exact ret_row Try.results26 rfl ((((hblk.set_ 0 _).set_ 1 _).set_ 2 _).alloc _) Try.underlying47 (by kernel_rfl) rfl
          ⟨by rw [HE.out]; rfl, (((hb.setCell (Nat.le_refl _) _).setCell (Nat.le_refl _) _).setCell (Nat.le_refl _) _).alloc (by simp; omega) _⟩
      · have ho := str_no hop
        have HE := Lib.hid (fixFind_no l op k hlt hop hno.out)
        clear hop
        go_wp2
        go_roundw
        case rel => exact ⟨k + 1, by omega, by go_num, hblk.alloc _, hb.alloc (by omega) _, HE.out⟩
        case measure => simp [intOf]; omega
    · have HE := Lib.hid (fixFind_end l op k (by omega) hno.out)
      have b0 := hblk.cell (i := 0) rfl
      have b1 := hblk.cell (i := 1) rfl
      have b2 := hblk.cell (i := 2) rfl
      have f0 := hblk.free 0
      have f1 := hblk.free 1
      have f2 := hblk.free 2
      go_wp2
      exact ret_row Try.results26 rfl (((hblk.set_ 0 _).set_ 1 _).set_ 2 _) Try.underlying47 (by kernel_rfl) rfl
        ⟨by rw [HE.out]; rfl, ((hb.setCell (Nat.le_refl _) _).setCell (Nat.le_refl _) _).setCell (Nat.le_refl _) _⟩
end Go.Proofs.Ytpeabfbljiaedaa
