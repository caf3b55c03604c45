/- slices.Equal at tokens. -/
import Derived.Test.YtnpgdeioaehahaaDoorLexScan
import Derived.Test.YtnpgdeioaehahaaDoorSlices
import Derived.Test.YtnpgdeioaehahaaDoorParts
import Derived.WalkSpells
namespace Go.Proofs.YtnpgdeioaehahaaDoor
open Go.RowKit Go.Shelf

def Tok.eqB (x y : Tok) : Bool := (x.kind == y.kind) && (x.text.toList == y.text.toList) && (x.n == y.n) && (x.line == y.line) && (x.col == y.col)
theorem Tok.neq_run (W : World) (x y : Tok) : (binOp .neq 28 (.agg #[.int .i64 x.kind, .string x.text, .int .i64 x.n, .int .i64 x.line, .int .i64 x.col]) (.agg #[.int .i64 y.kind, .string y.text, .int .i64 y.n, .int .i64 y.line, .int .i64 y.col])).run Tryd.prog W = .ok (.bool (!(Tok.eqB x y))) W := by
  have u0 := Tryd.underlying3
  have a0 := Tryd.isAgg3
  have z0 := Tryd.sizeOf3
  have u1 := Tryd.underlying9
  have a1 := Tryd.isAgg9
  have z1 := Tryd.sizeOf9
  have hS : Tryd.prog.underlying 28 = some (.struct (Tryd.prog.fieldsOf 28)) := by kernel_rfl
  have hp : Tryd.prog.stoodInHeld 28 = false := by kernel_rfl
  rw [run_neq_struct, show (10000 : Nat) = 9999 + 1 from rfl, run_equalIn_agg W 9999 28 _ _ hS hp]
  simp only [Program.fieldsOf, Tryd.underlying28]
  go_simp
  by_cases h0 : x.kind = y.kind <;> by_cases h1 : x.text.toList = y.text.toList <;> by_cases h2 : x.n = y.n <;> by_cases h3 : x.line = y.line <;> by_cases h4 : x.col = y.col <;> simp [Tok.eqB, h0, h1, h2, h3, h4]

set_option maxHeartbeats 400000 in
theorem tokEqual (l m : List Tok) (v u : Value) (F G : Nat → Prop) (w : World) (hv : Sl w F Tok.d l v) (hu : Sl w G Tok.d m u) :
    Calls Tryd.prog 12 #[v, u] w fun e w' => e = .returned (.bool (eqBy Tok.eqB l m)) ∧ Below w.heap.size w w' := by
  obtain ⟨A, c, rfl, hlc, hcm, _⟩ := hv.form
  obtain ⟨B, c', rfl, hmc, hcm', _⟩ := hu.form
  have hl : l.length ≤ 9223372036854775807 := by unfold maxLen at hcm; omega
  have hm : m.length ≤ 9223372036854775807 := by unfold maxLen at hcm'; omega
  by_cases hlen : l.length = m.length
  · have hd : ((l.length : Int) != (m.length : Int)) = false := by rw [bne_eq_false_iff_eq]; omega
    have HL := Lib.hid hlen
    have hlt0 : l.length ≤ m.length := by omega
    clear hlen
    have hne := Tok.neq_run
    go_enter Tryd.func12, Tryd.ntmps12
    go_wp2
    go_loopw [13] (fun i wr => ∃ k : Nat, k ≤ l.length ∧ i = .int .i64 k ∧ Below w.heap.size w wr ∧ Hid (eqBy Tok.eqB l m = eqBy Tok.eqB (l.drop k) (m.drop k))) (fun i _ => l.length - (intOf i).toNat)
    case atStart => exact ⟨0, Nat.zero_le _, rfl, Below.refl _ _, rfl⟩
    case round =>
      obtain ⟨k, hk, rfl, hb, hno⟩ := hrel
      by_cases hlt : k < l.length
      · have hst := eqBy_step Tok.eqB l m k hlt (by omega)
        obtain ⟨ga, offa, rfl, _, a0, a1, a2, a3, a4, _, _, _, _, _⟩ := Tok.get (hv.later hb) hlt
        obtain ⟨gb, offb, rfl, _, b0, b1, b2, b3, b4, _, _, _, _, _⟩ := Tok.get (hu.later hb) (show k < m.length by omega)
        have k0 : (0 : Int) ≤ (k : Int) := by omega
        have k1 : (k : Int) < (l.length : Int) := by omega
        have k2 : (k : Int) < (m.length : Int) := by omega
        have hnk := hne
        cases hq : Tok.eqB l[k] (m[k]'(by omega))
        · have HE := Lib.hid (hno.out.trans (hst.2 hq))
          have hn2 := fun (W : World) => (hne W l[k] (m[k]'(by omega))).trans (by rw [hq])
          clear hst hq hne hnk
          go_wp2
          go_quiet (fail)
          go_wp2
          go_ret
          exact ⟨ret_bool HE.out.symm, Below.drewN hb _⟩
        · have HE := Lib.hid (hno.out.trans (hst.1 hq))
          have hn2 := fun (W : World) => (hne W l[k] (m[k]'(by omega))).trans (by rw [hq])
          clear hst hq hne hnk
          go_wp2
          go_quiet (fail)
          go_wp2
          go_roundw
          case rel => exact ⟨k + 1, by omega, by go_num, Below.drewN hb _, HE.out⟩
          case measure => simp [intOf]; omega
      · have HE := Lib.hid (hno.out.trans (eqBy_end Tok.eqB l m k (by omega) (by have := HL.out; omega)))
        go_wp2
        go_ret
        exact ⟨ret_bool HE.out.symm, hb⟩
  · have hd : ((l.length : Int) != (m.length : Int)) = true := by rw [bne_iff_ne]; omega
    have HE := Lib.hid (eqBy_len Tok.eqB l m hlen)
    clear hlen
    go_enter Tryd.func12, Tryd.ntmps12
    go_wp2
    go_ret
    exact ⟨ret_bool HE.out.symm, Below.refl _ _⟩

theorem Tok.eqB_refl (x : Tok) : Tok.eqB x x = true := by simp [Tok.eqB]
def TokOk (x : Tok) : Prop := (Lit.int .i64 x.kind).wf = true ∧ x.text.size ≤ maxLen ∧ (Lit.int .i64 x.n).wf = true ∧ (Lit.int .i64 x.line).wf = true ∧ (Lit.int .i64 x.col).wf = true
theorem toks_rp {w : World} {F : Nat → Prop} : ∀ (l : List Tok), (∀ x ∈ l, TokOk x) → RpAll w F (l.map Tok.d) (l.flatMap Tok.cells)
  | [], _ => by simp [RpAll]
  | x :: l, h => by
    rw [List.map_cons, rpAll_cons]
    exact ⟨x.cells, l.flatMap Tok.cells, by simp, Tok.rp.2 ⟨rfl, h x (by simp)⟩, toks_rp l (fun y hy => h y (by simp [hy]))⟩
theorem wf_small {n : Int} (h0 : 0 ≤ n) (h1 : n ≤ 1099511627776) : (Lit.int .i64 n).wf = true := by
  simp [Lit.wf, IntKind.min, IntKind.max, IntKind.signed, IntKind.bits]; omega
theorem tok_ok {L : Nat} {lo hi cl : Int} {x : Tk} (h : TkOk L lo hi cl x) (hL : L ≤ 1000000) (h0 : 0 ≤ lo) (h1 : hi ≤ 1000000) (h2 : cl ≤ 1000000) : TokOk x.tok := by
  obtain ⟨a, b, c, d, e⟩ := h
  refine ⟨wf_small (n := x.kind) a.1 (by omega), ?_, wf_small (n := x.n) c.1 (by omega), wf_small (n := x.line) (by omega) (by omega), wf_small (n := x.col) e.1 (by omega)⟩
  show (ByteArray.mk x.text.toArray).size ≤ maxLen
  rw [Lib.size_eq]
  simp only [maxLen]
  show x.text.length ≤ _
  omega
theorem line_ok (s : ByteArray) (h : s.size ≤ 8192) : ∀ x ∈ (lexS s).1.map Tk.tok, 0 ≤ x.line ∧ x.line ≤ 8193 := fun x hx => by
  obtain ⟨y, hy, rfl⟩ := List.mem_map.1 hx
  have h1 := (lex_ok _ _ 1 1 (by omega) (by omega) y hy).line
  rw [← Lib.size_eq] at h1
  show 0 ≤ y.line ∧ y.line ≤ 8193
  omega
theorem lexS_ok (s : ByteArray) (h : s.size ≤ 8192) : ∀ x ∈ (lexS s).1.map Tk.tok, TokOk x := fun x hx => by
  obtain ⟨y, hy, rfl⟩ := List.mem_map.1 hx
  exact tok_ok (lex_ok _ _ 1 1 (by omega) (by omega) y hy) (by rw [← Lib.size_eq]; omega) (by omega) (by rw [← Lib.size_eq]; omega) (by rw [← Lib.size_eq]; omega)
theorem own_sl {w : World} {b : Nat} {v : Value} {l : List Tok} (h : w.ownsRow b 28 5 v l.length (l.flatMap Tok.cells)) (hok : ∀ x ∈ l, TokOk x) : Sl w (fun i => b ≤ i) Tok.d l v :=
  Sl.of_own (F := fun _ => False) h rfl (toks_rp l hok) (fun _ h => h.elim) (fun i hi => (h.lt i hi).1)
theorem Lim.here {w W : World} {B : Nat} {m : Int} (h : Lim w B m) (hb : Below B w W) (hB : B ≤ w.heap.size) : Lim W W.heap.size m :=
  ⟨(h.later hb).1, Nat.lt_of_lt_of_le h.2 (Nat.le_trans hB hb.size)⟩

theorem lex_length : ∀ (f : Nat) (l : Bs) (ln cl : Int), (lex kwB dashB f l ln cl).1.length ≤ l.length + 1
  | 0, _, _, _ => by simp [lex]
  | f + 1, [], _, _ => by simp [lex]
  | f + 1, c :: t, ln, cl => by
    unfold lex
    by_cases hc : c = 10
    · rw [if_pos hc]; have := lex_length f t (ln + 1) 1; simp only [List.length_cons]; omega
    · rw [if_neg hc]
      have hl := item_len (kw := kwB) (dash := dashB) hc t
      have ih := lex_length f ((c :: t).drop (item kwB dashB c t).len) ln (cl + (item kwB dashB c t).len)
      rw [List.length_drop, List.length_cons] at ih
      dsimp only
      cases (item kwB dashB c t).tok with
      | none => simp only [put?, List.length_cons]; omega
      | some p => obtain ⟨k, u, n⟩ := p; simp only [put?, List.length_cons]; omega
theorem lexS_ne (s : ByteArray) : (lexS s).1 ≠ [] := lex_ne _ _ _ _ (by rw [← Lib.size_eq]; omega)
theorem lexS_length (s : ByteArray) : ∃ n, (lexS s).1.length = n + 1 ∧ n ≤ s.size := by
  have h1 := lex_length (s.size + 1) s.data.toList 1 1
  rw [← Lib.size_eq] at h1
  have h2 := List.length_pos_iff.2 (lexS_ne s)
  exact ⟨(lexS s).1.length - 1, by omega, by unfold lexS at *; omega⟩

/-- Two texts with a line feed between them. -/
def joined (s t : ByteArray) : ByteArray := s ++ ⟨#[10]⟩ ++ t
theorem joined_data (s t : ByteArray) : (joined s t).data.toList = s.data.toList ++ 10 :: t.data.toList := by simp [joined, ByteArray.data_append]
theorem joined_size (s t : ByteArray) : (joined s t).size = s.size + t.size + 1 := by
  rw [Lib.size_eq, joined_data, List.length_append, List.length_cons, ← Lib.size_eq, ← Lib.size_eq]; omega
theorem joined_chk {s t : ByteArray} (hs : chk s = 0) (ht : chk t = 0) (h : s.size + t.size < 8192) : chk (joined s t) = 0 := by
  have h1 : s.data.toList.all okByte = true := by
    unfold chk at hs; split at hs
    · simp at hs
    · split at hs
      · assumption
      · simp at hs
  have h2 : t.data.toList.all okByte = true := by
    unfold chk at ht; split at ht
    · simp at ht
    · split at ht
      · assumption
      · simp at ht
  unfold chk
  rw [if_neg (by rw [joined_size]; omega), joined_data, List.all_append, List.all_cons, h1, h2]
  rfl
theorem joined_lex (s t : ByteArray) : lexS (joined s t) = ((lexS s).1.dropLast ++ (lexS t).1.map (Tk.down ((s.data.toList.count 10 : Nat) + 1)), (lexS s).2 || (lexS t).2) := by
  have hs := Lib.size_eq s
  have ht := Lib.size_eq t
  unfold lexS
  rw [joined_data, joined_size, lex_app t.data.toList (s.size + t.size + 1 + 1) s.data.toList 1 1 (by omega)]
  rw [lex_fuel (s.size + t.size + 1 + 1) s.data.toList 1 1 (by omega) (s.size + 1) (by omega), lex_fuel (s.size + t.size + 1 + 1) t.data.toList _ 1 (by omega) (t.size + 1) (by omega)]
  have e := lex_down (kw := kwB) (dash := dashB) ((s.data.toList.count 10 : Nat) + 1 : Int) (t.size + 1) t.data.toList 1 1
  rw [show (1 : Int) + ((s.data.toList.count 10 : Nat) + 1 : Int) = 1 + (s.data.toList.count 10 : Nat) + 1 by omega] at e
  rw [e]
def Tok.down (d : Int) (x : Tok) : Tok := { x with line := x.line + d }
theorem down_tok (d : Int) (l : List Tk) : (l.map (Tk.down d)).map Tk.tok = (l.map Tk.tok).map (Tok.down d) := by
  rw [List.map_map, List.map_map]; rfl
end Go.Proofs.YtnpgdeioaehahaaDoor
