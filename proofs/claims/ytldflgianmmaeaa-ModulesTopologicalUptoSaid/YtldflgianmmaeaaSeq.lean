/- slices.Sorted(slices.Values(l)) at strings: a new list that holds l, sorted. -/
import Derived.Test.YtldflgianmmaeaaCyc
import Derived.RangeFuncBox
import Derived.RangeFuncBound
import Derived.RangeFuncLeaves
import Derived.Shelf.Abstract
import Derived.OwnWalkIn
import Derived.TacticsInMore
import Derived.LoopNIn
import Derived.LoopIn
import Derived.Maps.AppendAt
namespace Go.Proofs.Ytldflgianmmaeaa
open Go.RowKit Go.Shelf Go.Sort

attribute [local go_sem] Oper.semAt_some

set_option maxRecDepth 100000 in
set_option maxHeartbeats 2000000 in
theorem values1_in (F : Fence) (n : Nat) (h7 : F.fn 18) (hro : F.round = none) (hn : 1 ≤ n) (b Bs n₀ : Nat) (l : List Bt) (sv : Value) (J Jx : List Bt → World → Prop)
    (hY : ∀ pre x W, J pre W → pre.length < l.length → YieldAt F (n - 1) Try.prog b #[.string x] W fun e W' =>
      (e = .returned (.bool true) ∧ J (pre ++ [x]) W' ∧ Below n₀ W W') ∨ (e = .returned (.bool false) ∧ Jx (pre ++ [x]) W'))
    (W : World) (hBs : W.cell? ⟨Bs, 0, none⟩ = some sv) (hS : Sl W (· < n₀) dStr l sv) (h0 : J [] W) :
    CallsIn F n Try.prog 18 #[.func (.yield b) #[] #[], .pointer (some ⟨Bs, 0, none⟩)] W fun e W' => (∃ v, e = .returned v) ∧
      ((∃ ys, ys = l ∧ J ys W') ∨ (∃ pre, pre <+: l ∧ Jx pre W')) := by
  obtain ⟨A, c, rfl, hlc, hcm, _⟩ := hS.form
  have hl : l.length ≤ 9223372036854775807 := by unfold maxLen at hcm; omega
  refine callsIn_of_wp Try.func18 rfl h7 ?_ hro
  simp only [Try.ntmps18, List.size_toArray, List.length_cons, List.length_nil, Nat.reduceAdd, Nat.reduceSub, Array.replicate_succ, Array.replicate_zero, List.push_toArray, List.append_toArray, List.nil_append, List.cons_append]
  gi_wp2
  gi_loopw [7] (fun i wr => ∃ k : Nat, k ≤ l.length ∧ i = .int .i64 k ∧ J (l.take k) wr ∧ Below n₀ W wr)
    (fun i _ => l.length - (intOf i).toNat)
  case atStart => exact ⟨0, Nat.zero_le _, rfl, h0, Below.refl _ _⟩
  case round =>
    obtain ⟨k, hk, rfl, hJs, hnx⟩ := hrel
    by_cases hlt : k < l.length
    · obtain ⟨fn, tmps, assign, body, hy, hR⟩ := hY _ l[k] wr hJs (by rw [List.length_take]; omega)
      obtain ⟨g, off, rfl, _, hc, _⟩ := dStr.get (hS.below (fun _ h => h) hnx) hlt
      have hT := Lib.hid (List.take_succ_eq_append_getElem hlt)
      have k0 : (0 : Int) ≤ (k : Int) := by omega
      have k1 : (k : Int) < (l.length : Int) := by omega
      obtain ⟨x, hx⟩ : ∃ x, l[k] = x := ⟨_, rfl⟩
      rw [hx] at hT hc hy hR
      clear hx
      gi_wp2
      refine hR.mono ?_
      rintro e W3 (⟨rfl, hJ3, hk3⟩ | ⟨rfl, hJx3⟩)
      · gi_wp2
        go_roundw
        case rel => exact ⟨k + 1, by omega, by simp, by rw [hT.out]; exact hJ3, hnx.trans hk3⟩
        case measure => simp [intOf]; omega
      · gi_wp2
        refine bodyPost_ret (results_none rfl _ _ _) rfl ?_
        exact ⟨⟨_, rfl⟩, .inr ⟨_, by rw [← hT.out]; exact List.take_prefix _ _, hJx3⟩⟩
    · obtain rfl : k = l.length := by omega
      have k1 : ¬ (l.length : Int) < (l.length : Int) := by omega
      gi_wp2
      go_end0
      rw [List.take_length] at hJs
      first | exact ⟨⟨_, rfl⟩, .inl hJs⟩ | exact ⟨⟨_, rfl⟩, .inl ⟨_, rfl, hJs⟩⟩

/-- slices.Values(l) hands back a value that gives the list. -/
theorem values_stops (F : Fence) (n : Nat) (h7 : F.fn 18) (hro : F.round = none) (hn : 1 ≤ n) (Bs n₀ : Nat) (l : List Bt) (sv : Value) (w : World) (hBs : Bs < w.heap.size) (hn₀ : n₀ ≤ w.heap.size)
    (hc : w.cell? ⟨Bs, 0, none⟩ = some sv) (hS : Sl w (· < n₀) dStr l sv) :
    SeqStopsK F n Try.prog 18 #[.pointer (some ⟨Bs, 0, none⟩)] (fun x : Bt => #[Value.string x]) (Below n₀) (fun ys => ys = l) (fun pre => pre <+: l) l.length w := fun b J Jx W hW _ _ hY h0 =>
  values1_in F n h7 hro hn b Bs n₀ l sv J Jx hY W ((hW.cell (p := ⟨Bs, 0, none⟩) hBs).trans hc) (hS.below (fun _ h => Nat.lt_of_lt_of_le h hn₀) hW) h0

theorem infoStr : (Try.prog.info? 9).map (fun i => (i.zero, i.size, i.bytes)) = some (some (.string ⟨#[]⟩), 1, 16) := by kernel_rfl

set_option maxRecDepth 100000 in
set_option maxHeartbeats 2000000 in
theorem appendSeq_in (F : Fence) (n : Nat) (hf : F.fn 22) (hro : F.round = none) (hn : 3 ≤ n) (gf : Nat) (lb : Array Value) (hFg : F.fn gf) (eg : ∀ args w, (callFunc gf args).run Try.prog w = .ok (.enter gf args) w)
    (l : List Bt) (hlen : l.length ≤ maxLen) (hbytes : l.length * 16 ≤ 140737488355328) (w : World)
    (hseq : SeqStopsK F (n - 1) Try.prog gf lb (fun x : Bt => #[Value.string x]) (Below w.heap.size) (fun ys => ys = l) (fun pre => pre <+: l) l.length w) :
    CallsIn F n Try.prog 22 #[.slice none 0 0, .func (.func gf) #[] lb] w fun e w' => ∃ v, e = .returned v ∧ w'.ownsRow w.heap.size 9 1 v l.length (l.map Value.string) ∧ Below w.heap.size w w' := by
  have h1 : 1 ≤ n := by omega
  obtain ⟨i0, hi, hz0, hz1, hz2⟩ := info_parts infoStr
  refine callsIn_of_wp_marks Try.func22 rfl hf ?_ hro
  simp only [Try.ntmps22, List.size_toArray, List.length_cons, List.length_nil, Nat.reduceAdd, Nat.reduceSub, Array.replicate_succ, Array.replicate_zero, List.push_toArray, List.append_toArray, List.nil_append, List.cons_append]
  gi_wp2
  have bO := Boxed.new w 22 (.slice none 0 0)
  have hB0 : Below w.heap.size w (w.alloc (.cells #[.slice none 0 0] 22)) := (Below.refl _ w).alloc (Nat.le_refl _) _
  refine wpIn_rangeFunc_ownG hro h1 (gf := gf) (lb := lb) rfl hFg eg hseq belowK_t (belowK_b (by simp)) hB0 (fun _ => rfl)
    (fun pre W => (∃ v, Boxed W w.heap.size 22 v ∧ W.ownsRow w.heap.size 9 1 v pre.length (pre.map Value.string) ∧ True) ∧ Below w.heap.size w W)
    (fun _ _ _ => False)
    (OwnFrom.and (Own.from (holdsRow_own w.heap.size w.heap.size 22 9 1 (fun (pre : List Bt) => pre.length) (fun (pre : List Bt) => pre.map Value.string) (fun _ _ => True)) _) (ownFrom_below (Nat.le_refl _) (by simp)))
    (fun _ _ _ _ _ hs _ _ => hs)
    ⟨⟨_, bO, World.ownsRow_nil _ _ _ _, trivial⟩, hB0⟩
    (fun x => { tmps := #[.slice none 0 0, .func (.func gf) #[] lb, .pointer (some ⟨w.heap.size, 0, none⟩), undef, .slice none 0 0, .string x, .func (.func gf) #[] lb, .string x, undef, undef, undef, undef, undef], defers := [] }) ?assign ?body ?done ?stop
  case assign =>
    intro b x W K hK
    gi_wp2
    exact hK
  case body =>
    rintro b pre x W ⟨⟨v, hv, hrow, _⟩, hB⟩ hlt
    have hc := hv.cell
    gi_wp2_with (gi_at_builtin; refine wpListIn_append_own _ rfl _ _ 22 rfl w.heap.size 9 i0 (.string ⟨#[]⟩) 1 16 Try.underlying22 hi hz0 hz1 hz2 rfl (by decide) _ _ _ rfl (hrow.alloc _) ⟨W.heap.size, 0, none⟩ 1 1 [.string x] rfl rfl (cell_one_new _ _ _) (by simp [Value.oneCell']) (by omega) (by omega) (by have := hB.size; simp; omega) ?_; intro v' w1 hown' hgrow _; obtain ⟨g', cap', rfl⟩ := ownsRow_succ hown'; obtain ⟨hv1, hv2, hr2, hk2, hb2⟩ := hv.appended (by decide) hrow hB.size (Nat.le_refl _) hown' hgrow; have hc1 := hv1.cell; have hf1 := hv1.frozen)
    exact ⟨hk2.from _, hb2, ⟨_, hv2, by simpa using hr2, trivial⟩, hB.trans hb2⟩
  case done =>
    rintro D ys W hD rfl ⟨⟨v, hv, hrow, _⟩, hB⟩ hK
    have hc := hv.cell
    gi_wp2
    refine ⟨by simp, .inl ⟨_, _, rfl, run_takeDeferred hK, ?_⟩⟩
    exact ⟨_, results_tmp rfl _ _ _, v, rfl, ownsRow_putObj hrow _ hK rfl, hB.trans (belowK_b (w := w) (Nat.le_refl _) W D _ _ (by simp at hD; omega) hK rfl rfl)⟩
  case stop =>
    rintro D c pre W _ _ h _
    exact h.elim

set_option maxHeartbeats 1000000 in
theorem collect_in (F : Fence) (n : Nat) (hf : F.fn 16) (hf2 : F.fn 22) (hro : F.round = none) (hn : 4 ≤ n) (gf : Nat) (lb : Array Value) (hFg : F.fn gf) (eg : ∀ args w, (callFunc gf args).run Try.prog w = .ok (.enter gf args) w)
    (l : List Bt) (hlen : l.length ≤ maxLen) (hbytes : l.length * 16 ≤ 140737488355328) (w : World)
    (hseq : SeqStopsK F (n - 1 - 1) Try.prog gf lb (fun x : Bt => #[Value.string x]) (Below w.heap.size) (fun ys => ys = l) (fun pre => pre <+: l) l.length w) :
    CallsIn F n Try.prog 16 #[.func (.func gf) #[] lb] w fun e w' => ∃ v, e = .returned v ∧ w'.ownsRow w.heap.size 9 1 v l.length (l.map Value.string) ∧ Below w.heap.size w w' := by
  have h1 : 1 ≤ n := by omega
  have HA := Lib.hid (appendSeq_in F (n - 1) hf2 hro (by omega) gf lb hFg eg l hlen hbytes w hseq)
  clear hseq
  refine callsIn_of_wp Try.func16 rfl hf ?_ hro
  simp only [Try.ntmps16, List.size_toArray, List.length_cons, List.length_nil, Nat.reduceAdd, Nat.reduceSub, Array.replicate_succ, Array.replicate_zero, List.push_toArray, List.append_toArray, List.nil_append, List.cons_append]
  gi_wp2_with (gi_at_call 22; refine HA.out.mono ?_; rintro e w' ⟨v, rfl, hrow, hb⟩)
  go_ret
  exact ⟨v, rfl, hrow, hb⟩

theorem sortT_enc (l : List Bt) : (((l.map (·.data.toList)).mergeSort fun x y => decide (x ≤ y)).map encStr) = (sortB l).map Value.string := by
  unfold sortB sortT; rw [enc_toB]

set_option maxHeartbeats 1000000 in
theorem sorted_in (n : Nat) (hn : 5 ≤ n) (gf : Nat) (lb : Array Value) (eg : ∀ args w, (callFunc gf args).run Try.prog w = .ok (.enter gf args) w)
    (l : List Bt) (hlen : l.length ≤ maxLen) (hbytes : l.length * 16 ≤ 140737488355328) (w : World)
    (hseq : SeqStopsK Fence.wide (n - 1 - 1 - 1) Try.prog gf lb (fun x : Bt => #[Value.string x]) (Below w.heap.size) (fun ys => ys = l) (fun pre => pre <+: l) l.length w) :
    CallsIn Fence.wide n Try.prog 11 #[.func (.func gf) #[] lb] w fun e w' => ∃ v, e = .returned v ∧ w'.ownsRow w.heap.size 9 1 v l.length ((sortB l).map Value.string) ∧ Below w.heap.size w w' := by
  have h1 : 1 ≤ n := by omega
  have HA := Lib.hid (collect_in Fence.wide (n - 1) trivial trivial rfl (by omega) gf lb trivial eg l hlen hbytes w hseq)
  have HS := Lib.hid (fun (W : World) (v : Value) (h : W.ownsRow w.heap.size 9 1 v l.length (l.map Value.string)) => (callsIn_wide (n := n - 1)).2 (sortOwn W w.heap.size v l h (by omega)))
  clear hseq
  have hf1 : Fence.wide.fn 16 := trivial
  have hf2 : Fence.wide.fn 17 := trivial
  refine callsIn_of_wp Try.func11 rfl trivial ?_ rfl
  simp only [Try.ntmps11, List.size_toArray, List.length_cons, List.length_nil, Nat.reduceAdd, Nat.reduceSub, Array.replicate_succ, Array.replicate_zero, List.push_toArray, List.append_toArray, List.nil_append, List.cons_append]
  gi_wp2_with (first
    | (gi_at_call 16; refine HA.out.mono ?_; rintro e w1 ⟨v, rfl, hrow, hb⟩)
    | (gi_at_call 17; refine (HS.out w1 v hrow).mono ?_; rintro e w2 ⟨rfl, hg, hrow2⟩))
  go_ret
  refine ⟨v, rfl, by rw [← sortT_enc]; exact hrow2, hb.grown hg hb.size (fun k hk => (hrow.lt k hk).1)⟩

/-- slices.Values(l). -/
theorem values_any (A : Option Addr) (n c : Nat) (w : World) :
    Calls Try.prog 12 #[.slice A n c] w fun e w' => e = .returned (.func (.func 18) #[] #[.pointer (some ⟨w.heap.size, 0, none⟩)]) ∧ w' = w.alloc (.cells #[.slice A n c] 22) := by
  refine (callsIn_wide (n := 2)).1 ?_
  refine callsIn_of_wp Try.func12 rfl trivial ?_ rfl
  simp only [Try.ntmps12, List.size_toArray, List.length_cons, List.length_nil, Nat.reduceAdd, Nat.reduceSub, Array.replicate_succ, Array.replicate_zero, List.push_toArray, List.append_toArray, List.nil_append, List.cons_append]
  gi_wp2
  go_ret
  exact ⟨rfl, rfl⟩

/-- slices.Sorted of what slices.Values(l) gave. -/
theorem sorted_any (l : List Bt) (v : Value) (Bs : Nat) (w : World) (hc : w.cell? ⟨Bs, 0, none⟩ = some v) (hS : Sl w (· < w.heap.size) dStr l v) (hbytes : l.length * 16 ≤ 140737488355328) :
    Calls Try.prog 11 #[.func (.func 18) #[] #[.pointer (some ⟨Bs, 0, none⟩)]] w fun e w' => ∃ u, e = .returned u ∧ w'.ownsRow w.heap.size 9 1 u l.length ((sortB l).map Value.string) ∧ Below w.heap.size w w' := by
  obtain ⟨A, c, _, hlc, hcm, _⟩ := hS.form
  exact (callsIn_wide (n := 8)).1 (sorted_in 8 (by omega) _ _ (enters_of Try.func18 (by kernel_rfl) rfl) l (by omega) hbytes w
    (values_stops Fence.wide 5 trivial rfl (by omega) Bs w.heap.size l v w (block_lt_of_cell hc) (Nat.le_refl _) hc hS))
end Go.Proofs.Ytldflgianmmaeaa
