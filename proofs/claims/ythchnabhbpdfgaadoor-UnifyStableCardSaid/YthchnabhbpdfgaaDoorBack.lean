/- slices.Backward at api.Type: the iterator's contract: the places of the slice from the last to the first; what a round must keep is the caller's choice. No conditions. -/
import Derived.Test.YthchnabhbpdfgaaDoorNormD
import Derived.Test.YthchnabhbpdfgaaDoorRound
import Derived.RangeFuncBound
import Derived.RangeFuncCalls
import Derived.RangeFuncLeaves
import Derived.Shelf.Abstract
import Derived.Shelf.RegionOpen
import Derived.OwnWalkIn
import Derived.TacticsInMore
import Derived.LoopNIn
import Derived.LoopIn
namespace Go.Proofs.YthchnabhbpdfgaaDoor
open Go.RowKit Go.Shelf
attribute [local go_sem] Oper.semAt_some

/-- What has come when j rounds are over: the places from the last on. -/
def bkl (len : Nat) : Nat → List { i : Nat // i < len }
  | 0 => []
  | j + 1 => if h : j < len then bkl len j ++ [⟨len - 1 - j, by omega⟩] else bkl len j
theorem bkl_succ {len j : Nat} (h : j < len) : bkl len (j + 1) = bkl len j ++ [⟨len - 1 - j, by omega⟩] := by rw [bkl, dif_pos h]
theorem bkl_len {len : Nat} : ∀ {j : Nat}, j ≤ len → (bkl len j).length = j
  | 0, _ => rfl
  | j + 1, h => by rw [bkl_succ (by omega), List.length_append, bkl_len (by omega)]; rfl
set_option maxHeartbeats 400000 in
theorem backward_any (A : Option Addr) (n c : Nat) (W : World) : Calls Tryd.prog 35 #[.slice A n c] W fun e w' =>
    e = .returned (.func (.func 43) #[] #[.pointer (some ⟨W.heap.size, 0, none⟩)]) ∧ w' = W.alloc (.cells #[.slice A n c] 22) := by
  go_enter Tryd.func35, Tryd.ntmps35
  go_wp2
  go_ret
  exact ⟨rfl, rfl⟩
def bkArgs (el : Nat → V4) {len : Nat} (x : { i : Nat // i < len }) : Array Value := #[.int .i64 (x.1 : Int), .agg #[(el x.1).e0, (el x.1).e1, (el x.1).e2, (el x.1).e3]]
def BackPost (len : Nat) (J Jx : List { i : Nat // i < len } → World → Prop) (e : Ending) (W' : World) : Prop := (∃ v, e = .returned v) ∧
      ((∃ ys, ys = bkl len len ∧ J ys W') ∨ (∃ pre, (∃ k, k ≤ len ∧ pre = bkl len k) ∧ Jx pre W'))
set_option maxRecDepth 100000 in
set_option maxHeartbeats 4000000 in
theorem back_in (n l Bs g off len cap : Nat) (A : Option Addr) (hA : 0 < len → A = some ⟨g, off, none⟩) (hlm : len ≤ 9223372036854775807) (el : Nat → V4) (Kp : World → World → Prop) (hKr : ∀ W, Kp W W) (hKt : ∀ {A B C : World}, Kp A B → Kp B C → Kp A C) (J Jx : List { i : Nat // i < len } → World → Prop)
    (hY : ∀ pre (x : { i : Nat // i < len }) W, J pre W → pre.length < len → YieldAt Fence.wide (n - 1) Tryd.prog l (bkArgs el x) W fun e W' =>
      (e = .returned (.bool true) ∧ J (pre ++ [x]) W' ∧ Kp W W') ∨ (e = .returned (.bool false) ∧ Jx (pre ++ [x]) W'))
    (W : World) (hc : ∀ W', Kp W W' → W'.cell? ⟨Bs, 0, none⟩ = some (.slice A len cap) ∧ ∀ k, k < len → W'.cell? ⟨g, off + k * 4, none⟩ = some (el k).e0 ∧ W'.cell? ⟨g, off + k * 4 + 1, none⟩ = some (el k).e1 ∧ W'.cell? ⟨g, off + k * 4 + 2, none⟩ = some (el k).e2 ∧ W'.cell? ⟨g, off + k * 4 + 3, none⟩ = some (el k).e3) (h0 : J [] W) :
    CallsIn Fence.wide n Tryd.prog 43 #[.func (.yield l) #[] #[], .pointer (some ⟨Bs, 0, none⟩)] W (BackPost len J Jx) := by
  have HC := Lib.hid hc
  have HA := Lib.hid hA
  clear hA
  have b0 := (hc W (hKr W)).1
  have hl0 : (0 : Int) ≤ (len : Int) := by omega
  have HY := Lib.hid hY
  have HKT : Hid (∀ A B C : World, Kp A B → Kp B C → Kp A C) := fun _ _ _ => hKt
  have HKR := Lib.hid hKr
  clear hc hY hKt hKr
  refine callsIn_of_wp Tryd.func43 rfl trivial ?_ rfl
  simp only [Tryd.ntmps43, List.size_toArray, List.length_cons, List.length_nil, Nat.reduceAdd, Nat.reduceSub, Array.replicate_succ, Array.replicate_zero, List.push_toArray, List.append_toArray, List.nil_append, List.cons_append]
  gi_wp2
  gi_loopw [3] (fun s3 wr => ∃ (j : Nat) (m : Int), s3 = .int .i64 m ∧ j ≤ len ∧ Hid (m = (len : Int) - 1 - (j : Int)) ∧ J (bkl len j) wr ∧ Kp W wr)
    (fun s3 _ => (intOf s3 + 1).toNat)
  case atStart => exact ⟨0, (len : Int) - 1, rfl, Nat.zero_le _, by show _ = _; omega, h0, HKR.out W⟩
  case round =>
    obtain ⟨j, m, rfl, hj, hm, hJs, hk⟩ := hrel
    have hm' := hm.out
    by_cases hlt : j < len
    · obtain ⟨k, hkm⟩ : ∃ k : Nat, m = (k : Int) := ⟨len - 1 - j, by omega⟩
      subst hkm
      have hke : k = len - 1 - j := by omega
      have hkl : k < len := by omega
      obtain ⟨b1, hcs⟩ := HC.out _ hk
      have hAe := HA.out (by omega)
      rw [hAe] at b1
      clear hAe
      obtain ⟨c0, c1, c2, c3⟩ := hcs k hkl
      obtain ⟨fn, tmps, assign, body, hy, hR⟩ := HY.out _ ⟨k, hkl⟩ _ hJs (by rw [bkl_len hj]; exact hlt)
      have hk0 : (0 : Int) ≤ (k : Int) := by omega
      have hkz : (k : Int) < (len : Int) := by omega
      have HKE := Lib.hid hke
      have HR := Lib.hid hR
      unfold bkArgs at hy
      dsimp only at hy
      clear hm' hke hR hcs b0
      gi_wp2
      refine ⟨fun h => (by cases h), HR.out.mono ?_⟩
      rintro e W3 (⟨rfl, hJ3, hk3⟩ | ⟨rfl, hJx3⟩)
      · have HJ3 := Lib.hid hJ3
        have HK3 := Lib.hid hk3
        clear hJ3 hk3 c0 c1 c2 c3 b1 hy
        gi_wp2
        go_roundw
        case rel => exact ⟨j + 1, (k : Int) - 1, rfl, by omega, by show _ = _; have := HKE.out; omega, by
          have e : bkl len (j + 1) = bkl len j ++ [⟨k, hkl⟩] := by
            rw [bkl_succ hlt]
            congr 3
            exact HKE.out.symm
          rw [e]; exact HJ3.out, HKT.out _ _ _ hk HK3.out⟩
        case measure => simp [intOf]
      · gi_wp2
        refine bodyPost_ret (results_none rfl _ _ _) rfl ?_
        exact ⟨⟨_, rfl⟩, .inr ⟨_, ⟨j + 1, by omega, by
            rw [bkl_succ hlt]
            congr 3⟩, hJx3⟩⟩
    · have hje : j = len := by omega
      have hm2 : ¬ (0 : Int) ≤ m := by omega
      subst hje
      clear hm'
      gi_wp2
      go_end0
      exact ⟨⟨_, rfl⟩, .inl ⟨_, rfl, hJs⟩⟩

/-- A range over a function whose loop variable lies in a box of its own in every round. -/
theorem range_box {P : Program} {n : Nat} {α : Type} {g : Operand} {q1 q2 : Tmp} {e1 e2 : α → Value} {assign body : Code} {Q : Exit → Act → World → Prop} {a : Act} {w : World}
    (h1 : 1 ≤ n) {gf : Nat} {lb : Array Value} (hg : a.eval g = .func (.func gf) #[] lb) (eg : ∀ args w, (callFunc gf args).run P w = .ok (.enter gf args) w)
    {Kp : World → World → Prop} {S Sp : List α → Prop} {N : Nat} (hseq : SeqStopsK Fence.wide (n - 1) P gf lb (fun x => #[e1 x, e2 x]) Kp S Sp N w)
    (hKt : ∀ {A B C : World}, Kp A B → Kp B C → Kp A C) (hKb : ∀ (W : World) (l : Nat) (o o' : Obj), w.heap.size ≤ l → W.heap[l]? = some o → o.isCells = false → o.isWalk = false → Kp W (W.putObj l o'))
    (I : List α → World → Prop) (hI : OwnFrom w.heap.size I) (h0 : I [] w) (slot : Nat) (t : TypeId) (cs : α → List Value)
    (hassign : ∀ (l : Nat) (pre : List α) (x : α) (W : World) (K : Act → World → Prop), w.heap.size ≤ W.heap.size → I pre W → (∀ Bx W', KeepsFrom w.heap.size W W' → Kp W W' → I pre W' → w.heap.size ≤ Bx → Blk W' Bx t (cs x) → K { tmps := ((a.tmps.setIfInBounds q1 (e1 x)).setIfInBounds q2 (e2 x)).setIfInBounds slot (.pointer (some ⟨Bx, 0, none⟩)), defers := [] } W') →
      assign.wpIn (Fence.wide.inRound l) (n - 1 - 1) P (Exit.then K (fun _ _ _ => False)) { tmps := (a.tmps.setIfInBounds q1 (e1 x)).setIfInBounds q2 (e2 x), defers := [] } W)
    (hbody : ∀ (l : Nat) (pre : List α) (x : α) (Bx : Nat) (W : World), I pre W → w.heap.size ≤ Bx → Blk W Bx t (cs x) → body.wpIn (Fence.wide.inRound l) (n - 1 - 1) P (ownPostG w.heap.size Kp I (fun _ _ _ => False) (pre ++ [x]) W)
      { tmps := ((a.tmps.setIfInBounds q1 (e1 x)).setIfInBounds q2 (e2 x)).setIfInBounds slot (.pointer (some ⟨Bx, 0, none⟩)), defers := [] } W)
    (hIw : ∀ pre W, I pre W → w.heap.size ≤ W.heap.size)
    (hdone : ∀ (D : Nat) (xs : List α) (W : World), w.heap.size ≤ D → S xs → I xs W → W.heap[D]? = some (.deferred (some [])) → Q .normal { a with defers := { target := .collected D, args := #[] } :: a.defers } W) :
    (Code.rangeFunc g #[q1, q2] assign body).wp P Q a w := by
  have hz : ∀ x, ((#[q1, q2].zip #[e1 x, e2 x]).foldl (fun t (p, v) => t.setIfInBounds p v) a.tmps) = (a.tmps.setIfInBounds q1 (e1 x)).setIfInBounds q2 (e2 x) := fun x => by rw [List.zip_toArray]; simp
  refine (wpIn_wide (n := n)).1 ?_
  refine wpIn_rangeFunc_ownH rfl h1 hg trivial eg hseq hKt hKb (Below.refl _ _) (fun _ => rfl) I (fun _ _ _ => False) hI (fun _ _ _ _ _ h _ _ => h) h0
    (fun x a' W => ∃ Bx, w.heap.size ≤ Bx ∧ Blk W Bx t (cs x) ∧ a' = { tmps := ((a.tmps.setIfInBounds q1 (e1 x)).setIfInBounds q2 (e2 x)).setIfInBounds slot (.pointer (some ⟨Bx, 0, none⟩)), defers := [] })
    (fun x a' s W W' row h hg hr => ?_) (fun l pre x W K hI hK => ?_) (fun l pre x a' W _ _ hI hA _ => ?_) (fun D xs W h1 h2 h3 h4 => hdone D xs W h1 h2 h3 h4) (fun _ _ _ _ _ _ h _ => h.elim)
  · obtain ⟨Bx, h1, h2, h3⟩ := h
    refine ⟨Bx, h1, (hg.block Bx h2.lt (fun e => ?_)).trans h2, h3⟩
    obtain ⟨_, o, ho, hc⟩ := hr Bx e.symm
    unfold Blk at h2
    rw [h2] at ho
    cases ho; cases hc
  · rw [hz]
    exact hassign l pre x W K (hIw pre W hI) hI (fun Bx W' k1 k2 k3 k4 k5 => hK _ W' k1 k2 k3 ⟨Bx, k4, k5, rfl⟩)
  · obtain ⟨Bx, h1, h2, rfl⟩ := hA
    exact hbody l pre x Bx W hI h1 h2
/-- What is kept but for one block and what is new. -/
theorem keeps_putObj {b4 N0 : Nat} (W : World) (l : Nat) (o o' : Obj) (hl : N0 ≤ l) (_ : W.heap[l]? = some o) : Keeps (fun i => i = b4 ∨ N0 ≤ i) W (W.putObj l o') :=
  (Keeps.refl _ W).grown (grownBy_putObj' W l o') (fun i e _ => by cases e; exact .inr hl)
theorem foldl_bkl {β : Type} {L : List β} {n : Nat} (hn : L.length = n) (d : β) (f : β → Ty → Ty) (e : Ty) : ∀ j, j ≤ n → (bkl n j).foldl (fun out x => f (L[x.1]?.getD d) out) e = (L.drop (n - j)).foldr f e
  | 0, _ => by rw [Nat.sub_zero, List.drop_of_length_le (by omega)]; rfl
  | j + 1, h => by
    have hi : n - (j + 1) < L.length := by omega
    rw [bkl_succ (by omega), List.foldl_append, foldl_bkl hn d f e j (by omega), List.drop_eq_getElem_cons hi, show n - (j + 1) + 1 = n - j by omega]
    simp only [List.foldl_cons, List.foldl_nil, List.foldr_cons]
    rw [show n - 1 - j = n - (j + 1) by omega, List.getElem?_eq_getElem hi]; rfl
end Go.Proofs.YthchnabhbpdfgaaDoor
