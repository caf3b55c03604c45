/- kinds.started. -/
import Derived.Test.YtjofndhbpglfgaaDoorKPar
namespace Go.Proofs.YtjofndhbpglfgaaDoor
open Go.RowKit Go.Shelf

def StartPost (known : List KindSig) (datas : List DataSig) (kv dv : Value) (W : World) (e : Ending) (w' : World) : Prop := Below W.heap.size W w' ∧
  ∃ p uv cv, e = .returned (.pointer (some ⟨p, 0, none⟩)) ∧ Sv w' W.heap.size p known datas [] [0, 1, 2] [0, 1, 2] kv dv (.slice none 0 0) uv cv
set_option maxRecDepth 100000 in
set_option maxHeartbeats 4000000 in
theorem started_any (known : List KindSig) (datas : List DataSig) (kv dv : Value) (W : World) (hk : Sl W (· < W.heap.size) KindSig.d known kv) (hd : Sl W (· < W.heap.size) DataSig.d datas dv) :
    Calls Tryd.prog 40 #[kv, dv] W (StartPost known datas kv dv W) := by
  obtain ⟨KA, kc, rfl, _⟩ := hk.form
  obtain ⟨DA, dc, rfl, _⟩ := hd.form
  obtain ⟨p, hp⟩ : ∃ p, W.heap.size = p := ⟨_, rfl⟩
  obtain ⟨W0, hW0⟩ : ∃ W0, W.alloc (.cells #[.slice KA known.length kc, .slice DA datas.length dc, .slice none 0 0, .slice none 0 0, .slice none 0 0] 76) = W0 := ⟨_, rfl⟩
  have hk0 : Keeps (fun _ => False) W W0 := by rw [← hW0]; exact (Keeps.refl _ _).alloc _
  have hb : Blk W0 p 76 [.slice KA known.length kc, .slice DA datas.length dc, .slice none 0 0, .slice none 0 0, .slice none 0 0] := by rw [← hW0, ← hp]; exact Blk.new W _ [_, _, _, _, _]
  have hno : ∀ (i : Nat), ¬ (Value.slice none 0 0).ownBlock = some i := fun i h => by simp [Value.ownBlock] at h
  have hS0 : Sv W0 p p known datas [] [] [] (.slice KA known.length kc) (.slice DA datas.length dc) (.slice none 0 0) (.slice none 0 0) (.slice none 0 0) :=
    ⟨hb, World.ownsRow_nil _ _ _ _, World.ownsRow_nil _ _ _ _, World.ownsRow_nil _ _ _ _, fun i h => absurd h (hno i), fun i h => absurd h (hno i), fun i h => absurd h (hno i), (hk.keeps hk0 (fun _ _ h => h)).mono (fun b hb => by omega), (hd.keeps hk0 (fun _ _ h => h)).mono (fun b hb => by omega), Nat.le_refl _⟩
  have HS0 := Lib.hid hS0
  have HP := Lib.hid hp
  have HW0 := Lib.hid hW0
  have HK0 := Lib.hid hk0
  have hpl := hb.lt
  clear hS0 hp hW0 hk0 hb hno hk hd
  go_enter Tryd.func40, Tryd.ntmps40
  go_wp2_with fail
  rw [HW0.out, HP.out]
  go_loopw [6] (fun i wr => ∃ (k : Nat) (uv cv : Value), k ≤ 3 ∧ i = .int .i64 k ∧ Below p W0 wr ∧ Sv wr p p known datas [] (List.range k) ((List.range k).map fun (i : Nat) => (i : Int)) (.slice KA known.length kc) (.slice DA datas.length dc) (.slice none 0 0) uv cv) (fun i _ => 3 - (intOf i).toNat)
  case atStart => exact ⟨0, _, _, Nat.zero_le _, rfl, Below.refl _ _, HS0.out⟩
  case round =>
    obtain ⟨k, uv, cv, hk, rfl, hb, hS⟩ := hrel
    have hbz := hb.size
    by_cases hlt : k < 3
    · have HC := Lib.hid (slot_any hS (by simp; omega) (by simp; omega) (by omega) (k : Int))
      have k1 : (k : Int) ≤ 2 := by omega
      have k0 : (0 : Int) ≤ (k : Int) := by omega
      have HB := Lib.hid hb
      clear hS hb
      go_wp2_with fail
      with_reducible refine HC.out.mono ?_
      rintro e w1 ⟨rfl, hb1, uv1, cv1, hS1⟩
      have hS2 : Sv w1 p p known datas [] (List.range (k + 1)) ((List.range (k + 1)).map fun (i : Nat) => (i : Int)) (.slice KA known.length kc) (.slice DA datas.length dc) (.slice none 0 0) uv1 cv1 := by
        rw [List.length_range, ← List.range_succ] at hS1
        have e : (List.range (k + 1)).map (fun (i : Nat) => (i : Int)) = (List.range k).map (fun (i : Nat) => (i : Int)) ++ [(k : Int)] := by rw [List.range_succ, List.map_append]; rfl
        rw [e]; exact hS1
      have HS2 := Lib.hid hS2
      have HB2 := Lib.hid (HB.out.trans hb1)
      clear hS1 hS2 hb1
      go_wp2_with fail
      go_roundw
      case rel => exact ⟨k + 1, uv1, cv1, by omega, by go_num, HB2.out, HS2.out⟩
      case measure => simp [intOf]; omega
    · obtain rfl : k = 3 := by omega
      have HB := Lib.hid hb
      have HS := Lib.hid hS
      clear hS hb
      go_wp2_with fail
      go_ret
      refine ⟨?_, p, uv, cv, rfl, ?_⟩
      · rw [HP.out]; exact ((HK0.out.below (B := p) (fun _ h => h.elim) (by have := HP.out; omega)).trans HB.out)
      · rw [HP.out]; exact HS.out
end Go.Proofs.YtjofndhbpglfgaaDoor
