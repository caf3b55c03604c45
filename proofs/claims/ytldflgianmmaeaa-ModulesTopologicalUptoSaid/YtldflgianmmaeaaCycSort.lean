/- slices.Sort and slices.Compact at a list of the call's own, by the shelf's contracts (as ModSort). -/
import Derived.Test.YtldflgianmmaeaaShelfCyc
import Derived.Test.YtldflgianmmaeaaModOut
import Derived.Test.YtldflgianmmaeaaNorm
import Derived.Sort.OwnSorted
namespace Go.Proofs.Ytldflgianmmaeaa
open Go.RowKit Go.Shelf Go.Lib Go.Sort

def toB (t : List UInt8) : ByteArray := ⟨t.toArray⟩
theorem toB_data (s : ByteArray) : toB s.data.toList = s := by cases s; rfl
theorem data_toB (t : List UInt8) : (toB t).data.toList = t := by simp [toB]
theorem enc_data (out : List ByteArray) : (out.map (·.data.toList)).map encStr = out.map Value.string := by
  rw [List.map_map]
  refine List.map_congr_left fun s _ => ?_
  show encStr s.data.toList = _
  cases s; simp [encStr]
theorem enc_toB (l : List T) : l.map encStr = (l.map toB).map Value.string := by
  rw [List.map_map]; rfl
/-- The answer's strings. -/
def normB (out : List ByteArray) : List ByteArray := (norm (out.map (·.data.toList))).map toB

theorem sortOwn (W : World) (base : Nat) (v : Value) (out : List ByteArray) (hown : W.ownsRow base 9 1 v out.length (out.map Value.string)) (hz : out.length < 4611686018427387904) :
    Calls Try.prog 17 #[v] W fun e w' => e = .returned (.tuple #[]) ∧ W.grownBy w' v.ownBlock ∧
      w'.ownsRow base 9 1 v out.length (((out.map (·.data.toList)).mergeSort fun x y => decide (x ≤ y)).map encStr) := by
  have hrow := hown
  rw [← enc_data] at hrow
  obtain ⟨ss, hss⟩ : ∃ ss, out.map (·.data.toList) = ss := ⟨_, rfl⟩
  have hl : out.length = ss.length := by rw [← hss, List.length_map]
  rw [hss, hl] at hrow
  rw [hss, hl]
  rw [hl] at hz
  clear hown hss hl
  rcases hrow.2 with ⟨rfl, h0⟩ | ⟨g, cap, cur, rfl, hbase, hb, h1, h2, h3, h4⟩
  · have hnil : ss = [] := List.eq_nil_of_length_eq_zero h0
    subst hnil
    refine (Try.slices_Sort_string_none none 0 W).mono fun e w' ⟨he, hw⟩ => ⟨he, ?_, ?_⟩
    · rw [hw]; exact ⟨rfl, rfl, rfl, Nat.le_refl _, fun _ _ _ => rfl⟩
    · rw [hw]; simpa using World.ownsRow_nil W base 9 1
  · refine (Try.slices_Sort_string g 0 cap ss W (holds_of_block hb (by simpa using h4)) (Array.getElem?_eq_some_iff.1 hb).1 hz).mono fun e w' ⟨he, n, os, hw⟩ => ⟨he, ?_, ?_⟩
    · rw [hw]; exact grownBy_sorted _
    · rw [hw]; exact ownsRow_sorted (by simp) hbase hb h1 h2 h3

theorem compactOwn (W : World) (base : Nat) (v : Value) (zs : List T) (hrow : W.ownsRow base 9 1 v zs.length (zs.map encStr)) (hs : ∀ z ∈ zs, z.length ≤ maxLen) (hm : ∀ x, x ∈ Lib.compact zs → x ∈ zs) :
    Calls Try.prog 25 #[v] W fun e w' => ∃ u, e = .returned u ∧ W.grownBy w' v.ownBlock ∧ Sl w' (fun b => base ≤ b) dStr ((Lib.compact zs).map toB) u := by
  rcases hrow.2 with ⟨rfl, h0⟩ | ⟨g, cap, cur, rfl, hbase, hb, h1, h2, h3, h4⟩
  · have hnil : zs = [] := List.eq_nil_of_length_eq_zero h0
    subst hnil
    refine (Try.slices_Compact_string_empty none 0 W).mono fun e w' ⟨he, hw⟩ => ⟨_, he, ?_, ?_⟩
    · rw [hw]; exact ⟨rfl, rfl, rfl, Nat.le_refl _, fun _ _ _ => rfl⟩
    · exact Sl.nil_
  · refine (Try.slices_Compact_string g 0 cap zs W (holds_of_block hb (by simpa using h4)) (by unfold maxLen at h2; omega) h1).mono fun e w' ⟨he, q, hw⟩ => ⟨_, he, ?_, ?_⟩
    · rw [hw, ← grow_empty (putRow _ _ _ _ _)]; exact grownBy_sorted _
    · have hle : (Lib.compact zs).length ≤ zs.length := by
        unfold Lib.compact Lib.compactUpTo
        rw [List.length_map]
        exact Nat.le_trans (List.length_filter_le _ _) (by simp)
      have hts : (Lib.compact zs ++ List.replicate (zs.length - (Lib.compact zs).length) []).length = zs.length := by simp; omega
      have hown := ownsRow_sorted (base := base) (e := 9) (n := q) (os := #[]) (w := W) hts hbase hb h1 h2 h3
      rw [grow_empty, ← hw, enc_toB] at hown
      have hsl : Sl w' (fun b => base ≤ b) dStr ((Lib.compact zs ++ List.replicate (zs.length - (Lib.compact zs).length) []).map toB) (.slice (some ⟨g, 0, none⟩) zs.length cap) := by
        refine Sl.of_own (F := fun _ => False) hown (by rw [List.length_map, hts]) (rp_strs w' _ (fun y hy => ?_) _) (fun _ h => h.elim) (fun b hb => (hown.lt b hb).1)
        obtain ⟨t, ht, rfl⟩ := List.mem_map.1 hy
        rw [Lib.size_eq, data_toB]
        rcases List.mem_append.1 ht with ht | ht
        · exact hs t (hm t ht)
        · rw [(List.mem_replicate.1 ht).2]; exact Nat.zero_le _
      have := hsl.take (i := (Lib.compact zs).length) (by rw [List.length_map, hts]; exact hle)
      rwa [← List.map_take, List.take_left'  rfl] at this
end Go.Proofs.Ytldflgianmmaeaa
