/- ModulesAffected: for all lists the law returns true: After contains the changed modules and is closed. No conditions. -/
import Derived.Test.YtlpbkhiaknmjkaaModAfter
import Derived.Test.YtlpbkhiaknmjkaaModSorted
import Derived.Test.YtlpbkhiaknmjkaaSlices
namespace Go.Proofs.Ytlpbkhiaknmjkaa
open Go.RowKit

theorem rpAll_strs_any {W : World} {F G : Nat → Prop} : ∀ {l : List ByteArray} {xs : List Value}, RpAll W F (l.map dStr) xs → RpAll W G (l.map dStr) xs
  | [], _, h => by simpa [RpAll] using h
  | y :: t, xs, h => by
    rw [List.map_cons, rpAll_cons] at h ⊢
    obtain ⟨a, b, e, h1, h2⟩ := h
    exact ⟨a, b, e, rp_str.2 (rp_str.1 h1), rpAll_strs_any h2⟩
/-- A slice of strings lies in blocks that are there. -/
theorem sl_lt {W : World} {F : Nat → Prop} {l : List ByteArray} {v : Value} (h : Sl W F dStr l v) : Sl W (· < W.heap.size) dStr l v := by
  unfold Sl at h ⊢
  simp only [Rp, List.length_map] at h ⊢
  obtain ⟨A', c', e, q1, q2, q3, q4⟩ := h
  refine ⟨A', c', e, q1, q2, q3, fun hne => ?_⟩
  obtain ⟨gg, off, xs, e1, _, e3, e4⟩ := q4 hne
  refine ⟨gg, off, xs, e1, ?_, rpAll_strs_any e3, e4⟩
  cases l with
  | nil => exact absurd rfl hne
  | cons y t =>
    rw [List.map_cons, rpAll_cons] at e3
    obtain ⟨a, b, rfl, h1, _⟩ := e3
    have h1' : a = [Value.string y] := (rp_str.1 h1).1
    subst h1'
    exact block_lt_of_cell (e4 0 _ rfl)
theorem sl_blk {W : World} {g : Nat} {t : TypeId} {l : List ByteArray} (h : Blk W g t (l.map Value.string)) (hs : ∀ y ∈ l, y.size ≤ maxLen) (hl : l.length ≤ maxLen) (F : Nat → Prop) (hF : F g) : Sl W F dStr l (.slice (some ⟨g, 0, none⟩) l.length l.length) := by
  unfold Sl
  simp only [Rp, List.length_map]
  exact ⟨_, l.length, rfl, Nat.le_refl _, hl, (fun h => nomatch h), fun _ => ⟨g, 0, l.map Value.string, rfl, hF, rp_strs W l hs F, fun j u hj => by rw [Nat.zero_add]; exact h.cell hj⟩⟩
theorem sls_blk {W : World} {g : Nat} {t : TypeId} {L : List (List ByteArray)} {vs : List Value} (h : Blk W g t vs) (hl : L.length ≤ maxLen) (F : Nat → Prop) (hF : F g) (hr : RpAll W F (L.map dStrs) vs) : Sl W F dStrs L (.slice (some ⟨g, 0, none⟩) L.length L.length) := by
  unfold Sl
  simp only [Rp, List.length_map]
  exact ⟨_, L.length, rfl, Nat.le_refl _, hl, (fun h => nomatch h), fun _ => ⟨g, 0, vs, rfl, hF, hr, fun j u hj => by rw [Nat.zero_add]; exact h.cell hj⟩⟩

theorem mem_normB {out : List ByteArray} {x : ByteArray} : x ∈ normB out ↔ x ∈ out := by
  unfold normB
  rw [List.mem_map]
  constructor
  · rintro ⟨t, ht, rfl⟩
    obtain ⟨y, hy, rfl⟩ := List.mem_map.1 (mem_norm.1 ht)
    rw [toB_data]; exact hy
  · intro h
    exact ⟨x.data.toList, mem_norm.2 (List.mem_map.2 ⟨x, h, rfl⟩), toB_data x⟩
theorem normB_data (out : List ByteArray) : (normB out).map (·.data.toList) = norm (out.map (·.data.toList)) := by
  unfold normB
  rw [List.map_map]
  refine (List.map_congr_left (g := id) fun t _ => ?_).trans (List.map_id _)
  exact data_toB t
theorem normB_lt (out : List ByteArray) : ((normB out).map (·.data.toList)).Pairwise (· < ·) := by
  rw [normB_data]; exact norm_lt _
theorem normB_of_mem {a b : List ByteArray} (h : ∀ x, x ∈ a ↔ x ∈ b) : normB a = normB b := by
  unfold normB
  rw [norm_of_mem (a := a.map (·.data.toList)) (b := b.map (·.data.toList)) fun t => ?_]
  rw [List.mem_map, List.mem_map]
  constructor
  · rintro ⟨x, hx, e⟩; exact ⟨x, (h x).1 hx, e⟩
  · rintro ⟨x, hx, e⟩; exact ⟨x, (h x).2 hx, e⟩
theorem length_le_of : ∀ (R N : List T), R.Nodup → (∀ x ∈ R, x ∈ N) → R.length ≤ N.length
  | [], _, _, _ => Nat.zero_le _
  | x :: t, N, hn, h => by
    rw [List.nodup_cons] at hn
    have hx := h x (by simp)
    have := length_le_of t (N.erase x) hn.2 fun y hy => (List.mem_erase_of_ne (fun e => hn.1 (by rw [← e]; exact hy))).2 (h y (by simp [hy]))
    rw [List.length_erase_of_mem hx] at this
    have hp := List.length_pos_of_mem hx
    simp only [List.length_cons]; omega
theorem normB_length {out N : List ByteArray} (h : ∀ x ∈ out, x ∈ N) : (normB out).length ≤ N.length := by
  have := length_le_of ((normB out).map (·.data.toList)) (N.map (·.data.toList)) (List.Pairwise.imp (S := fun a b : T => a ≠ b) (fun {a b} hab e => List.lt_irrefl b (by rw [e] at hab; exact hab)) (normB_lt out)) fun t ht => by
    obtain ⟨x, hx, rfl⟩ := List.mem_map.1 ht
    exact List.mem_map.2 ⟨x, h x (mem_normB.1 hx), rfl⟩
  simpa using this

/-- Applied again it adds nothing. -/
theorem again {N out out2 : List ByteArray} {I : List (List ByteArray)} (hc : Closed N I out) (h2 : Pl N I (normB out) out2) : normB out2 = normB out := by
  refine normB_of_mem fun x => ?_
  have hcl : Closed N I (normB out) := fun j x l hj hl hn m hm hin => hc j x l hj hl (fun h => hn (mem_normB.2 h)) m hm (mem_normB.1 hin)
  exact ⟨fun hx => mem_normB.1 (h2.least hcl x hx), fun hx => h2.has x (mem_normB.2 hx)⟩

def sA : ByteArray := ⟨#[65]⟩
def sB : ByteArray := ⟨#[66]⟩
theorem first {out : List ByteArray} (h : Pl [sA, sB] [[sB], []] [sB] out) (hc : Closed [sA, sB] [[sB], []] out) : normB out = [sA, sB] := by
  have hB : sB ∈ out := h.has _ (by simp)
  have hA : sA ∈ out := Classical.byContradiction fun hn => hc 0 sA [sB] rfl rfl hn sB (by simp) hB
  have e : normB out = normB [sA, sB] := normB_of_mem fun x => ⟨fun hx => h.sub x hx, fun hx => by
    rcases List.mem_cons.1 hx with rfl | hx
    · exact hA
    · rw [List.mem_singleton.1 hx]; exact hB⟩
  rw [e]
  show (norm [[65], [66]]).map toB = _
  rw [norm_self (by decide)]
  rfl
end Go.Proofs.Ytlpbkhiaknmjkaa

namespace Go.Proofs.Ytlpbkhiaknmjkaa.modulesAffected
open Go.ChangeShapes Go.WideShapes Go.ChangeAt Go.RowKit Go.Shelf

theorem own : ownKnob Try.prog.godebug = none := by kernel_rfl

set_option maxHeartbeats 2000000 in
theorem walk (N Ch : List ByteArray) (I : List (List ByteArray)) (nv iv cv : Value) (w : World) (hN : Sl w (· < w.heap.size) dStr N nv) (hI : Sl w (· < w.heap.size) dStrs I iv) (hCh : Sl w (· < w.heap.size) dStr Ch cv)
    (hsz : Ch.length * 16 ≤ 140737488351232) :
    Calls Try.prog 3 #[nv, iv, cv] w fun e w' => e = .returned (.bool true) ∧ Below w.heap.size w w' := by
  obtain ⟨A, c, rfl, hlc, hcm, _⟩ := hN.form
  obtain ⟨B, c', rfl, hmc, hcm', _⟩ := hI.form
  obtain ⟨C, c'', rfl, hmc2, hcm2, _⟩ := hCh.form
  have hl : N.length ≤ 9223372036854775807 := by unfold maxLen at hcm; omega
  have hm : I.length ≤ 9223372036854775807 := by unfold maxLen at hcm'; omega
  have hm2 : Ch.length ≤ 9223372036854775807 := by unfold maxLen at hcm2; omega
  go_enter Try.func3, Try.ntmps3
  go_wp2_with fail
  obtain ⟨W0, hW0⟩ : ∃ W0, (((w.alloc (.cells #[.string ⟨#[65]⟩, .string ⟨#[66]⟩] 9)).alloc (.cells #[.string ⟨#[66]⟩] 9)).alloc (.cells #[.slice (some ⟨w.heap.size + 1, 0, none⟩) 1 1, .slice none 0 0] 22)).alloc (.cells #[.string ⟨#[66]⟩] 9) = W0 := ⟨_, rfl⟩
  obtain ⟨g0, hg0⟩ : ∃ g0, w.heap.size = g0 := ⟨_, rfl⟩
  have b1 : Blk (w.alloc (.cells #[.string ⟨#[65]⟩, .string ⟨#[66]⟩] 9)) g0 9 [.string ⟨#[65]⟩, .string ⟨#[66]⟩] := by rw [← hg0]; exact Blk.new _ _ [_, _]
  have b2 : Blk ((w.alloc (.cells #[.string ⟨#[65]⟩, .string ⟨#[66]⟩] 9)).alloc (.cells #[.string ⟨#[66]⟩] 9)) (g0 + 1) 9 [.string ⟨#[66]⟩] := by
    have := Blk.new (w.alloc (.cells #[.string ⟨#[65]⟩, .string ⟨#[66]⟩] 9)) 9 [.string ⟨#[66]⟩]
    simpa [hg0] using this
  have b3 : Blk (((w.alloc (.cells #[.string ⟨#[65]⟩, .string ⟨#[66]⟩] 9)).alloc (.cells #[.string ⟨#[66]⟩] 9)).alloc (.cells #[.slice (some ⟨w.heap.size + 1, 0, none⟩) 1 1, .slice none 0 0] 22)) (g0 + 1 + 1) 22 [.slice (some ⟨g0 + 1, 0, none⟩) 1 1, .slice none 0 0] := by
    have := Blk.new ((w.alloc (.cells #[.string ⟨#[65]⟩, .string ⟨#[66]⟩] 9)).alloc (.cells #[.string ⟨#[66]⟩] 9)) 22 [.slice (some ⟨w.heap.size + 1, 0, none⟩) 1 1, .slice none 0 0]
    simpa [hg0] using this
  have b4 : Blk W0 (g0 + 1 + 1 + 1) 9 [.string ⟨#[66]⟩] := by
    have := Blk.new (((w.alloc (.cells #[.string ⟨#[65]⟩, .string ⟨#[66]⟩] 9)).alloc (.cells #[.string ⟨#[66]⟩] 9)).alloc (.cells #[.slice (some ⟨w.heap.size + 1, 0, none⟩) 1 1, .slice none 0 0] 22)) 9 [.string ⟨#[66]⟩]
    rw [hW0] at this
    simpa [hg0] using this
  have a1 : Blk W0 g0 9 [.string ⟨#[65]⟩, .string ⟨#[66]⟩] := by rw [← hW0]; exact ((b1.alloc _).alloc _).alloc _
  have a2 : Blk W0 (g0 + 1) 9 [.string ⟨#[66]⟩] := by rw [← hW0]; exact (b2.alloc _).alloc _
  have a3 : Blk W0 (g0 + 1 + 1) 22 [.slice (some ⟨g0 + 1, 0, none⟩) 1 1, .slice none 0 0] := by rw [← hW0]; exact b3.alloc _
  have hb0 : Below w.heap.size w W0 := by
    rw [← hW0]
    exact Below.alloc (Below.alloc (Below.alloc (Below.alloc (Below.refl _ _) (Nat.le_refl _) _) (by simp) _) (by simp; omega) _) (by simp; omega) _
  clear b1 b2 b3
  rw [hW0, hg0]
  have hz : ∀ y ∈ [sA, sB], y.size ≤ maxLen := by decide
  have hz2 : ∀ y ∈ [sB], y.size ≤ maxLen := by decide
  have s1 : Sl W0 (· < W0.heap.size) dStr [sA, sB] (.slice (some ⟨g0, 0, none⟩) 2 2) := sl_blk (l := [sA, sB]) a1 hz (by decide) _ a1.lt
  have s4 : Sl W0 (· < W0.heap.size) dStr [sB] (.slice (some ⟨g0 + 1 + 1 + 1, 0, none⟩) 1 1) := sl_blk (l := [sB]) b4 hz2 (by decide) _ b4.lt
  have s2 : Sl W0 (· < W0.heap.size) dStr [sB] (.slice (some ⟨g0 + 1, 0, none⟩) 1 1) := sl_blk (l := [sB]) a2 hz2 (by decide) _ a2.lt
  have s3 : Sl W0 (· < W0.heap.size) dStrs [[sB], []] (.slice (some ⟨g0 + 1 + 1, 0, none⟩) 2 2) := sls_blk (L := [[sB], []]) a3 (by decide) _ a3.lt (by
    rw [List.map_cons, rpAll_cons]
    refine ⟨[_], [_], rfl, s2, ?_⟩
    rw [List.map_cons, rpAll_cons]
    exact ⟨[_], [], rfl, Sl.nil_, by simp [RpAll]⟩)
  have HA := Lib.hid (after_walk [sA, sB] [sB] [[sB], []] _ _ _ W0 s1 s3 s4 (by decide))
  have hN0 := hN.below (fun _ h => h) hb0
  have hI0 := hI.below (fun _ h => h) hb0
  have hCh0 := hCh.below (fun _ h => h) hb0
  clear a1 a2 a3 b4 s1 s2 s3 s4 hW0
  with_reducible refine HA.out.mono ?_
  rintro e W1 ⟨hb1, ⟨c1, hc1, hx1, rfl⟩ | ⟨out0, v0, hok0, hP0, hcl0, rfl, hs0⟩⟩
  · exfalso
    rcases hx1 with h | h
    · exact h (by decide)
    · exact h (by simp)
  have hR0 := first hP0 hcl0
  rw [hR0] at hs0
  have hbw1 := hb0.trans (hb1.mono hb0.size)
  obtain ⟨A0, cc0, rfl, _⟩ := hs0.form
  change Sl W1 _ dStr [sA, sB] (.slice A0 2 cc0) at hs0
  have HEq := Lib.hid (fun (W : World) (g : Nat) (hk : Keeps (fun _ => False) W1 W) (hb : Blk W g 9 [.string ⟨#[65]⟩, .string ⟨#[66]⟩]) =>
    (strEqual [sA, sB] [sA, sB] _ (.slice (some ⟨g, 0, none⟩) 2 2) _ (fun _ => True) W (hs0.keeps hk (fun _ _ h => h)) (sl_blk (l := [sA, sB]) hb hz (by decide) _ trivial)).mono (R' := fun e w' => e = .returned (.bool true) ∧ Below W.heap.size W w') fun e w' ⟨he, hw⟩ => ⟨by rw [he]; exact ret_bool (by decide), hw⟩)
  clear hz hz2 HA hs0
  go_wp2_with fail
  with_reducible refine (HEq.out _ _ ((Keeps.refl _ _).alloc _) (Blk.new _ _ [_, _])).mono ?_
  rintro e W2 ⟨rfl, hb2⟩
  have hbw2 : Below w.heap.size w W2 := (Below.alloc hbw1 hbw1.size _).trans (hb2.mono (by have := hbw1.size; simp; omega))
  have hN2 := hN.below (fun _ h => h) hbw2
  have hI2 := hI.below (fun _ h => h) hbw2
  have hCh2 := hCh.below (fun _ h => h) hbw2
  have hwz2 := hbw2.size
  have HA2 := Lib.hid (after_walk N Ch I _ _ _ W2 (hN2.mono fun b hb => Nat.lt_of_lt_of_le hb hwz2) (hI2.mono fun b hb => Nat.lt_of_lt_of_le hb hwz2) (hCh2.mono fun b hb => Nat.lt_of_lt_of_le hb hwz2) hsz)
  go_wp2_with fail
  with_reducible refine HA2.out.mono ?_
  rintro e W3 ⟨hb3, ⟨c3, hc3, hx3, rfl⟩ | ⟨out1, v1, hok1, hP1, hcl1, rfl, hs1⟩⟩
  · have hne3 : (c3 != 0) = true := bne_iff_ne.2 hc3
    go_wp2_with fail
    go_ret
    exact ⟨rfl, hbw2.trans (hb3.mono hwz2)⟩
  · have hR1 := normB_length hP1.sub
    have hN16 : N.length ≤ 16 := by
      have h := hok1
      unfold chkM at h
      split at h <;> omega
    have hbw3 := hbw2.trans (hb3.mono hwz2)
    have hwz3 := hbw3.size
    obtain ⟨A1, cc1, rfl, hcc1, hcc2, _⟩ := hs1.form
    have hN3 := hN.below (fun _ h => h) hbw3
    have hI3 := hI.below (fun _ h => h) hbw3
    have hs1' := sl_lt hs1
    have HA3 := Lib.hid (after_walk N (normB out1) I _ _ _ W3 (hN3.mono fun b hb => Nat.lt_of_lt_of_le hb hwz3) (hI3.mono fun b hb => Nat.lt_of_lt_of_le hb hwz3) hs1' (by omega))
    have hmemR : ∀ x ∈ Ch, x ∈ normB out1 := fun x hx => mem_normB.2 (hP1.has x hx)
    have hsubR : ∀ x ∈ normB out1, x ∈ N := fun x hx => hP1.sub x (mem_normB.1 hx)
    obtain ⟨R1, hR1d⟩ : ∃ R1, normB out1 = R1 := ⟨_, rfl⟩
    have hsrt := normB_lt out1
    have hag : ∀ out2, Pl N I R1 out2 → normB out2 = R1 := fun out2 h => by rw [← hR1d] at h ⊢; exact again hcl1 h
    rw [hR1d] at HA3 hmemR hsubR hsrt hs1 hs1' hR1 ⊢
    have HAg := Lib.hid hag
    clear hag hR1d hP1 hcl1
    have hl1 : R1.length ≤ 16 := by omega
    go_wp2_with fail
    with_reducible refine HA3.out.mono ?_
    rintro e W4 ⟨hb4, ⟨c4, hc4, hx4, rfl⟩ | ⟨out2, v2, hok2, hP2, hcl2, rfl, hs2⟩⟩
    · exfalso
      rcases hx4 with h | h
      · exact h hok1
      · exact h hsubR
    · have hr2 := HAg.out out2 hP2
      rw [hr2] at hs2
      have hbw4 := hbw3.trans (hb4.mono hwz3)
      have hs1w : Sl W4 (· < W4.heap.size) dStr R1 (.slice A1 R1.length cc1) := sl_lt (hs1'.below (fun _ h => h) hb4)
      have hCh4 := hCh.below (fun _ h => h) hbw4
      have hRl : R1.length ≤ 9223372036854775807 := by omega
      obtain ⟨A2, cc2, rfl, _⟩ := hs2.form
      clear hN3 hI3 hs1 hN2 hI2 hCh2 HA3
      go_wp2_with fail
      go_loopw [51] (fun i wr => ∃ k : Nat, k ≤ Ch.length ∧ i = .int .i64 k ∧ W4 = wr) (fun i _ => Ch.length - (intOf i).toNat)
      case atStart => exact ⟨0, Nat.zero_le _, rfl, rfl⟩
      case round =>
        obtain ⟨k, hk, rfl, rfl⟩ := hrel
        by_cases hlt : k < Ch.length
        · obtain ⟨g, off, rfl, _, d0, _⟩ := dStr.get hCh4 hlt
          have HC := Lib.hid (strContains R1 Ch[k] _ _ W4 hs1w)
          have hin : R1.any (fun y => decide (Ch[k] = y)) = true := isIn_iff.2 (hmemR _ (List.getElem_mem hlt))
          rw [hin] at HC
          have k0 : (0 : Int) ≤ (k : Int) := by omega
          have k1 : (k : Int) < (Ch.length : Int) := by omega
          clear hin
          go_wp2_with fail
          with_reducible refine HC.out.mono ?_
          rintro e w5 ⟨rfl, rfl⟩
          go_wp2_with fail
          go_roundw
          case rel => exact ⟨k + 1, by omega, by go_num, by trivial⟩
          case measure => simp [intOf]; omega
        · have k1 : ¬ (k : Int) < (Ch.length : Int) := by omega
          have HE := Lib.hid ((strEqual R1 R1 _ _ _ _ W4 hs1w hs2).mono (R' := fun e w' => e = .returned (.bool true) ∧ Below W4.heap.size W4 w') fun e w' ⟨he, hw⟩ => ⟨by rw [he]; exact ret_bool (decide_eq_true rfl), hw⟩)
          have HSr := Lib.hid (fun (W : World) (hb : Below W4.heap.size W4 W) => strSorted R1 _ _ W (hs1w.later hb) hsrt)
          go_wp2_with fail
          with_reducible refine HE.out.mono ?_
          rintro e w5 ⟨rfl, hb5⟩
          have HS5 := Lib.hid (HSr.out w5 hb5)
          go_wp2_with fail
          with_reducible refine HS5.out.mono ?_
          rintro e w6 ⟨rfl, hb6⟩
          go_wp2_with fail
          go_ret
          have b5 := hbw4.trans (hb5.mono hbw4.size)
          exact ⟨rfl, b5.trans (hb6.mono b5.size)⟩

theorem laid : laidOutB Try.prog = true := by kernel_rfl

set_option maxRecDepth 100000 in
theorem lifted (os : Os) (started : os.Started) (H : Type) (enc : TypeId × Value → H) :
    ReturnsInHanded {} Try.checked os 3 .any (Rows.modulesAffectedSpec.pre6 enc Try.prog Try.f3 Rows.modulesAffectedRow.domain false) (Rows.modulesAffectedSpec.post enc Try.prog Try.f3 false true false false) := by
  refine returnsInHanded_of_change_sized (C := Try.checked) own started (by kernel_rfl) Try.func3
    (ChangeSpec.witness6 (enc := enc) (C := Try.checked) false ⟨#[], #[.slice none 0 0, .slice none 0 0, .slice none 0 0], []⟩ 8 (by kernel_rfl) (by kernel_rfl) (by kernel_rfl) (by kernel_rfl)) ?_
  intro W base args ds gs before hval0 hW hcnd hsz0 _
  have hval : ∀ (j : Nat) t v, Try.f3.params[j]? = some t → args[j]? = some v → Value.okWide Try.prog W .any base t v := hval0
  have hW' := hW
  obtain ⟨p, q, hA0, hV, hbef, hfz, hnd⟩ := hW
  have hA : DataW.TrodAll enc Try.prog W 0 (fun _ => true) true Try.f3.params.toList args.toList ds p := hA0
  have hsz : (DataW.weightsEach Try.prog (Try.f3.params.toList ++ Rows.modulesAffectedSpec.plain.varTypes Try.prog) (ds ++ gs)).all (· ≤ reachBytes) = true := hsz0
  rw [Try.params3] at hA hval hsz
  obtain ⟨v0, vs0, d0, ds0, p0, q0, hargs, hds, rfl, h0, r0⟩ := trodAll_cons hA
  obtain ⟨v1, vs1, d1, ds1, p1, q1, rfl, rfl, rfl, h1, r1⟩ := trodAll_cons r0
  obtain ⟨v2, vs2, d2, ds2, p2, q2, rfl, rfl, rfl, h2, r2⟩ := trodAll_cons r1
  obtain ⟨rfl, rfl, rfl⟩ := trodAll_nil r2
  obtain rfl : args = #[v0, v1, v2] := by cases args; simp_all
  obtain ⟨rfl, _⟩ := trodVars_none hV
  subst hds
  obtain ⟨a0, s0⟩ := sl_of_arg (f := dStr) (k := 1) Try.underlying22 (by kernel_rfl) (by decide) (fun _ _ _ h => dStr.of_trod Try.underlying9 h) (hval 0 22 v0 rfl rfl) h0
  obtain ⟨a1, s1⟩ := sl_of_arg (f := dStrs) (k := 1) Try.underlying23 (by kernel_rfl) (by decide) (fun _ _ _ h => sl_of_trod (f := dStr) (k := 1) Try.underlying22 (by kernel_rfl) (by decide) (fun _ _ _ h => dStr.of_trod Try.underlying9 h) h) (hval 1 23 v1 rfl rfl) h1
  obtain ⟨a2, s2, b2⟩ := sl_of_arg_sized (f := dStr) (k := 1) Try.underlying22 (by kernel_rfl) (by decide) (fun _ _ _ h => dStr.of_trod Try.underlying9 h) (hval 2 22 v2 rfl rfl) h2 (weight_at hsz (j := 2) rfl rfl)
  rw [show Try.prog.bytesOf 9 = 16 from by kernel_rfl] at b2
  refine (walk a0 a2 a1 v0 v1 v2 W s0 s1 s2 b2).mono fun e W' ⟨he, hb⟩ => ?_
  subst he
  exact ⟨_, rfl, law_post laid (by kernel_rfl) rfl Try.underlying4 rfl rfl rfl rfl hW' hb⟩

theorem over : Rows.modulesAffectedRow.holds Try.pinned (OpenSpec.ofChange Rows.modulesAffectedSpec) :=
  OpenClaim.holds_of_wide 3 Try.f3 rfl rfl rfl rfl rfl rfl rfl ⟨rfl, rfl, rfl, rfl, rfl⟩ rfl rfl rfl rfl rfl (by kernel_rfl) Try.func3 (by kernel_rfl)
    (of_decide_eq_true (by kernel_rfl)) (by unfold Func.isWrapper; first | (rw [if_pos (by decide +kernel)]; kernel_rfl) | (rw [if_neg (by decide +kernel)]; exact ⟨rfl, rfl⟩))
    (fun os started H enc _ => lifted os started H enc)

theorem proved : Rows.ModulesAffectedSaid :=
  over
#print axioms proved
end Go.Proofs.Ytlpbkhiaknmjkaa.modulesAffected
