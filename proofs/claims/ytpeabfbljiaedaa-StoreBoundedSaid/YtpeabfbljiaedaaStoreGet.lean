/- store: New, Used, Get, Keys. -/
import Derived.Test.YtpeabfbljiaedaaStorePut
import Derived.LaidEqlPtr
import Derived.Lib.Builder
namespace Go.Proofs.Ytpeabfbljiaedaa
open Go.RowKit Go.Maps

theorem used_any (w : World) (B s g m n room : Nat) (L : List Nat) (r : Rg) (h : St w B s g m n room L r) :
    Calls Try.prog 23 #[.pointer (some ⟨s, 0, none⟩)] w fun e w' => e = .returned (.int .i64 (weight r L : Nat)) ∧ w = w' := by
  have d1 := h.cell.cell (i := 1) rfl
  go_enter Try.func23, Try.ntmps23
  go_wp2_with fail
  go_ret
  exact ⟨rfl, rfl⟩

set_option maxHeartbeats 1000000 in
theorem get_any (w : World) (B s g m n room : Nat) (P Q : List Nat) (x : Nat) (r : Rg) (h : St w B s g m n room (P ++ x :: Q) r) (k : ByteArray) (hkx : r.key x = k) :
    Calls Try.prog 22 #[.pointer (some ⟨s, 0, none⟩), .string k] w fun e w' => e = .returned (.tuple #[.string (r.val x), .int .i64 0]) ∧
      St w' B s g m n room (x :: (P ++ Q)) ((r.out x).front g x) ∧ Keeps (Mine s m (g :: (P ++ x :: Q))) w w' := by
  obtain ⟨F, hm, ht⟩ := h.tied
  have hxL : x ∈ P ++ x :: Q := by simp
  have hsz := h.size_of hxL
  have hfit := h.fits
  have hsm := h.small
  have hlook := hm.look k (by rw [← hkx]; unfold maxLen; omega)
  rw [(ht k x).2 ⟨hxL, hkx⟩] at hlook
  unfold ptrV at hlook
  have d3 := h.cell.cell (i := 3) rfl
  obtain ⟨A, a, c, C, hA, hC, ha, hc⟩ := ring_near h.ring
  have h2 : r.lat x ∈ g :: (P ++ x :: Q) := by
    have : a ∈ g :: P := by rw [hA]; simp
    rw [ha]; rcases List.mem_cons.1 this with h | h <;> simp [h]
  have h3 : r.old x ∈ g :: (P ++ x :: Q) := by
    have : c ∈ Q ++ [g] := by rw [hC]; simp
    rw [hc]; rcases List.mem_append.1 this with h | h
    · simp [h]
    · simp at h; simp [h]
  clear hA hC ha hc
  have hring1 := ring_out h.ring
  have hnd := h.ring.2
  have hxg : x ∉ g :: (P ++ Q) := fun hb => by
    simp only [List.nodup_cons, List.mem_append, List.mem_cons, not_or, List.nodup_append] at hnd
    simp only [List.mem_cons, List.mem_append] at hb
    rcases hb with hb | hb | hb
    · exact hnd.1.2.1 hb.symm
    · exact hnd.2.2.2 x hb x (.inl rfl) rfl
    · exact hnd.2.2.1.1 hb
  have hsub : ∀ b ∈ g :: (P ++ Q), b ∈ g :: (P ++ x :: Q) := fun b hb => by
    simp only [List.mem_cons, List.mem_append] at hb ⊢
    rcases hb with hb | hb | hb <;> simp [hb]
  have hsS := h.out_
  have hsx : s ≠ x := fun e => hsS (by simp [e])
  have HO := Lib.hid (out_any r (g :: (P ++ x :: Q)) x w h.nodes (by simp) h2 h3)
  have hmS : m ∉ g :: (P ++ x :: Q) := fun hb => hm.ne_blk (h.nodes m hb) rfl
  go_enter Try.func22, Try.ntmps22
  go_wp2_with fail
  with_reducible refine HO.out.mono ?_
  rintro e w1 ⟨rfl, hn1, hk1⟩
  have hB1 := h.cell.keeps hk1 hsS
  have hx1 := hn1 x (by simp)
  have HF := Lib.hid (front_any (r.out x) (g :: (P ++ Q)) s g x _ _ _ _ _ w1 hB1 (hn1.sub hsub) (by simp) hx1 hxg (ring_first hring1) (fun hb => hsS (hsub _ hb)) hsx)
  go_wp2_with fail
  with_reducible refine HF.out.mono ?_
  rintro e w2 ⟨rfl, hn2, hk2⟩
  have hx2 := (hn2 x (by simp)).cell (i := 1) rfl
  have ev : ((r.out x).front g x).val x = r.val x := rfl
  rw [ev] at hx2
  go_wp2_with fail
  go_ret2
  have hsub2 : ∀ b ∈ x :: g :: (P ++ Q), b ∈ g :: (P ++ x :: Q) := fun b hb => by
    rcases List.mem_cons.1 hb with hb | hb
    · simp [hb]
    · exact hsub b hb
  have hw : weight ((r.out x).front g x) (x :: (P ++ Q)) = weight r (P ++ x :: Q) := by
    rw [weight_mid, weight_cons]
    have e1 : weight ((r.out x).front g x) (P ++ Q) = weight r (P ++ Q) := weight_same _ (fun b _ => ⟨rfl, rfl⟩)
    rw [e1]
    rfl
  have hl := h.len
  refine ⟨rfl, ⟨?_, hn2.sub ?_, ring_front hring1 hxg, ⟨F, (hm.keeps hk1 hmS).keeps hk2 (fun hb => hmS (hsub2 _ hb)), ?_⟩, ?_, hsm, ?_, ?_⟩, ?_⟩
  · rw [hw]; exact hB1.keeps hk2 (fun hb => hsS (hsub2 _ hb))
  · intro b hb; simp at hb ⊢; rcases hb with h | h | h | h <;> simp [h]
  · intro k' b
    rw [ht]
    show _ ↔ _ ∧ r.key b = k'
    constructor
    · rintro ⟨hb, e⟩; exact ⟨by simp at hb ⊢; rcases hb with h | h | h <;> simp [h], e⟩
    · rintro ⟨hb, e⟩; exact ⟨by simp at hb ⊢; rcases hb with h | h | h <;> simp [h], e⟩
  · rw [hw]; exact hfit
  · rintro b (hb | hb | hb)
    · exact h.low b (.inl hb)
    · exact h.low b (.inr (.inl hb))
    · exact h.low b (.inr (.inr (by simp at hb ⊢; rcases hb with h | h | h | h <;> simp [h])))
  · simp at hl ⊢; omega
  · exact (hk1.mono (fun i _ hi => .inr (.inr hi))).trans hk2 (fun i _ hi => .inr (.inr (hsub2 i hi)))

theorem infoItemSize : (Try.prog.info? 78).map (·.size) = some 4 := by kernel_rfl
theorem neq_ptr_other {W : World} (x a : Nat) (hne : x ≠ a) {cx ca : List Value} (hx : Blk W x 78 cx) (ha : Blk W a 78 ca) :
    (binOp .neq 76 (.pointer (some ⟨x, 0, none⟩)) (.pointer (some ⟨a, 0, none⟩))).run Try.prog W = .ok (.bool true) W := by
  obtain ⟨j, hj, hjs⟩ := Option.map_eq_some_iff.1 infoItemSize
  have hsz : j.size ≠ 0 := by rw [hjs]; decide
  have hn : (⟨x, 0, none⟩ : Addr) ≠ ⟨a, 0, none⟩ := fun e => hne (by injection e)
  have h : ∀ d : Nat, (Op.equalIn (d + 1) 76 (.pointer (some ⟨x, 0, none⟩)) (.pointer (some ⟨a, 0, none⟩))).run Try.prog W = .ok false W := fun d => by
    simp [Op.equalIn, run_underlying Try.underlying76, sizeOf, typeInfo, hj, hsz, run_sameAddr_other W hn hx ha]
  simp only [binOp]
  simp [Op.equal, Op.maxDepth, h 9999]
theorem neq_ptr_same {W : World} (x : Nat) : (binOp .neq 76 (.pointer (some ⟨x, 0, none⟩)) (.pointer (some ⟨x, 0, none⟩))).run Try.prog W = .ok (.bool false) W := by
  obtain ⟨j, hj, hjs⟩ := Option.map_eq_some_iff.1 infoItemSize
  exact Go.Lib.run_neq_ptr_same W _ Try.underlying76 hj

theorem chain_get {r : Rg} : ∀ (l : List Nat), Chain r l → ∀ i (h : i + 1 < l.length), r.old l[i] = l[i + 1]
  | [], _, i, h => by simp at h
  | [a], _, i, h => by simp at h
  | a :: b :: t, hc, i, h => by
    rw [chain_two] at hc
    cases i with
    | zero => exact hc.1.1
    | succ i => exact chain_get (b :: t) hc.2 i (by simpa using h)

set_option maxRecDepth 100000 in
set_option maxHeartbeats 1000000 in
theorem keys_any (w : World) (B s g m n room : Nat) (L : List Nat) (r : Rg) (h : St w B s g m n room L r) (hn16 : n * 16 ≤ 140737488351232) :
    Calls Try.prog 24 #[.pointer (some ⟨s, 0, none⟩)] w fun e w' => ∃ A, e = .returned (.slice A L.length L.length) ∧ Sl w' (fun b => w.heap.size ≤ b) dStr (L.map r.key) (.slice A L.length L.length) ∧ Below w.heap.size w w' := by
  obtain ⟨i0, hi0, hz0, hz1, hz2⟩ := info_parts infoStr
  have hlen := h.len
  have d2 := h.cell.cell (i := 2) rfl
  have hg3 := (h.nodes g (by simp)).cell (i := 3) rfl
  obtain ⟨N, hN⟩ : ∃ N, L ++ [g] = N := ⟨_, rfl⟩
  have hNl : N.length = L.length + 1 := by rw [← hN]; simp
  have hch := h.ring.1
  rw [show g :: L ++ [g] = g :: N by rw [← hN]; simp] at hch
  have hN0 : r.old g = N[0]'(by omega) := chain_get (g :: N) hch 0 (by simp; omega)
  have hNs : ∀ i (hi : i < L.length), r.old (N[i]'(by omega)) = N[i + 1]'(by omega) := fun i hi => chain_get (g :: N) hch (i + 1) (by simp; omega)
  have hNL : ∀ i (hi : i < L.length), N[i]'(by omega) = L[i] := fun i hi => by subst hN; rw [List.getElem_append_left hi]
  have hNe : N[L.length]'(by omega) = g := by subst hN; simp
  have hgL : ∀ i (hi : i < L.length), L[i] ≠ g := fun i hi e => (List.nodup_cons.1 h.ring.2).1 (by rw [← e]; exact List.getElem_mem hi)
  rw [hN0] at hg3
  have HNs := Lib.hid hNs
  have HNL := Lib.hid hNL
  have HNe := Lib.hid hNe
  have HgL := Lib.hid hgL
  clear hN hch hN0 hNs hNL hNe hgL
  have hks : ∀ b ∈ L, (r.key b).size ≤ maxLen := fun b hb => by
    have h1 := h.size_of hb
    have h2 := h.fits
    have h3 := h.small
    unfold maxLen; omega
  go_enter Try.func24, Try.ntmps24
  go_wp2_with fail
  go_loopg [3, 4] L.length (fun q v3 v4 wr => ∃ (i : Nat) (hi : i < N.length), v4 = .pointer (some ⟨N[i], 0, none⟩) ∧ L.length ≤ i + q ∧ wr.ownsRow w.heap.size 9 1 v3 i (((L.take i).map r.key).map Value.string) ∧ Below w.heap.size w wr)
  case atStart => exact ⟨0, by omega, rfl, by omega, by simpa using World.ownsRow_nil w w.heap.size 9 1, Below.refl _ _⟩
  case round =>
    obtain ⟨i, hi, rfl, hq, hown, hb⟩ := hrel
    have hsr := h.later hb
    have e2 := hsr.cell.cell (i := 2) rfl
    by_cases hlt : i < L.length
    · obtain ⟨q', rfl⟩ : ∃ q', gk = q' + 1 := ⟨gk - 1, by omega⟩
      have hm := List.getElem_mem hlt
      have x0 := (h.nodes L[i] (List.mem_cons_of_mem _ hm)).cell (i := 0) rfl
      have x3 := (h.nodes L[i] (List.mem_cons_of_mem _ hm)).cell (i := 3) rfl
      have hyl := (h.nodes L[i] (List.mem_cons_of_mem _ hm)).lt
      have hyg := HgL.out i hlt
      have hkz := hks _ hm
      have e4 := HNs.out i hlt
      rw [HNL.out i hlt] at e4 ⊢
      rw [e4] at x3
      obtain ⟨y, hy⟩ : ∃ y, L[i] = y := ⟨_, rfl⟩
      obtain ⟨kx, hkx⟩ : ∃ kx, r.key L[i] = kx := ⟨_, rfl⟩
      have HT := Lib.hid (show (((L.take (i + 1)).map r.key).map Value.string) = (((L.take i).map r.key).map Value.string) ++ [.string kx] from by
        rw [List.take_succ_eq_append_getElem hlt, List.map_append, List.map_append, ← hkx]; rfl)
      rw [hkx] at x0 hkz
      rw [hy] at x0 x3 hyl hyg ⊢
      have hgr := hsr.nodes g (by simp)
      have hyr := hsr.nodes L[i] (List.mem_cons_of_mem _ hm)
      rw [hy] at hyr
      have hnq := neq_ptr_other y g hyg hyr hgr
      obtain ⟨z, hz⟩ : ∃ z, N[i + 1]'(by omega) = z := ⟨_, rfl⟩
      rw [hz] at x3
      have HZ := Lib.hid hz
      clear hy hkx e4 hm hz
      have y0 := (hb.cell (p := ⟨y, 0, none⟩) hyl).trans x0
      have y3 := (hb.cell (p := ⟨y, 3, none⟩) hyl).trans x3
      have hbz := hb.size
      have hil : i ≤ 9223372036854775806 := by omega
      go_wp2_with (at_builtin; refine wpList_append_lies _ rfl _ _ 31 rfl w.heap.size 9 i0 _ 1 16 Try.underlying31 hi0 hz0 hz1 hz2 rfl (by omega) u3 i _ rfl (World.ownsRow.alloc hown _) ⟨wr.heap.size, 0, none⟩ 1 1 [.string kx] rfl rfl (World.news_of_block (cs := #[.string kx]) (t := 9) (fr := (0, 0)) (heap_alloc_new _ _)) (by simp [Value.oneCell']) (by omega) (by unfold maxLen; omega) (by omega) (by simp; omega) (wr.heap.size + 1) (by simp) ?_; intro gg cap w1 hown1 hgrow hat hlt1; have hb1 : Below w.heap.size wr w1 := ((Keeps.refl (fun j => w.heap.size ≤ j) wr).alloc _ |>.grown hgrow (fun j hj _ => (hown.lt j hj).1)).below (fun j h => h) hbz; have z3 := (hb1.cell (p := ⟨y, 3, none⟩) hyl).trans y3)
      go_roundg q'
      case measure => omega
      case rel =>
        refine ⟨i + 1, by omega, ?_, by omega, ?_, hb.trans hb1⟩
        · rw [HZ.out]
        · rw [HT.out]; exact hown1
    · obtain rfl : i = L.length := by omega
      rw [List.take_length] at hown
      rw [HNe.out]
      have hnq := neq_ptr_same (W := wr) g
      have hbz := hb.size
      obtain ⟨A, c, rfl, hc1, hc2⟩ : ∃ A c, u3 = .slice A L.length c ∧ L.length ≤ c ∧ c ≤ maxLen := by
        rcases hown.2 with ⟨h1, h2⟩ | ⟨gg, cap, _, h1, _, _, h3⟩
        · exact ⟨none, 0, by rw [h1, h2], by omega, by unfold maxLen; omega⟩
        · exact ⟨some ⟨gg, 0, none⟩, cap, h1, h3.1, h3.2.1⟩
      have hsl : Sl wr (fun b => w.heap.size ≤ b) dStr (L.map r.key) (.slice A L.length c) := by
        have hrp : ∀ (l : List ByteArray), (∀ y ∈ l, y.size ≤ maxLen) → ∀ F : Nat → Prop, RpAll wr F (l.map dStr) (l.map Value.string) := by
          intro l
          induction l with
          | nil => intro _ F; simp [RpAll]
          | cons y l ih => intro hl F; rw [List.map_cons, rpAll_cons]; exact ⟨[.string y], l.map Value.string, rfl, rp_str.2 ⟨rfl, hl y (by simp)⟩, ih (fun z hz => hl z (by simp [hz])) F⟩
        exact Sl.of_own (F := fun _ => False) hown (by simp) (hrp _ (fun y hy => by obtain ⟨b, hb, rfl⟩ := List.mem_map.1 hy; exact hks b hb) _) (fun _ h => h.elim) (fun b hb => (hown.lt b hb).1)
      have HC := Lib.hid (strClip A L.length c wr hc1 hc2)
      go_wp2_with fail
      with_reducible refine HC.out.mono ?_
      rintro e w2 ⟨rfl, rfl⟩
      go_wp2
      go_ret
      have hsl2 : Sl wr (fun b => w.heap.size ≤ b) dStr (L.map r.key) (.slice A L.length L.length) := by
        unfold Sl at hsl ⊢
        simp only [Rp, List.length_map] at hsl ⊢
        obtain ⟨A', c', e, h1, h2, h3, h4⟩ := hsl
        simp only [List.cons.injEq, Value.slice.injEq, true_and, and_true] at e
        obtain ⟨rfl, rfl⟩ := e
        exact ⟨A, L.length, rfl, Nat.le_refl _, by omega, fun hA => by have := h3 hA; omega, h4⟩
      exact ⟨A, rfl, hsl2, hb⟩

set_option maxHeartbeats 1000000 in
theorem new_any (w : World) (room : Nat) (h : room ≤ 16777216) :
    Calls Try.prog 19 #[.int .i64 room] w fun e w' => ∃ s g m r, e = .returned (.tuple #[.pointer (some ⟨s, 0, none⟩), .int .i64 0]) ∧ St w' w.heap.size s g m 0 room [] r ∧ Below w.heap.size w w' := by
  have hmm := @run_makeMap Try.prog
  have q0 : (0 : Int) ≤ (room : Int) := by omega
  have q1 : (room : Int) ≤ 16777216 := by omega
  have hb := Blk.new w 78 [.string ⟨#[]⟩, .string ⟨#[]⟩, .pointer none, .pointer none]
  go_enter Try.func19, Try.ntmps19
  go_wp2_with fail
  go_ret2
  clear hb
  obtain ⟨o1, ho1⟩ : ∃ o1, o1 = Obj.cells #[.string ⟨#[]⟩, .string ⟨#[]⟩, .pointer (some ⟨w.heap.size, 0, none⟩), .pointer (some ⟨w.heap.size, 0, none⟩)] 78 := ⟨_, rfl⟩
  have e1 : (w.alloc o1).heap.size = w.heap.size + 1 := by simp
  have e2 : ((w.alloc o1).alloc (.map #[] 0)).heap.size = w.heap.size + 1 + 1 := by simp
  have h1 : Blk (w.alloc o1) w.heap.size 78 [.string ⟨#[]⟩, .string ⟨#[]⟩, .pointer (some ⟨w.heap.size, 0, none⟩), .pointer (some ⟨w.heap.size, 0, none⟩)] := by rw [ho1]; exact Blk.new _ _ _
  have h2 := MapIs.made (w.alloc o1)
  rw [e1] at h2
  have h3 := Blk.new ((w.alloc o1).alloc (.map #[] 0)) 81 [.int .i64 room, .int .i64 0, .pointer (some ⟨w.heap.size, 0, none⟩), .map (some (w.heap.size + 1))]
  rw [e2] at h3
  rw [← ho1]
  refine ⟨w.heap.size + 1 + 1, w.heap.size, w.heap.size + 1, ⟨fun _ => ⟨#[]⟩, fun _ => ⟨#[]⟩, fun _ => w.heap.size, fun _ => w.heap.size⟩, rfl, ⟨h3, ?_, ⟨?_, by simp⟩, ⟨fun _ => none, h2.alloc _, ?_⟩, by simp [weight], h, ?_, by simp⟩, ?_⟩
  · intro b hb
    simp only [List.mem_singleton] at hb
    subst hb
    exact (h1.alloc _).alloc _
  · simp [Chain]
  · intro k b; simp
  · rintro b (rfl | rfl | hb)
    · omega
    · omega
    · simp only [List.mem_singleton] at hb; omega
  · exact (((Below.refl _ w).alloc (Nat.le_refl _) _).alloc (by omega) _).alloc (by omega) _
end Go.Proofs.Ytpeabfbljiaedaa
