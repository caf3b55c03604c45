/- modules: what Check's answer says, and how long the lists get; lists of strings in memory. -/
import Derived.Test.YtldflgianmmaeaaCyc
namespace Go.Proofs.Ytldflgianmmaeaa
open Go Go.RowKit Go.Shelf

theorem rpAll_strs_any {W : World} {F G : Nat → Prop} : ∀ {l : List ByteArray} {xs : List Value}, RpAll W F (l.map dStr) xs → RpAll W G (l.map dStr) xs
  | [], _, h => by simpa [RpAll] using h
  | y :: t, xs, h => by
    rw [List.map_cons, rpAll_cons] at h ⊢
    obtain ⟨a, b, e, h1, h2⟩ := h
    exact ⟨a, b, e, rp_str.2 (rp_str.1 h1), rpAll_strs_any h2⟩
/-- A slice of strings lies in blocks that are there. -/
theorem sl_lt {W : World} {F : Nat → Prop} {l : List ByteArray} {v : Value} (h : Sl W F dStr l v) : Sl W (· < W.heap.size) dStr l v := by
  unfold Sl at h ⊢
  simp only [Rp, List.length_map] at h ⊢
  obtain ⟨A', c', e, q1, q2, q3, q4⟩ := h
  refine ⟨A', c', e, q1, q2, q3, fun hne => ?_⟩
  obtain ⟨gg, off, xs, e1, _, e3, e4⟩ := q4 hne
  refine ⟨gg, off, xs, e1, ?_, rpAll_strs_any e3, e4⟩
  cases l with
  | nil => exact absurd rfl hne
  | cons y t =>
    rw [List.map_cons, rpAll_cons] at e3
    obtain ⟨a, b, rfl, h1, _⟩ := e3
    have h1' : a = [Value.string y] := (rp_str.1 h1).1
    subst h1'
    exact block_lt_of_cell (e4 0 _ rfl)
theorem sl_blk {W : World} {g : Nat} {t : TypeId} {l : List ByteArray} (h : Blk W g t (l.map Value.string)) (hs : ∀ y ∈ l, y.size ≤ maxLen) (hl : l.length ≤ maxLen) (F : Nat → Prop) (hF : F g) : Sl W F dStr l (.slice (some ⟨g, 0, none⟩) l.length l.length) := by
  unfold Sl
  simp only [Rp, List.length_map]
  exact ⟨_, l.length, rfl, Nat.le_refl _, hl, (fun h => nomatch h), fun _ => ⟨g, 0, l.map Value.string, rfl, hF, rp_strs W l hs F, fun j u hj => by rw [Nat.zero_add]; exact h.cell hj⟩⟩
theorem sls_blk {W : World} {g : Nat} {t : TypeId} {L : List (List ByteArray)} {vs : List Value} (h : Blk W g t vs) (hl : L.length ≤ maxLen) (F : Nat → Prop) (hF : F g) (hr : RpAll W F (L.map dStrs) vs) : Sl W F dStrs L (.slice (some ⟨g, 0, none⟩) L.length L.length) := by
  unfold Sl
  simp only [Rp, List.length_map]
  exact ⟨_, L.length, rfl, Nat.le_refl _, hl, (fun h => nomatch h), fun _ => ⟨g, 0, vs, rfl, hF, hr, fun j u hj => by rw [Nat.zero_add]; exact h.cell hj⟩⟩

theorem mem_normB {out : List ByteArray} {x : ByteArray} : x ∈ normB out ↔ x ∈ out := by
  unfold normB
  rw [List.mem_map]
  constructor
  · rintro ⟨t, ht, rfl⟩
    obtain ⟨y, hy, rfl⟩ := List.mem_map.1 (mem_norm.1 ht)
    rw [toB_data]; exact hy
  · intro h
    exact ⟨x.data.toList, mem_norm.2 (List.mem_map.2 ⟨x, h, rfl⟩), toB_data x⟩
theorem normB_data (out : List ByteArray) : (normB out).map (·.data.toList) = norm (out.map (·.data.toList)) := by
  unfold normB
  rw [List.map_map]
  refine (List.map_congr_left (g := id) fun t _ => ?_).trans (List.map_id _)
  exact data_toB t
theorem normB_lt (out : List ByteArray) : ((normB out).map (·.data.toList)).Pairwise (· < ·) := by
  rw [normB_data]; exact norm_lt _
theorem normB_of_mem {a b : List ByteArray} (h : ∀ x, x ∈ a ↔ x ∈ b) : normB a = normB b := by
  unfold normB
  rw [norm_of_mem (a := a.map (·.data.toList)) (b := b.map (·.data.toList)) fun t => ?_]
  rw [List.mem_map, List.mem_map]
  constructor
  · rintro ⟨x, hx, e⟩; exact ⟨x, (h x).1 hx, e⟩
  · rintro ⟨x, hx, e⟩; exact ⟨x, (h x).2 hx, e⟩
theorem length_le_of : ∀ (R N : List T), R.Nodup → (∀ x ∈ R, x ∈ N) → R.length ≤ N.length
  | [], _, _, _ => Nat.zero_le _
  | x :: t, N, hn, h => by
    rw [List.nodup_cons] at hn
    have hx := h x (by simp)
    have := length_le_of t (N.erase x) hn.2 fun y hy => (List.mem_erase_of_ne (fun e => hn.1 (by rw [← e]; exact hy))).2 (h y (by simp [hy]))
    rw [List.length_erase_of_mem hx] at this
    have hp := List.length_pos_of_mem hx
    simp only [List.length_cons]; omega
theorem normB_length {out N : List ByteArray} (h : ∀ x ∈ out, x ∈ N) : (normB out).length ≤ N.length := by
  have := length_le_of ((normB out).map (·.data.toList)) (N.map (·.data.toList)) (List.Pairwise.imp (S := fun a b : T => a ≠ b) (fun {a b} hab e => List.lt_irrefl b (by rw [e] at hab; exact hab)) (normB_lt out)) fun t ht => by
    obtain ⟨x, hx, rfl⟩ := List.mem_map.1 ht
    exact List.mem_map.2 ⟨x, h x (mem_normB.1 hx), rfl⟩
  simpa using this


def total (I : List (List Bt)) : Nat := (I.map List.length).sum
theorem idx_from {x : Bt} : ∀ (l : List Bt) (k : Nat), x ∈ l → ∃ i : Nat, i < l.length ∧ idxFrom (fun y => decide (x = y)) l k = ((k + i : Nat) : Int) ∧ l[i]? = some x
  | [], _, h => by simp at h
  | y :: l, k, h => by
    by_cases e : x = y
    · exact ⟨0, by simp, by rw [idxFrom, if_pos (decide_eq_true e)]; rfl, by simp [e]⟩
    · obtain ⟨i, h1, h2, h3⟩ := idx_from l (k + 1) ((List.mem_cons.1 h).resolve_left e)
      exact ⟨i + 1, by simpa using h1, by rw [idxFrom, if_neg (by simpa using e), h2]; congr 1; omega, by simpa using h3⟩
theorem idx_of {x : Bt} {N : List Bt} (h : x ∈ N) : ∃ i : Nat, i < N.length ∧ idxInt (fun y => decide (x = y)) N = (i : Int) ∧ N[i]? = some x := by
  obtain ⟨i, h1, h2, h3⟩ := idx_from N 0 h
  exact ⟨i, h1, by unfold idxInt; rw [h2]; congr 1; omega, h3⟩
theorem dup_nodup : ∀ (l seen : List Bt), dupF seen l = false → l.Nodup ∧ ∀ x ∈ l, x ∉ seen
  | [], _, _ => ⟨List.nodup_nil, by simp⟩
  | x :: t, seen, h => by
    unfold dupF at h
    rw [Bool.or_eq_false_iff] at h
    obtain ⟨h1, h2⟩ := dup_nodup t (seen ++ [x]) h.2
    have hx : x ∉ seen := isIn_no.1 h.1
    refine ⟨List.nodup_cons.2 ⟨fun hm => h2 x hm (by simp), h1⟩, fun y hy => ?_⟩
    rcases List.mem_cons.1 hy with rfl | hy
    · exact hx
    · exact fun hs => h2 y hy (List.mem_append_left _ hs)

structure Okm (N : List Bt) (I : List (List Bt)) : Prop where
  small : N.length ≤ 16
  len : I.length = N.length
  nodup : N.Nodup
  sub : ∀ l ∈ I, ∀ m ∈ l, m ∈ N
theorem okm {N : List Bt} {I : List (List Bt)} (h : chkM N I = 0) : Okm N I := by
  unfold chkM at h
  split at h
  · omega
  · split at h
    · omega
    · split at h
      · omega
      · split at h
        · omega
        · rename_i h1 h2 h3 h4
          refine ⟨by omega, by simpa using h2, (dup_nodup N [] (by simpa using h3)).1, fun l hl m hm => ?_⟩
          have h5 : I.any (missB N) = false := by simpa using h4
          have h6 := (List.any_eq_false.1 h5) l hl
          have h7 : missB N l = false := by simpa using h6
          have h8 := (List.any_eq_false.1 h7) m hm
          exact isIn_iff.1 (show isIn N m = true by simpa [isIn] using h8)
theorem Okm.imp_mem {N : List Bt} {I : List (List Bt)} (h : Okm N I) {x : Bt} (hx : x ∈ N) : impOf N I x ∈ I := by
  obtain ⟨i, h1, h2, h3⟩ := idx_of hx
  unfold impOf
  rw [h2, Int.toNat_natCast, List.getD_eq_getElem?_getD, List.getElem?_eq_getElem (by rw [h.len]; exact h1)]
  exact List.getElem_mem _
theorem Okm.imp_in {N : List Bt} {I : List (List Bt)} (h : Okm N I) : ∀ x ∈ N, ∀ m ∈ impOf N I x, m ∈ N := fun _ hx m hm => h.sub _ (h.imp_mem hx) m hm
theorem Okm.imp_at {N : List Bt} {I : List (List Bt)} (h : Okm N I) {x : Bt} (hx : x ∈ N) : ∃ i : Nat, ∃ hi : i < I.length, idxInt (fun y => decide (x = y)) N = (i : Int) ∧ impOf N I x = I[i] := by
  obtain ⟨i, h1, h2, h3⟩ := idx_of hx
  refine ⟨i, by rw [h.len]; exact h1, h2, ?_⟩
  unfold impOf
  rw [h2, Int.toNat_natCast, List.getD_eq_getElem?_getD, List.getElem?_eq_getElem (by rw [h.len]; exact h1)]
  rfl
theorem Okm.imp_map {N : List Bt} {I : List (List Bt)} (h : Okm N I) : N.map (impOf N I) = I := by
  refine List.ext_getElem (by rw [List.length_map, h.len]) fun i h1 h2 => ?_
  rw [List.getElem_map]
  have hi : i < N.length := by simpa using h1
  obtain ⟨j, hj, _, e2⟩ := h.imp_at (List.getElem_mem hi)
  obtain ⟨j', hj', e1', e3⟩ := idx_of (List.getElem_mem (l := N) hi)
  have : j' = i := (List.getElem?_inj hj' h.nodup).1 (e3.trans (List.getElem?_eq_getElem hi).symm)
  subst this
  unfold impOf
  rw [e1', Int.toNat_natCast, List.getD_eq_getElem?_getD, List.getElem?_eq_getElem h2]
  rfl
theorem sum_le (g : Bt → Nat) : ∀ (N here : List Bt), here.Nodup → (∀ x ∈ here, x ∈ N) → (here.map g).sum ≤ (N.map g).sum
  | [], here, _, h => by
    cases here with
    | nil => simp
    | cons x t => exact absurd (h x (by simp)) (by simp)
  | a :: N, here, hn, h => by
    by_cases ha : a ∈ here
    · obtain ⟨u, v, rfl⟩ := List.append_of_mem ha
      have hn1 := List.nodup_append.1 hn
      have hn2 := List.nodup_cons.1 hn1.2.1
      have h2 := sum_le g N (u ++ v) (List.nodup_append.2 ⟨hn1.1, hn2.2, fun x hx y hy => hn1.2.2 x hx y (by simp [hy])⟩) fun x hx => by
        rcases List.mem_append.1 hx with hx | hx
        · rcases List.mem_cons.1 (h x (by simp [hx])) with rfl | h3
          · exact absurd rfl (hn1.2.2 x hx x (by simp))
          · exact h3
        · rcases List.mem_cons.1 (h x (by simp [hx])) with rfl | h3
          · exact absurd hx hn2.1
          · exact h3
      rw [List.map_append, List.sum_append] at h2
      rw [List.map_append, List.sum_append, List.map_cons, List.sum_cons, List.map_cons, List.sum_cons]
      omega
    · have h2 := sum_le g N here hn fun x hx => by
        rcases List.mem_cons.1 (h x hx) with rfl | h3
        · exact absurd hx ha
        · exact h3
      rw [List.map_cons, List.sum_cons]
      omega
theorem Okm.flat_le {N : List Bt} {I : List (List Bt)} (h : Okm N I) {here : List Bt} (hn : here.Nodup) (hs : ∀ x ∈ here, x ∈ N) : (here.flatMap (impOf N I)).length ≤ total I := by
  rw [List.length_flatMap]
  have h1 := sum_le (fun x => (impOf N I x).length) N here hn hs
  have h2 : (N.map fun x => (impOf N I x).length).sum = total I := by
    unfold total
    conv => rhs; rw [← h.imp_map, List.map_map]
    rfl
  omega
theorem Okm.one_le {N : List Bt} {I : List (List Bt)} (h : Okm N I) {x : Bt} (hx : x ∈ N) : (impOf N I x).length ≤ total I := by
  have := h.flat_le (here := [x]) (by simp) (by simpa using hx)
  simpa using this
theorem normB_nodup (l : List Bt) : (normB l).Nodup := by
  have h := normB_lt l
  rw [List.pairwise_map] at h
  exact h.imp (S := fun a b : Bt => a ≠ b) fun {a b} hab e => List.lt_irrefl b.data.toList (by rw [e] at hab; exact hab)
end Go.Proofs.Ytldflgianmmaeaa
