/- store: the state of a store (a ring of nodes, a map, the bytes in use), and how it turns. No program here but the map's own. -/
import Derived.Test.YtpeabfbljiaedaaStoreDrop
import Derived.Test.YtpeabfbljiaedaaStoreLib
namespace Go.Proofs.Ytpeabfbljiaedaa
open Go.RowKit Go.Maps

theorem Blk.ne_type {w : World} {g g' : Nat} {t t' : TypeId} {cs cs' : List Value} (h : Blk w g t cs) (h' : Blk w g' t' cs') (ht : t ≠ t') : g ≠ g' := by
  rintro rfl
  unfold Blk at h h'
  rw [h] at h'
  simp at h'
  exact ht h'.2

def weight (r : Rg) (L : List Nat) : Nat := (L.map fun b => (r.key b).size + (r.val b).size).sum
theorem weight_mid (r : Rg) (P : List Nat) (x : Nat) (Q : List Nat) : weight r (P ++ x :: Q) = weight r (P ++ Q) + ((r.key x).size + (r.val x).size) := by
  simp [weight]; omega
theorem weight_cons (r : Rg) (x : Nat) (Q : List Nat) : weight r (x :: Q) = weight r Q + ((r.key x).size + (r.val x).size) := weight_mid r [] x Q
theorem weight_same {r r' : Rg} : ∀ (L : List Nat), (∀ b ∈ L, r'.key b = r.key b ∧ r'.val b = r.val b) → weight r' L = weight r L
  | [], _ => rfl
  | x :: L, h => by rw [weight_cons, weight_cons, weight_same L (fun b hb => h b (by simp [hb])), (h x (by simp)).1, (h x (by simp)).2]

/-- The map holds just the keys of the list. -/
def Tied (F : ByteArray → Option Nat) (r : Rg) (L : List Nat) : Prop := ∀ k b, F k = some b ↔ (b ∈ L ∧ r.key b = k)
theorem tied_drop {F : ByteArray → Option Nat} {r r' : Rg} {P Q : List Nat} {x : Nat} (h : Tied F r (P ++ x :: Q)) (hn : (P ++ x :: Q).Nodup) (hk : r'.key = r.key) : Tied (setKey F (r.key x) none) r' (P ++ Q) := by
  intro k b
  rw [hk]
  have hx := (h (r.key x) x).2 ⟨by simp, rfl⟩
  have hnx : x ∉ P ++ Q := by
    rw [List.nodup_append] at hn
    obtain ⟨_, h2, h3⟩ := hn
    rw [List.nodup_cons] at h2
    intro hm
    rcases List.mem_append.1 hm with hm | hm
    · exact h3 x hm x (by simp) rfl
    · exact h2.1 hm
  by_cases e : k = r.key x
  · subst e
    rw [setKey_same]
    constructor
    · intro hh; cases hh
    · rintro ⟨hb, hkb⟩
      have h2 := (h (r.key x) b).2 ⟨by rcases List.mem_append.1 hb with hb | hb <;> simp [hb], hkb⟩
      rw [hx] at h2
      injection h2 with h2
      exact absurd (h2 ▸ hb) hnx
  · rw [setKey_other F e, h]
    constructor
    · rintro ⟨hb, hkb⟩
      refine ⟨?_, hkb⟩
      simp at hb ⊢
      rcases hb with hb | rfl | hb
      · exact .inl hb
      · exact absurd hkb.symm e
      · exact .inr hb
    · rintro ⟨hb, hkb⟩
      exact ⟨by rcases List.mem_append.1 hb with hb | hb <;> simp [hb], hkb⟩
theorem tied_add {F : ByteArray → Option Nat} {r r' : Rg} {L : List Nat} {x : Nat} {k0 : ByteArray} (h : Tied F r L) (hk0 : r'.key x = k0) (hk : ∀ b ∈ L, r'.key b = r.key b) (hx : x ∉ L) (hno : ∀ b ∈ L, r.key b ≠ k0) : Tied (setKey F k0 (some x)) r' (x :: L) := by
  intro k b
  by_cases e : k = k0
  · subst e
    rw [setKey_same]
    constructor
    · intro hh; injection hh with hh; subst hh; exact ⟨by simp, hk0⟩
    · rintro ⟨hb, hkb⟩
      rcases List.mem_cons.1 hb with rfl | hb
      · rfl
      · rw [hk b hb] at hkb; exact absurd hkb (hno b hb)
  · rw [setKey_other F e, h]
    constructor
    · rintro ⟨hb, hkb⟩; exact ⟨by simp [hb], by rw [hk b hb]; exact hkb⟩
    · rintro ⟨hb, hkb⟩
      rcases List.mem_cons.1 hb with rfl | hb
      · exact absurd (hkb.symm.trans hk0) e
      · exact ⟨hb, by rw [← hk b hb]; exact hkb⟩

structure St (w : World) (B s g m n : Nat) (room : Nat) (L : List Nat) (r : Rg) : Prop where
  cell : Blk w s 81 [.int .i64 room, .int .i64 (weight r L : Nat), .pointer (some ⟨g, 0, none⟩), .map (some m)]
  nodes : Nodes w (g :: L) r
  ring : Ringed r g L
  tied : ∃ F, MapIs w m n F ∧ Tied F r L
  fits : weight r L ≤ room
  small : room ≤ 16777216
  low : ∀ b, Mine s m (g :: L) b → B ≤ b
  len : L.length ≤ n

section
variable {w w' : World} {B s g m n room : Nat} {L : List Nat} {r : Rg}
theorem St.out_ (h : St w B s g m n room L r) : s ∉ g :: L := fun hs => (h.cell.ne_type (h.nodes s hs) (by decide)) rfl
theorem St.mine_lt (h : St w B s g m n room L r) : ∀ b, Mine s m (g :: L) b → b < w.heap.size := by
  obtain ⟨F, hm, _⟩ := h.tied
  rintro b (rfl | rfl | hb)
  · exact h.cell.lt
  · exact hm.lt
  · exact (h.nodes b hb).lt
theorem St.keeps {X : Nat → Prop} (h : St w B s g m n room L r) (hk : Keeps X w w') (hX : ∀ b, Mine s m (g :: L) b → ¬ X b) : St w' B s g m n room L r := by
  obtain ⟨F, hm, ht⟩ := h.tied
  exact ⟨h.cell.keeps hk (hX s (.inl rfl)), h.nodes.keeps hk (fun b hb => hX b (.inr (.inr hb))), h.ring, ⟨F, hm.keeps hk (hX m (.inr (.inl rfl))), ht⟩, h.fits, h.small, h.low, h.len⟩
theorem St.later (h : St w B s g m n room L r) (hb : Below w.heap.size w w') : St w' B s g m n room L r := h.keeps (X := fun _ => False) (Keeps.of_below hb) (fun _ _ h => h)
theorem St.mono (h : St w B s g m n room L r) {n' : Nat} (hn : n ≤ n') : St w B s g m n' room L r := by
  obtain ⟨F, hm, ht⟩ := h.tied
  exact ⟨h.cell, h.nodes, h.ring, ⟨F, hm.mono hn, ht⟩, h.fits, h.small, h.low, Nat.le_trans h.len hn⟩
theorem St.size_of (h : St w B s g m n room L r) {b : Nat} (hb : b ∈ L) : (r.key b).size + (r.val b).size ≤ weight r L := by
  obtain ⟨P, Q, rfl⟩ := List.append_of_mem hb
  rw [weight_mid]; omega
end

/-- drop on the state. -/
theorem drop_st {w : World} {B s g m n room : Nat} {P Q : List Nat} {x : Nat} {r : Rg} (h : St w B s g m n room (P ++ x :: Q) r) :
    Calls Try.prog 40 #[.pointer (some ⟨s, 0, none⟩), .pointer (some ⟨x, 0, none⟩)] w fun e w' => e = .returned (.tuple #[]) ∧ St w' B s g m n room (P ++ Q) (r.out x) ∧ Keeps (Mine s m (g :: (P ++ x :: Q))) w w' := by
  obtain ⟨F, hm, ht⟩ := h.tied
  have hx : x ∈ P ++ x :: Q := by simp
  have hsz := h.size_of hx
  have hf := h.fits
  have hsm := h.small
  obtain ⟨A, a, c, C, hA, hC, ha, hc⟩ := ring_near h.ring
  have h2 : r.lat x ∈ g :: (P ++ x :: Q) := by
    have : a ∈ g :: P := by rw [hA]; simp
    rw [ha]; rcases List.mem_cons.1 this with h | h <;> simp [h]
  have h3 : r.old x ∈ g :: (P ++ x :: Q) := by
    have : c ∈ Q ++ [g] := by rw [hC]; simp
    rw [hc]; rcases List.mem_append.1 this with h | h
    · simp [h]
    · simp at h; simp [h]
  refine (drop_any r (g :: (P ++ x :: Q)) s g m n x (weight r (P ++ x :: Q) : Nat) F (.int .i64 room) w h.cell h.nodes hm (by simp) h2 h3 h.out_ (by unfold maxLen; omega) (by omega) (by omega)).mono ?_
  rintro e w' ⟨rfl, r1, r2, r3, r4⟩
  have hnd := (List.nodup_cons.1 h.ring.2).2
  have hw := weight_mid r P x Q
  have hw2 : weight (r.out x) (P ++ Q) = weight r (P ++ Q) := weight_same _ (fun b _ => ⟨rfl, rfl⟩)
  have hl := h.len
  refine ⟨rfl, ⟨?_, r2.sub ?_, ring_out h.ring, ⟨_, r3, tied_drop ht hnd rfl⟩, by omega, hsm, ?_, ?_⟩, r4⟩
  · rw [hw2]
    have e : ((weight r (P ++ x :: Q) : Nat) : Int) - (((r.key x).size : Int) + (r.val x).size) = (weight r (P ++ Q) : Nat) := by omega
    rw [← e]; exact r1
  · intro b hb
    simp at hb ⊢
    rcases hb with hb | hb | hb <;> simp [hb]
  · rintro b (hb | hb | hb)
    · exact h.low b (.inl hb)
    · exact h.low b (.inr (.inl hb))
    · exact h.low b (.inr (.inr (by simp at hb ⊢; rcases hb with hb | hb | hb <;> simp [hb])))
  · simp at hl ⊢; omega
end Go.Proofs.Ytpeabfbljiaedaa
