/- store.Put: what it removes, and what it holds behind it. -/
import Derived.Test.YtpeabfbljiaedaaStoreState
import Derived.Test.YtpeabfbljiaedaaSlices
import Derived.Deep.AppendLies
import Derived.Deep.LoopGhost
import Derived.Deep.DeepCutAuto
import Derived.StillTailTactics
namespace Go.Proofs.Ytpeabfbljiaedaa
open Go.RowKit Go.Maps

theorem infoStr : (Try.prog.info? 9).map (fun i => (i.zero, i.size, i.bytes)) = some (some (.string ⟨#[]⟩), 1, 16) := by kernel_rfl
theorem ring_last {r : Rg} {g x : Nat} {P : List Nat} (h : Ringed r g (P ++ [x])) : r.lat g = x := by
  have h1 := h.1
  rw [show g :: (P ++ [x]) ++ [g] = (g :: P) ++ x :: [g] by simp, chain_split, chain_two] at h1
  exact h1.2.1.2

theorem ring_first {r : Rg} {g : Nat} {L : List Nat} (h : Ringed r g L) : r.old g ∈ g :: L := by
  have h1 := h.1
  cases L with
  | nil => simp only [List.cons_append, List.nil_append, chain_two] at h1; rw [h1.1.1]; simp
  | cons x L => simp only [List.cons_append, chain_two] at h1; rw [h1.1.1]; simp

theorem put_full (w : World) (B s g m n room : Nat) (L : List Nat) (r : Rg) (h : St w B s g m n room L r) (k v : ByteArray) (hk : k.size ≤ 140737488355328) (hv : v.size ≤ 140737488355328) (hbig : room < k.size + v.size) :
    Calls Try.prog 20 #[.pointer (some ⟨s, 0, none⟩), .string k, .string v] w fun e w' => e = .returned (.tuple #[.slice none 0 0, .int .i64 16]) ∧ w = w' := by
  have d0 := h.cell.cell (i := 0) rfl
  have q0 : (0 : Int) ≤ (k.size : Int) + v.size := by omega
  have q1 : (k.size : Int) + v.size ≤ 281474976710656 := by omega
  have q2 : (room : Int) < (k.size : Int) + v.size := by omega
  go_enter Try.func20, Try.ntmps20
  go_wp2_with fail
  go_ret2
  exact ⟨rfl, rfl⟩

def PutPost (w : World) (B s g m n room : Nat) (L : List Nat) (k v : ByteArray) (e : Ending) (w' : World) : Prop :=
  ∃ (gv : Value) (G : List ByteArray), e = .returned (.tuple #[gv, .int .i64 0]) ∧ w'.ownsRow w.heap.size 9 1 gv G.length (G.map Value.string) ∧ (∀ y ∈ G, y ≠ k ∧ y.size ≤ maxLen) ∧
    ∃ x L1 r1, St w' B s g m (n + 1) room (x :: L1) r1 ∧ r1.key x = k ∧ r1.val x = v ∧ Keeps (Mine s m (g :: L)) w w'

set_option maxRecDepth 100000 in
set_option maxHeartbeats 2000000 in
theorem put_any (w : World) (B s g m n room : Nat) (L : List Nat) (r : Rg) (h : St w B s g m n room L r) (k v : ByteArray) (hfit : k.size + v.size ≤ room) (hn16 : n * 16 ≤ 140737488351232) :
    Calls Try.prog 20 #[.pointer (some ⟨s, 0, none⟩), .string k, .string v] w (PutPost w B s g m n room L k v) := by
  obtain ⟨i0, hi0, hz0, hz1, hz2⟩ := info_parts infoStr
  have hsm := h.small
  have d0 := h.cell.cell (i := 0) rfl
  have d3 := h.cell.cell (i := 3) rfl
  have q0 : (0 : Int) ≤ (k.size : Int) + v.size := by omega
  have q1 : (k.size : Int) + v.size ≤ 16777216 := by omega
  have q2 : (k.size : Int) + v.size ≤ room := by omega
  obtain ⟨F, hm, ht⟩ := h.tied
  have hlook := hm.look k (by unfold maxLen; omega)
  obtain ⟨fk, hfk⟩ : ∃ fk, F k = fk := ⟨_, rfl⟩
  rw [hfk] at hlook
  have Hfk := Lib.hid hfk
  clear hfk
  go_enter Try.func20, Try.ntmps20
  cases fk
  case' none =>
    obtain ⟨wc, hwc⟩ : ∃ wc : World, wc = w := ⟨_, rfl⟩
    obtain ⟨L1, hL1⟩ : ∃ L1, L1 = L := ⟨_, rfl⟩
    obtain ⟨r1, hr1⟩ : ∃ r1, r1 = r := ⟨_, rfl⟩
    have hst : St wc B s g m n room L1 r1 := by rw [hwc, hL1, hr1]; exact h
    have hno : ∀ b ∈ L1, r1.key b ≠ k := fun b hb e => by
      rw [hL1] at hb; rw [hr1] at e
      have := (ht k b).2 ⟨hb, e⟩
      rw [Hfk.out] at this
      cases this
    have hsub : ∀ b ∈ L1, b ∈ L := fun b hb => by rw [← hL1]; exact hb
    have hkc : Keeps (Mine s m (g :: L)) w wc := by rw [hwc]; exact Keeps.refl _ _
    have HW := Lib.hid hwc
    clear hwc hL1 hr1
    unfold ptrV at hlook
    go_wp2_with fail
    rw [← HW.out]
  case' some b =>
    obtain ⟨hbL, hbk⟩ := (ht k b).1 Hfk.out
    obtain ⟨P, Q, hPQ⟩ := List.append_of_mem hbL
    have hD := Lib.hid (drop_st (by rw [hPQ] at h; exact h))
    have hnd := (List.nodup_cons.1 h.ring.2).2
    unfold ptrV at hlook
    go_wp2_with fail
    with_reducible refine hD.out.mono ?_
    rintro e wc ⟨rfl, hst, hkc⟩
    rw [← hPQ] at hkc
    have hno : ∀ y ∈ P ++ Q, (r.out b).key y ≠ k := fun y hy e => by
      have hyL : y ∈ L := by rw [hPQ]; rcases List.mem_append.1 hy with h | h <;> simp [h]
      have h1 := (ht k y).2 ⟨hyL, e⟩
      rw [Hfk.out] at h1
      injection h1 with h1
      subst h1
      rw [hPQ, List.nodup_append] at hnd
      obtain ⟨_, h2, h3⟩ := hnd
      rcases List.mem_append.1 hy with h | h
      · exact h3 b h b (by simp) rfl
      · exact (List.nodup_cons.1 h2).1 h
    have hsub : ∀ y ∈ P ++ Q, y ∈ L := fun y hy => by rw [hPQ]; rcases List.mem_append.1 hy with h | h <;> simp [h]
    obtain ⟨L1, hL1⟩ : ∃ L1, L1 = P ++ Q := ⟨_, rfl⟩
    obtain ⟨r1, hr1⟩ : ∃ r1, r1 = r.out b := ⟨_, rfl⟩
    rw [← hL1] at hst hno hsub
    rw [← hr1] at hst hno
    clear hL1 hr1 hPQ hnd
    go_wp2_with fail
  all_goals
    have hown0 : wc.ownsRow w.heap.size 9 1 (.slice none 0 0) ([] : List ByteArray).length (([] : List ByteArray).map Value.string) := World.ownsRow_nil wc _ _ _
    have hlen1 := hst.len
    go_loopg [9, 10] n (fun q v9 _ wr => ∃ (L2 : List Nat) (r2 : Rg) (G : List ByteArray), St wr B s g m n room L2 r2 ∧ (∀ b ∈ L2, r2.key b ≠ k) ∧ (∀ b ∈ L2, b ∈ L) ∧ Keeps (Mine s m (g :: L)) w wr ∧ wr.ownsRow w.heap.size 9 1 v9 G.length (G.map Value.string) ∧ (∀ y ∈ G, y ≠ k ∧ y.size ≤ maxLen) ∧ G.length + L2.length ≤ n ∧ L2.length ≤ q)
    case atStart => exact ⟨L1, r1, [], hst, hno, hsub, hkc, hown0, by simp, by simpa using hlen1, hlen1⟩
    case round =>
      obtain ⟨L2, r2, G, hs2, hno2, hsub2, hk2, hown2, hG, hGn, hLq⟩ := hrel
      obtain ⟨u, hu⟩ : ∃ u, weight r2 L2 = u := ⟨_, rfl⟩
      have hfit2 := hs2.fits
      have hB2 := hs2.cell
      rw [hu] at hB2 hfit2
      have e0 := hB2.cell (i := 0) rfl
      have e1 := hB2.cell (i := 1) rfl
      have e2 := hB2.cell (i := 2) rfl
      have e3 := hB2.cell (i := 3) rfl
      have f1 := hB2.free 1
      have p0 : (0 : Int) ≤ (u : Int) + k.size := by omega
      have p1 : (u : Int) + k.size ≤ 33554432 := by omega
      have p2 : (0 : Int) ≤ (u : Int) + k.size + v.size := by omega
      have p3 : (u : Int) + k.size + v.size ≤ 50331648 := by omega
      by_cases hbig : room < u + k.size + v.size
      · have p4 : decide ((room : Int) < (u : Int) + k.size + v.size) = true := by simpa using (by omega : (room : Int) < (u : Int) + k.size + v.size)
        obtain ⟨P, x, hP⟩ : ∃ P x, L2 = P ++ [x] := by
          rcases List.eq_nil_or_concat L2 with h | ⟨P, x, h⟩
          · subst h; simp [weight] at hu; omega
          · exact ⟨P, x, by simpa using h⟩
        subst hP
        obtain ⟨q', rfl⟩ : ∃ q', gk = q' + 1 := ⟨gk - 1, by simp at hLq; omega⟩
        have hlat := ring_last hs2.ring
        have hg2 := (hs2.nodes g (by simp)).cell (i := 2) rfl
        rw [hlat] at hg2
        have hxn := hs2.nodes x (by simp)
        have hx0 := hxn.cell (i := 0) rfl
        have hxk := hno2 x (by simp)
        have hxs := hs2.size_of (b := x) (by simp)
        obtain ⟨kx, hkx⟩ : ∃ kx, r2.key x = kx := ⟨_, rfl⟩
        rw [hkx] at hx0 hxk hxs
        have hkz : kx.size ≤ 16777216 := by have := hs2.fits; omega
        have hbase : w.heap.size ≤ wr.heap.size := hk2.size
        have hD : ∀ w1, St w1 B s g m n room (P ++ [x]) r2 → Hid (Calls Try.prog 40 #[.pointer (some ⟨s, 0, none⟩), .pointer (some ⟨x, 0, none⟩)] w1 fun e w' => e = .returned (.tuple #[]) ∧ St w' B s g m n room (P ++ []) (r2.out x) ∧ Keeps (Mine s m (g :: (P ++ x :: []))) w1 w') := fun w1 h1 => Lib.hid (drop_st h1)
        have HU := Lib.hid hu
        have HKX := Lib.hid hkx
        clear hkx hu hbig
        have hGl : G.length ≤ 9223372036854775806 := by omega
        obtain ⟨F2, hm2, _⟩ := hs2.tied
        have hnm : ∀ i, u9.ownBlock = some i → ¬ Mine s m (g :: (P ++ [x])) i := by
          rintro i hi (rfl | rfl | hb)
          · exact own_ne_blk hown2 hs2.cell (by decide) hi
          · exact hm2.ne_own hown2 hi
          · exact own_ne_blk hown2 (hs2.nodes _ hb) (by decide) hi
        have hmine : ∀ i, Mine s m (g :: (P ++ [x])) i → Mine s m (g :: L) i := by
          rintro i (h | h | h)
          · exact .inl h
          · exact .inr (.inl h)
          · rcases List.mem_cons.1 h with h | h
            · exact .inr (.inr (by simp [h]))
            · exact .inr (.inr (List.mem_cons_of_mem _ (hsub2 i h)))
        simp only [List.length_append, List.length_cons, List.length_nil] at hGn hLq
        go_wp2_with fail
        go_quiet (fail)
        go_wp2_with (at_builtin; refine wpList_append_lies _ rfl _ _ 31 rfl w.heap.size 9 i0 _ 1 16 Try.underlying31 hi0 hz0 hz1 hz2 rfl (by omega) u9 G.length (G.map Value.string) rfl (World.ownsRow.alloc (w := wr.drewN _) hown2 _) ⟨wr.heap.size, 0, none⟩ 1 1 [.string kx] rfl rfl (World.news_of_block (cs := #[.string kx]) (t := 9) (fr := (0, 0)) (heap_alloc_new _ _)) (by simp [Value.oneCell']) (by omega) (by unfold maxLen; omega) (by omega) (by simp; omega) (wr.heap.size + 1) (by simp) ?_; intro gg cap w1 hown1 hgrow hat hlt)
        have hkA : Keeps (fun i => u9.ownBlock = some i) wr w1 := (((Keeps.refl _ wr).drewN _).alloc _).grown hgrow (fun i hi _ => hi)
        have hs3 : St w1 B s g m n room (P ++ [x]) r2 := hs2.keeps hkA (fun b hb hi => hnm b hi hb)
        have HD := hD w1 hs3
        go_wp2_with fail
        with_reducible refine HD.out.mono ?_
        rintro e w2 ⟨rfl, hs4, hk4⟩
        rw [List.append_nil] at hs4
        obtain ⟨F3, hm3, _⟩ := hs3.tied
        have hown4 := own_keeps hown1 hk4 (fun i hi hb => by
          rcases hb with rfl | rfl | hb
          · exact own_ne_blk hown1 hs3.cell (by decide) hi
          · exact hm3.ne_own hown1 hi
          · exact own_ne_blk hown1 (hs3.nodes _ hb) (by decide) hi)
        go_wp2
        go_roundg q'
        case measure => omega
        case rel =>
          refine ⟨P, r2.out x, G ++ [kx], hs4, fun b hb => hno2 b (by simp [hb]), fun b hb => hsub2 b (by simp [hb]), ?_, ?_, ?_, ?_, ?_⟩
          · refine (hk2.trans hkA (fun i hi h => ?_)).trans hk4 (fun i _ hi => hmine i hi)
            have := (hown2.lt i h).1
            omega
          · simpa using hown4
          · intro y hy
            rcases List.mem_append.1 hy with hy | hy
            · exact hG y hy
            · simp only [List.mem_singleton] at hy
              subst hy
              exact ⟨hxk, by unfold maxLen; omega⟩
          · simp only [List.length_append, List.length_cons, List.length_nil]; omega
          · omega
      · have p4 : decide ((room : Int) < (u : Int) + k.size + v.size) = false := by simpa using (by omega : (u : Int) + k.size + v.size ≤ (room : Int))
        have hz : w.heap.size ≤ wr.heap.size := hk2.size
        have HC1 := Lib.hid (fun (W : World) => strClone k W (by omega))
        have HC2 := Lib.hid (fun (W : World) => strClone v W (by omega))
        have HU := Lib.hid hu
        clear hu
        go_wp2_with fail
        go_quiet (fail)
        go_wp2_with fail
        with_reducible refine (HC1.out _).mono ?_
        rintro e w3 ⟨rfl, hb3⟩
        go_wp2_with fail
        with_reducible refine (HC2.out _).mono ?_
        rintro e w4 ⟨rfl, hb4⟩
        go_wp2_with fail
        have hz3 : wr.heap.size ≤ w3.heap.size := hb3.size
        have hz4 : w3.heap.size ≤ w4.heap.size := hb4.size
        have hx5 := Blk.new w4 78 [.string k, .string v, .pointer none, .pointer none]
        have hkT : Keeps (fun _ => False) wr (w4.alloc (.cells #[.string k, .string v, .pointer none, .pointer none] 78)) :=
          ((((Keeps.refl (fun _ => False) wr).drewN _).trans (Keeps.of_below (X := fun _ => False) hb3) (fun _ _ h => h)).trans (Keeps.of_below (X := fun _ => False) hb4) (fun _ _ h => h)).alloc _
        have hs5 := hs2.keeps hkT (fun _ _ h => h)
        have hown5 := own_keeps hown2 hkT (fun _ _ h => h)
        have hxm : ¬ Mine s m (g :: L2) w4.heap.size := fun h => by
          have := hs2.mine_lt _ h
          omega
        have hxB : B ≤ w4.heap.size := by
          have h1 := hs2.low s (.inl rfl)
          have h2 := hs2.cell.lt
          omega
        have hxw : w.heap.size ≤ w4.heap.size := by omega
        obtain ⟨x, hx⟩ : ∃ x, w4.heap.size = x := ⟨_, rfl⟩
        obtain ⟨w5, hw5⟩ : ∃ w5, w4.alloc (.cells #[.string k, .string v, .pointer none, .pointer none] 78) = w5 := ⟨_, rfl⟩
        have hx5' : Blk w5 x 78 [.string k, .string v, .pointer none, .pointer none] := by rw [← hw5, ← hx]; exact hx5
        rw [hw5] at hkT hs5 hown5
        rw [hx] at hxm hxB hxw
        rw [hw5, hx]
        clear hx hw5 hx5 hb3 hb4 hz3 hz4
        obtain ⟨F5, hm5, ht5⟩ := hs5.tied
        have hB5 := hs5.cell
        rw [HU.out] at hB5
        have i0' := hB5.cell (i := 0) rfl
        have i1 := hB5.cell (i := 1) rfl
        have i3 := hB5.cell (i := 3) rfl
        have ix := hx5'.cell (i := 0) rfl
        have nsx : s ≠ x := fun e => hxm (.inl e.symm)
        have nmx : m ≠ x := fun e => hxm (.inr (.inl e.symm))
        have nms := hm5.ne_blk hB5
        have hnm5 : ∀ b ∈ g :: L2, m ≠ b := fun b hb => hm5.ne_blk (hs5.nodes b hb)
        have hxS : x ∉ g :: L2 := fun hb => hxm (.inr (.inr hb))
        obtain ⟨w6, hrun6, hm6, hg6⟩ := MapIs.put (w := w5.drew) hm5.drew k (by unfold maxLen; omega) (by unfold maxLen; omega) x
        go_region
        all_goals
          have hgk : Keeps (fun i => i = m) w5 w6 := ((Keeps.refl (fun i => i = m) w5).drew).grown hg6 (fun i hi _ => by injection hi with hi; exact hi.symm)
          have hx6 := hx5'.keeps hgk (fun e => nmx e.symm)
          have hB6 := hB5.keeps hgk (fun e => nms e.symm)
          have hn6 : Nodes w6 (g :: L2) (r2.add x k v) := fun b hb => by
            have hbx : b ≠ x := fun e => hxS (e ▸ hb)
            have h1 := (hs5.nodes b hb).keeps hgk (fun e => hnm5 b hb e.symm)
            simpa [Rg.cells, Rg.add, upd, hbx] using h1
          have hsx6 : s ∉ g :: L2 := hs5.out_
          have hx6' : Blk w6 x 78 [.string ((r2.add x k v).key x), .string ((r2.add x k v).val x), .pointer none, .pointer none] := by
            simpa [Rg.add, upd] using hx6
          have hfirst : (r2.add x k v).old g ∈ g :: L2 := ring_first (r := r2) hs5.ring
          have HF := Lib.hid (front_any (r2.add x k v) (g :: L2) s g x _ _ _ _ _ w6 hB6 hn6 (by simp) hx6' hxS hfirst hsx6 nsx)
          go_wp2_with fail
          with_reducible refine HF.out.mono ?_
          rintro e w7 ⟨rfl, hn7, hk7⟩
          have hs7 : s ∉ x :: g :: L2 := fun h => by
            rcases List.mem_cons.1 h with h | h
            · exact nsx h
            · exact hsx6 h
          have hm7' : m ∉ x :: g :: L2 := fun h => by
            rcases List.mem_cons.1 h with h | h
            · exact nmx h
            · exact hnm5 m h rfl
          have hB7 := hB6.keeps hk7 hs7
          have hm7 := hm6.keeps hk7 hm7'
          have j1 := hB7.cell (i := 1) rfl
          have jf := hB7.free 1
          have p5 : (0 : Int) ≤ (u : Int) + ((k.size : Int) + v.size) := by omega
          have p6 : (u : Int) + ((k.size : Int) + v.size) ≤ 50331648 := by omega
          have hown6 := own_keeps hown5 hgk (fun i hi e => hm5.ne_own hown5 (by rw [hi, e]))
          have hown7 := own_keeps hown6 hk7 (fun i hi hb => by
            rcases List.mem_cons.1 hb with rfl | hb
            · exact own_ne_blk hown6 hx6 (by decide) hi
            · exact own_ne_blk hown6 (hn6 _ hb) (by decide) hi)
          go_wp2_with fail
          go_ret2
          have hw3 : weight ((r2.add x k v).front g x) (x :: L2) = u + (k.size + v.size) := by
            rw [weight_cons, ← HU.out]
            have e1 : weight ((r2.add x k v).front g x) L2 = weight r2 L2 := weight_same _ (fun b hb => by
              have hbx : b ≠ x := fun e => hxS (by simp [← e, hb])
              simp [Rg.add, Rg.front, Rg.setLat, Rg.setOld, upd, hbx])
            rw [e1]
            simp [Rg.add, Rg.front, Rg.setLat, Rg.setOld, upd]
          have hl5 := hs5.len
          refine ⟨u9, G, rfl, ownsRow_setCell_other (a := ⟨s, 1, none⟩) hown7 (own_ne_blk hown7 hB7 (by decide)) _, hG, x, L2, (r2.add x k v).front g x, ⟨?_, ?_, ?_, ⟨_, hm7.setCell nms _, tied_add ht5 ?_ ?_ ?_ hno2⟩, ?_, hsm, ?_, ?_⟩, ?_, ?_, ?_⟩
          · rw [hw3]
            have h := hB7.set_ 1 (.int .i64 ((u : Int) + ((k.size : Int) + v.size)))
            simpa using h
          · exact (hn7.far (p := ⟨s, 1, none⟩) hs7 _).sub (fun b hb => by simp at hb ⊢; rcases hb with h | h | h <;> simp [h])
          · exact ring_front (r := r2.add x k v) ⟨chain_same _ hs5.ring.1 (fun _ _ => rfl) (fun _ _ => rfl), hs5.ring.2⟩ hxS
          · simp [Rg.add, Rg.front, Rg.setLat, Rg.setOld, upd]
          · intro b hb
            have hbx : b ≠ x := fun e => hxS (by simp [← e, hb])
            simp [Rg.add, Rg.front, Rg.setLat, Rg.setOld, upd, hbx]
          · exact fun hb => hxS (by simp [hb])
          · rw [hw3]; omega
          · rintro b (h | h | h)
            · exact hs5.low b (.inl h)
            · exact hs5.low b (.inr (.inl h))
            · simp at h
              rcases h with h | h | h
              · exact hs5.low b (.inr (.inr (by simp [h])))
              · rw [h]; exact hxB
              · exact hs5.low b (.inr (.inr (by simp [h])))
          · simp only [List.length_cons]; omega
          · simp [Rg.add, Rg.front, Rg.setLat, Rg.setOld, upd]
          · simp [Rg.add, Rg.front, Rg.setLat, Rg.setOld, upd]
          · refine (((hk2.trans hkT (fun _ _ h => h.elim)).trans hgk (fun i _ hi => .inr (.inl hi))).trans hk7 (fun i hi hb => ?_)).setCell (fun _ => .inl rfl) _
            rcases List.mem_cons.1 hb with h | h
            · omega
            · rcases List.mem_cons.1 h with h | h
              · exact .inr (.inr (by simp [h]))
              · exact .inr (.inr (List.mem_cons_of_mem _ (hsub2 i h)))
end Go.Proofs.Ytpeabfbljiaedaa
