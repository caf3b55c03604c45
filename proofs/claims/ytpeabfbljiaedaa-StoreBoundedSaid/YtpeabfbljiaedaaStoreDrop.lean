/- store.drop, and the library's strings.Clone, slices.Clip. -/
import Derived.Test.YtpeabfbljiaedaaStoreOut
namespace Go.Proofs.Ytpeabfbljiaedaa
open Go.RowKit Go.Maps

def Mine (s m : Nat) (S : List Nat) (i : Nat) : Prop := i = s ∨ i = m ∨ i ∈ S

set_option maxHeartbeats 1000000 in
theorem drop_any (r : Rg) (S : List Nat) (s g m n x : Nat) (u : Int) (F : ByteArray → Option Nat) (c0 : Value) (w : World) (hs : Blk w s 81 [c0, .int .i64 u, .pointer (some ⟨g, 0, none⟩), .map (some m)]) (hn : Nodes w S r) (hm : MapIs w m n F)
    (h1 : x ∈ S) (h2 : r.lat x ∈ S) (h3 : r.old x ∈ S) (hsS : s ∉ S) (hk : (r.key x).size ≤ maxLen) (hu : ((r.key x).size : Int) + (r.val x).size ≤ u) (hu2 : u ≤ 16777216) :
    Calls Try.prog 40 #[.pointer (some ⟨s, 0, none⟩), .pointer (some ⟨x, 0, none⟩)] w fun e w' => e = .returned (.tuple #[]) ∧
      Blk w' s 81 [c0, .int .i64 (u - (((r.key x).size : Int) + (r.val x).size)), .pointer (some ⟨g, 0, none⟩), .map (some m)] ∧ Nodes w' S (r.out x) ∧ MapIs w' m n (setKey F (r.key x) none) ∧ Keeps (Mine s m S) w w' := by
  have hx := hn x h1
  have d1 := hs.cell (i := 1) rfl
  have d3 := hs.cell (i := 3) rfl
  have fd1 := hs.free 1
  have x0 := hx.cell (i := 0) rfl
  have x1 := hx.cell (i := 1) rfl
  obtain ⟨kk, hkk⟩ : ∃ kk, kk = r.key x := ⟨_, rfl⟩
  obtain ⟨vv, hvv⟩ : ∃ vv, vv = r.val x := ⟨_, rfl⟩
  rw [← hkk] at x0 hk hu
  rw [← hvv] at x1 hu
  rw [← hkk, ← hvv]
  clear hkk hvv
  have n1 : s ≠ x := fun e => hsS (e ▸ h1)
  have n2 := n1.symm
  have n3 := hm.ne_blk hs
  have n4 := n3.symm
  have n5 : ∀ b ∈ S, m ≠ b := fun b hb => hm.ne_blk (hn b hb)
  have n6 := n5 x h1
  have ls := hs.lt
  have q1 : (0 : Int) ≤ (kk.size : Int) + (vv.size : Int) := by omega
  have q2 : (kk.size : Int) + (vv.size : Int) ≤ 16777216 := by omega
  have q3 : (0 : Int) ≤ u - ((kk.size : Int) + (vv.size : Int)) := by omega
  have q4 : u - ((kk.size : Int) + (vv.size : Int)) ≤ 16777216 := by omega
  go_enter Try.func40, Try.ntmps40
  go_wp2_with fail
  go_region
  go_wp2_with fail
  go_region_law (refine step_del (by rfl) _ _ (by rfl) (m := m) (n := n) (F := F) (by first | exact MapIs.setCell hm n3 _ | exact MapIs.setCell (MapIs.drewN hm _) n3 _) (by rfl) kk (by rfl) hk ?_; intro w1 hm1 hg1)
  all_goals
    have hs1 := Blk.grown (Blk.drew (Blk.drew (Blk.set_ hs 1 (.int .i64 (u - ((kk.size : Int) + (vv.size : Int))))))) hg1 (by simp; exact n4)
    have hn1 : Nodes w1 S r := fun b hb => Blk.grown (Blk.drew (Blk.drew (Blk.far (hn b hb) (p := ⟨s, 1, none⟩) (fun e => hsS (by have e2 : b = s := e; rw [← e2]; exact hb)) (.int .i64 (u - ((kk.size : Int) + (vv.size : Int))))))) hg1 (by simp; exact (n5 b hb).symm)
    have hk1 : Keeps (Mine s m S) w w1 := (((Keeps.refl (Mine s m S) w).setCell (p := ⟨s, 1, none⟩) (fun _ => .inl rfl) (.int .i64 (u - ((kk.size : Int) + (vv.size : Int))))).drew.drew).grown hg1 (fun i hi _ => by cases hi; exact .inr (.inl rfl))
    have HO := Lib.hid (out_any r S x w1 hn1 h1 h2 h3)
    go_wp2_with fail
    with_reducible refine HO.out.mono ?_
    rintro e w2 ⟨rfl, hn2, hk2⟩
    go_wp2
    go_end0
    refine ⟨rfl, hs1.keeps hk2 hsS, hn2, ?_, hk1.trans hk2 (fun i _ hi => .inr (.inr hi))⟩
    exact hm1.keeps hk2 (fun h => n5 m h rfl)
end Go.Proofs.Ytpeabfbljiaedaa
