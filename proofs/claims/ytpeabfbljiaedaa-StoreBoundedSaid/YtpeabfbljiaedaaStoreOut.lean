/- store.out, store.front, store.Clone of strings: what they do to the ring's nodes. -/
import Derived.Test.YtpeabfbljiaedaaStoreMem
import Derived.Deep.RegionHeld3
import Derived.Deep.RegionLaw
import Derived.Deep.QuietTactic
import Derived.BigQuiet
namespace Go.Proofs.Ytpeabfbljiaedaa
open Go.RowKit Go.Maps

set_option maxHeartbeats 1000000 in
theorem out_any (r : Rg) (S : List Nat) (x : Nat) (w : World) (hn : Nodes w S r) (h1 : x ∈ S) (h2 : r.lat x ∈ S) (h3 : r.old x ∈ S) :
    Calls Try.prog 43 #[.pointer (some ⟨x, 0, none⟩)] w fun e w' => e = .returned (.tuple #[]) ∧ Nodes w' S (r.out x) ∧ Keeps (· ∈ S) w w' := by
  have c2 := (hn x h1).cell (i := 2) rfl
  have c3 := (hn x h1).cell (i := 3) rfl
  obtain ⟨la, hla⟩ : ∃ la, la = r.lat x := ⟨_, rfl⟩
  obtain ⟨ol, hol⟩ : ∃ ol, ol = r.old x := ⟨_, rfl⟩
  rw [← hla] at c2 h2
  rw [← hol] at c3 h3
  have f1 := (hn la h2).free 3
  have f2 := (hn ol h3).free 2
  have c4 := (hn la h2).cell (i := 3) rfl
  have c5 := (hn ol h3).cell (i := 2) rfl
  have l1 := (hn la h2).lt
  have l2 := (hn ol h3).lt
  have e : (r.setOld la ol).setLat ol la = r.out x := by rw [hla, hol]; rfl
  have HE := Lib.hid e
  clear hla hol e
  go_enter Try.func43, Try.ntmps43
  go_wp2_with fail
  go_quiet (fail)
  go_wp2
  go_end0
  exact ⟨rfl, by rw [← HE.out]; exact ((hn.drewN _).setOld la ol).setLat ol la, (((Keeps.refl (· ∈ S) w).drewN _).setCell (p := ⟨la, 3, none⟩) (fun _ => h2) _).setCell (p := ⟨ol, 2, none⟩) (fun _ => h3) _⟩

theorem Nodes.far {w : World} {S : List Nat} {r : Rg} (h : Nodes w S r) {p : Addr} (hp : p.block ∉ S) (u : Value) : Nodes (w.setCell p u) S r :=
  fun b hb => (h b hb).far (fun e => hp (by rw [← e]; exact hb)) u

set_option maxHeartbeats 1000000 in
theorem front_any (r : Rg) (S : List Nat) (s g x : Nat) (c0 c1 c3 p2 p3 : Value) (w : World) (hs : Blk w s 81 [c0, c1, .pointer (some ⟨g, 0, none⟩), c3]) (hn : Nodes w S r) (hg : g ∈ S) (hx : Blk w x 78 [.string (r.key x), .string (r.val x), p2, p3]) (h1 : x ∉ S) (h2 : r.old g ∈ S) (hsS : s ∉ S) (hsx : s ≠ x) :
    Calls Try.prog 42 #[.pointer (some ⟨s, 0, none⟩), .pointer (some ⟨x, 0, none⟩)] w fun e w' => e = .returned (.tuple #[]) ∧ Nodes w' (x :: S) (r.front g x) ∧ Keeps (· ∈ x :: S) w w' := by
  have d2 := hs.cell (i := 2) rfl
  have e3 := (hn g hg).cell (i := 3) rfl
  obtain ⟨ol, hol⟩ : ∃ ol, ol = r.old g := ⟨_, rfl⟩
  rw [← hol] at e3 h2
  have hxg : x ≠ g := fun e => h1 (e ▸ hg)
  have hxo : x ≠ ol := fun e => h1 (e ▸ h2)
  have n6 := hxg.symm
  have n7 := hxo.symm
  have x2 := hx.cell (i := 2) rfl
  have x3 := hx.cell (i := 3) rfl
  have o2 := (hn ol h2).cell (i := 2) rfl
  have fx2 := hx.free 2
  have fx3 := hx.free 3
  have fo2 := (hn ol h2).free 2
  have fg3 := (hn g hg).free 3
  have l1 := hx.lt
  have l2 := (hn ol h2).lt
  have l3 := (hn g hg).lt
  have n1 : s ≠ x := hsx
  have n2 : s ≠ ol := fun e => hsS (e ▸ h2)
  have n3 : s ≠ g := fun e => hsS (e ▸ hg)
  have n4 := n1.symm
  have n5 := n2.symm
  have hN := (((hn.far (p := ⟨x, 2, none⟩) h1 (.pointer (some ⟨g, 0, none⟩))).far (p := ⟨x, 3, none⟩) h1 (.pointer (some ⟨ol, 0, none⟩))).setLat ol x).setOld g x
  have hX := ((((hx.set_ 2 (.pointer (some ⟨g, 0, none⟩))).set_ 3 (.pointer (some ⟨ol, 0, none⟩))).far (p := ⟨ol, 2, none⟩) hxo (.pointer (some ⟨x, 0, none⟩))).far (p := ⟨g, 3, none⟩) hxg (.pointer (some ⟨x, 0, none⟩)))
  have HN := Lib.hid (show Nodes _ (x :: S) (r.front g x) from fun b hb => by
    rcases List.mem_cons.1 hb with rfl | hb
    · have e : (r.front g b).cells b = [.string (r.key b), .string (r.val b), .pointer (some ⟨g, 0, none⟩), .pointer (some ⟨ol, 0, none⟩)] := by
        simp [Rg.front, Rg.cells, Rg.setLat, Rg.setOld, upd, hxg, ← hol, hxo]
      rw [e]; exact hX
    · have hbx : b ≠ x := fun e => h1 (e ▸ hb)
      have e : (r.front g x).cells b = ((r.setLat ol x).setOld g x).cells b := by
        simp [Rg.front, Rg.cells, Rg.setLat, Rg.setOld, upd, hbx, ← hol]
      rw [e]; exact hN b hb)
  clear hol hX hN
  go_enter Try.func42, Try.ntmps42
  go_wp2_with fail
  go_end0
  refine ⟨rfl, HN.out, ?_⟩
  exact ((((Keeps.refl (· ∈ x :: S) w).setCell (p := ⟨x, 2, none⟩) (fun _ => List.mem_cons_self) _).setCell (p := ⟨x, 3, none⟩) (fun _ => List.mem_cons_self) _).setCell (p := ⟨ol, 2, none⟩) (fun _ => List.mem_cons_of_mem _ h2) _).setCell (p := ⟨g, 3, none⟩) (fun _ => List.mem_cons_of_mem _ hg) _
end Go.Proofs.Ytpeabfbljiaedaa
