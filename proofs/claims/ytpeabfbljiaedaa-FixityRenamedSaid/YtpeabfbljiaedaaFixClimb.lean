/- fixity: against, put, climb. -/
import Derived.Test.YtpeabfbljiaedaaFixPure
import Derived.Deep.RegionHeld3
import Derived.Deep.RegionLaw
import Derived.Deep.QuietTactic
import Derived.BigQuiet
namespace Go.Proofs.Ytpeabfbljiaedaa
open Go.RowKit Go.Shelf


set_option maxHeartbeats 400000 in
theorem against_any (x y : FixSig) (w : World) :
    Calls Try.prog 61 #[x.v, y.v] w fun e w' => e = .returned (.bool (fixAgainst x y)) ∧ Below w.heap.size w w' := by
  have hb : Below w.heap.size w ((w.alloc (.cells #[.string x.op, .int .i64 x.side, .int .i64 x.level] 47)).alloc (.cells #[.string y.op, .int .i64 y.side, .int .i64 y.level] 47)) := ((Below.refl _ _).alloc (Nat.le_refl _) _).alloc (by simp) _
  have HE : ∀ b, fixAgainst x y = b → Hid (fixAgainst x y = b) := fun _ h => h
  unfold FixSig.v
  cases h1 : (x.level == y.level)
  · have HS := HE false (by unfold fixAgainst; rw [h1]; rfl)
    clear HE
    go_enter Try.func61, Try.ntmps61
    go_wp2
    go_ret
    exact ⟨ret_bool HS.out.symm, hb⟩
  · cases h2 : (x.side != y.side)
    · have HS := HE (x.side == 2) (by unfold fixAgainst; rw [h1, h2]; rfl)
      clear HE
      go_enter Try.func61, Try.ntmps61
      go_wp2
      go_ret
      exact ⟨ret_bool HS.out.symm, hb⟩
    · have HS := HE true (by unfold fixAgainst; rw [h1, h2]; rfl)
      clear HE
      go_enter Try.func61, Try.ntmps61
      go_wp2
      go_ret
      exact ⟨ret_bool HS.out.symm, hb⟩

/-- The builder at block g: table, items, the place, the nodes, the error. -/
def Bld (w : World) (g : Nat) (tv iv : Value) (at' : Int) (ov : Value) (e : Int) : Prop :=
  Blk w g 89 [tv, iv, .int .i64 at', ov, .int .i64 e]

/-- What a builder's methods may write: its own block and that of its nodes. -/
def Mut (g : Nat) (ov : Value) (k : Nat) : Prop := k = g ∨ ov.ownBlock = some k

def FixNode.v (x : FixNode) : Value := .agg #[.string x.op, .int .i64 x.n, .int .i64 x.a, .int .i64 x.b]
def FixNode.cells (x : FixNode) : List Value := [.string x.op, .int .i64 x.n, .int .i64 x.a, .int .i64 x.b]

theorem infoNode : (Try.prog.info? 53).map (fun i => (i.zero, i.size, i.bytes)) = some (some (.agg #[.string ⟨#[]⟩, .int .i64 0, .int .i64 0, .int .i64 0]), 4, 40) := by kernel_rfl

set_option maxHeartbeats 1000000 in
theorem put_any (x : FixNode) (base g : Nat) (tv iv ov : Value) (at' e0 : Int) (n : Nat) (xs : List Value) (w : World) (hB : Bld w g tv iv at' ov e0)
    (hown : w.ownsRow base 53 4 ov n xs) (hgb : base ≤ g) (hn : n ≤ 100000) :
    Calls Try.prog 60 #[.pointer (some ⟨g, 0, none⟩), x.v] w fun e w' => e = .returned (.int .i64 n) ∧
      ∃ ov', Bld w' g tv iv at' ov' e0 ∧ w'.ownsRow base 53 4 ov' (n + 1) (xs ++ x.cells) ∧ Keeps (Mut g ov) w w' ∧ (∀ k, ov'.ownBlock = some k → ov.ownBlock = some k ∨ w.heap.size ≤ k) := by
  obtain ⟨i0, hi0, hz0, hz1, hz2⟩ := info_parts infoNode
  have hg := hB.lt
  have hne := own_ne_blk hown hB (by decide)
  have c3 := hB.cell (i := 3) rfl
  have f3 := hB.free 3
  have fz2 : ∀ A B, ((w.alloc A).alloc B).drew.frozen? ⟨g, 3, none⟩ = false := fun A B => by
    show ((w.alloc A).alloc B).frozen? ⟨g, 3, none⟩ = false
    rw [(((Below.refl w.heap.size w).alloc (Nat.le_refl _) A).alloc (by simp) B).frozen (p := ⟨g, 3, none⟩) hg]; exact hB.free 3
  unfold FixNode.v
  go_enter Try.func60, Try.ntmps60
  go_wp2_with fail
  go_region_law (refine step_append_lies _ (by rfl) _ _ _ (by rfl) base 53 i0 _ 4 40 Try.underlying49 hi0 hz0 hz1 hz2 rfl (by omega) ov n xs (by rfl) (((hown.alloc _).alloc _).drew) ⟨w.heap.size + 1, 0, none⟩ 1 1 x.cells (by rfl) (by rfl) (World.news_of_block (cs := #[.string x.op, .int .i64 x.n, .int .i64 x.a, .int .i64 x.b]) (t := 53) (fr := (0, 0)) (heap_alloc2_new w _ _)) (by simp [FixNode.cells, Value.oneCell']) (by omega) (by unfold maxLen; omega) (by omega) (by simp; omega) (w.heap.size + 2) (by simp) ?_; intro gg cap w1 hown1 hgrow hat hlt; have k3 : w1.cell? ⟨g, 3, none⟩ = some ov := (hgrow.cell_far _ (by simp; omega) (Ne.symm hne)).trans (by go_simp); have k4 : w1.frozen? ⟨g, 3, none⟩ = false := (hgrow.frozen_far _ (by simp; omega) (Ne.symm hne)).trans (fz2 _ _))
  all_goals
    have hbl : Keeps (Mut g ov) w w1 := ((((Keeps.refl (Mut g ov) w).alloc _).alloc _).drew).grown hgrow (fun k hk _ => .inr hk)
    have hB1 : Bld w1 g tv iv at' ov e0 := Blk.grown (r := ov.ownBlock) (((Blk.alloc (Blk.alloc hB _) _)).drew) hgrow (Ne.symm hne)
    have hB2 : Bld (w1.setCell ⟨g, 3, none⟩ (.slice (some ⟨gg, 0, none⟩) (n + 1) cap)) g tv iv at' (.slice (some ⟨gg, 0, none⟩) (n + 1) cap) e0 := Blk.set_ hB1 3 _
    have hn1 : (Value.slice (some ⟨gg, 0, none⟩) (n + 1) cap).ownBlock ≠ some g := own_ne_blk (g := g) (t := 89) hown1 hB1 (by decide)
    go_wp2
    go_ret
    refine ⟨rfl, _, hB2, ?_, hbl.setCell (fun _ => .inl rfl) _, fun k hk => ?_⟩
    · exact ownsRow_setCell_other hown1 (a := ⟨g, 3, none⟩) hn1 _
    · have e : gg = k := by simpa [Value.ownBlock] using hk
      subst e
      rcases hat with h | h
      · exact .inl h
      · exact .inr (by omega)
end Go.Proofs.Ytpeabfbljiaedaa
