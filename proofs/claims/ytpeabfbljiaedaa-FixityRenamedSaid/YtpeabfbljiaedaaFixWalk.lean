/- provenancekeep1.walk: the items of a tree in order. Conditions: the tree's nodes are well made, and the items are at most 100000. -/
import Derived.Test.YtpeabfbljiaedaaFixBuild
import Derived.Test.YtpeabfbljiaedaaFixSl
import Derived.Deep.Onto
namespace Go.Proofs.Ytpeabfbljiaedaa
open Go.RowKit Go.Shelf

def FixItem.cells (x : FixItem) : List Value := [.string x.op, .int .i64 x.n]
def itemCells (l : List FixItem) : List Value := l.flatMap FixItem.cells

def WalkPost (l : List FixItem) (w : World) (e : Ending) (w' : World) : Prop :=
  ∃ g cap, e = .returned (.slice (some ⟨g, 0, none⟩) l.length cap) ∧ w'.ownsRow w.heap.size 57 2 (.slice (some ⟨g, 0, none⟩) l.length cap) l.length (itemCells l) ∧ Below w.heap.size w w'

def ItemOk (x : FixItem) : Prop := x.op.size ≤ maxLen ∧ (Lit.int .i64 x.n).wf = true
theorem items_rp {w : World} {F : Nat → Prop} : ∀ (l : List FixItem), (∀ x ∈ l, ItemOk x) → RpAll w F (l.map FixItem.d) (itemCells l)
  | [], _ => by simp [itemCells, RpAll]
  | x :: l, h => by
    rw [List.map_cons, rpAll_cons]
    exact ⟨x.cells, itemCells l, by simp [itemCells], FixItem.rp.2 ⟨rfl, h x (by simp)⟩, items_rp l (fun y hy => h y (by simp [hy]))⟩
theorem walkT_ok {T : List FixSig} {I : List FixItem} {t : List FixNode} (ht : NodesOk T I t) (hw : ∀ x ∈ t, x.op.size ≤ maxLen ∧ (Lit.int .i64 x.n).wf = true) : ∀ (f i : Nat), i < f → i < t.length → (∀ x ∈ walkT t f i, ItemOk x) ∧ 0 < (walkT t f i).length := by
  intro f
  induction f with
  | zero => intro i h; omega
  | succ f ih =>
    intro i h1 h2
    have he : nodeAt t i = t[i] := by simp [nodeAt, h2]
    have hi := hw t[i] (List.getElem_mem h2)
    rw [walkT]
    rcases ht i h2 with ⟨e, _⟩ | ⟨e, _, _, a, b, ea, eb, ha, hb, _⟩
    · rw [if_pos e]
      refine ⟨fun x hx => ?_, by simp⟩
      simp only [List.mem_singleton] at hx
      subst hx
      exact ⟨Nat.zero_le _, by rw [he]; exact hi.2⟩
    · rw [if_neg e, ea, eb, Int.toNat_natCast, Int.toNat_natCast]
      have i1 := ih a (by omega) (by omega)
      have i2 := ih b (by omega) (by omega)
      refine ⟨fun x hx => ?_, by simp; omega⟩
      rw [List.mem_append, List.mem_cons] at hx
      rcases hx with hx | rfl | hx
      · exact i1.1 x hx
      · exact ⟨by rw [he]; exact hi.1, wf_small 0 (by omega)⟩
      · exact i2.1 x hx

set_option maxRecDepth 100000 in
set_option maxHeartbeats 1000000 in
theorem walk_any (T : List FixSig) (I : List FixItem) (t : List FixNode) (ht : NodesOk T I t) (hw : ∀ x ∈ t, x.op.size ≤ maxLen ∧ (Lit.int .i64 x.n).wf = true) (tv : Value) (F : Nat → Prop) :
    ∀ (n i : Nat) (w : World), i < n → i < t.length → (walkT t (i + 1) i).length ≤ 100000 → Sl w F FixNode.d t tv →
      Calls Try.prog 30 #[tv, .int .i64 i] w (WalkPost (walkT t (i + 1) i) w) := by
  intro n
  induction n with
  | zero => intro i w h; omega
  | succ n ih =>
    intro i w hin hit hlen hv
    obtain ⟨i0, hi0, hz0, hz1, hz2⟩ := info_parts infoFixItem
    obtain ⟨A, c, rfl, hlc, hcm, _⟩ := hv.form
    obtain ⟨g, off, rfl, hF, c0, c1, c2, c3, _⟩ := FixNode.get hv hit
    have hl : t.length ≤ 9223372036854775807 := by unfold maxLen at hcm; omega
    have q0 : (0 : Int) ≤ (i : Int) := by omega
    have q1 : (i : Int) < (t.length : Int) := by omega
    have hgl : g < w.heap.size := block_lt_of_cell c0
    have he : nodeAt t i = t[i] := by simp [nodeAt, hit]
    have hok := walkT_ok ht hw (i + 1) i (by omega) hit
    have hn := ht i hit
    unfold NodeOk at hn
    rw [he] at hn
    rcases hn with ⟨e, -⟩ | ⟨e, hn0, _, a, b, ea, eb, ha, hb, _⟩
    · have hs : t[i].op.toList.isEmpty = true := by rw [toList_noOp.2 e]; rfl
      have HE := Lib.hid (show walkT t (i + 1) i = [⟨noOp, t[i].n⟩] from by rw [walkT, he, if_pos e])
      clear e he
      go_enter Try.func30, Try.ntmps30
      go_wp2
      go_ret
      rw [HE.out]
      refine ⟨w.heap.size + 1, 1, rfl, ?_, ((Below.refl _ _).alloc (Nat.le_refl _) _).alloc (by simp) _⟩
      have h := World.ownsRow_lit (base := w.heap.size) (e := 57) (size := 2) (w.alloc (.cells #[.string t[i].op, .int .i64 t[i].n, .int .i64 t[i].a, .int .i64 t[i].b] 53)) #[.string ⟨#[]⟩, .int .i64 t[i].n] 1 (by simp) (by unfold maxLen; omega) (by simp)
      simpa [itemCells, FixItem.cells, noOp] using h
    · have hs : t[i].op.toList.isEmpty = false := by
        cases h : t[i].op.toList with
        | nil => exact absurd (toList_noOp.1 h) e
        | cons _ _ => rfl
      have HE := show walkT t (i + 1) i = walkT t (a + 1) a ++ ⟨t[i].op, 0⟩ :: walkT t (b + 1) b from by
        rw [walkT, he, if_neg e, ea, eb, Int.toNat_natCast, Int.toNat_natCast, walkT_fuel ht i (a + 1) a ha (by omega) (by omega), walkT_fuel ht i (b + 1) b hb (by omega) (by omega)]
      have hla : (walkT t (a + 1) a).length + (walkT t (b + 1) b).length + 1 ≤ 100000 := by rw [HE] at hlen; simp at hlen; omega
      have hoa := walkT_ok ht hw (a + 1) a (by omega) (by omega)
      have hob := walkT_ok ht hw (b + 1) b (by omega) (by omega)
      have IA := Lib.hid (fun (W : World) (hb : Below w.heap.size w W) => ih a W (by omega) (by omega) (by omega) (hv.later hb))
      have IB := Lib.hid (fun (W : World) (hb : Below w.heap.size w W) => ih b W (by omega) (by omega) (by omega) (hv.later hb))
      have HH := Lib.hid HE
      clear e he hlen HE hok
      rw [ea] at c2
      rw [eb] at c3
      rw [hn0] at c1
      clear hn0 ea eb
      have hS := Lib.hid (fun (W : World) (hb : Below (w.heap.size + 1) (w.alloc (.cells #[.string t[i].op, .int .i64 0, .int .i64 a, .int .i64 b] 53)) W) =>
        (by
          have h := (Blk.new w 53 [.string t[i].op, .int .i64 0, .int .i64 a, .int .i64 b]).below hb (by omega)
          exact ⟨h.cell (i := 0) rfl, h.cell (i := 2) rfl, h.cell (i := 3) rfl⟩ :
          W.cell? ⟨w.heap.size, 0, none⟩ = some (.string t[i].op) ∧ W.cell? ⟨w.heap.size, 2, none⟩ = some (.int .i64 a) ∧ W.cell? ⟨w.heap.size, 3, none⟩ = some (.int .i64 b)))
      have hW0 : Below w.heap.size w (w.alloc (.cells #[.string t[i].op, .int .i64 0, .int .i64 a, .int .i64 b] 53)) := (Below.refl _ _).alloc (Nat.le_refl _) _
      have hsz : ∀ W : World, Below (w.heap.size + 1) (w.alloc (.cells #[.string t[i].op, .int .i64 0, .int .i64 a, .int .i64 b] 53)) W → w.heap.size + 1 ≤ W.heap.size := fun W h => by have := h.size; simp at this; omega
      have hsz' := Lib.hid hsz
      clear hsz
      have hto := Lib.hid (fun (W : World) (h : Below (w.heap.size + 1) (w.alloc (.cells #[.string t[i].op, .int .i64 0, .int .i64 a, .int .i64 b] 53)) W) => hW0.trans (h.mono (by omega)))
      go_enter Try.func30, Try.ntmps30
      go_wp2_with fail
      go_region_held3 (fun w' => w'.cell? ⟨w.heap.size, 0, none⟩ = some (.string t[i].op) ∧ w'.cell? ⟨w.heap.size, 2, none⟩ = some (.int .i64 a) ∧ w'.cell? ⟨w.heap.size, 3, none⟩ = some (.int .i64 b))
        (exact hS.out _ (by repeat (first | assumption | exact Below.refl _ _ | refine Below.drewN ?_ _ | refine Below.drew ?_ | refine Below.alloc ?_ (by first | omega | (simp; done) | (simp; omega)) _)))
        (first
          | (go_at_call 30; have hc := hownC; refine (IB.out _ (hto.out _ (by repeat (first | assumption | exact Below.refl _ _ | refine Below.drewN ?_ _ | refine Below.drew ?_ | refine Below.alloc ?_ (by first | omega | (simp; done) | (simp; omega)) _)))).mono ?_; rintro e w4 ⟨g4, cap4, rfl, hown4, hb4⟩; have hw4 : Below (w.heap.size + 1) (w.alloc (.cells #[.string t[i].op, .int .i64 0, .int .i64 a, .int .i64 b] 53)) w4 := Below.trans (by repeat (first | assumption | exact Below.refl _ _ | refine Below.drewN ?_ _ | refine Below.drew ?_ | refine Below.alloc ?_ (by first | omega | (simp; done) | (simp; omega)) _)) (hb4.mono (hsz'.out _ (by repeat (first | assumption | exact Below.refl _ _ | refine Below.drewN ?_ _ | refine Below.drew ?_ | refine Below.alloc ?_ (by first | omega | (simp; done) | (simp; omega)) _)))); have hz4 : w.heap.size + 1 ≤ w4.heap.size := hsz'.out _ hw4; have hownD := own_keeps (X := fun _ => False) hc (Keeps.of_below hb4) (fun _ _ h => h))
          | (go_at_call 30; refine (IA.out _ (hto.out _ (by repeat (first | assumption | exact Below.refl _ _ | refine Below.drewN ?_ _ | refine Below.drew ?_ | refine Below.alloc ?_ (by first | omega | (simp; done) | (simp; omega)) _)))).mono ?_; rintro e w2 ⟨g2, cap2, rfl, hown2, hb2⟩; have hw2 : Below (w.heap.size + 1) (w.alloc (.cells #[.string t[i].op, .int .i64 0, .int .i64 a, .int .i64 b] 53)) w2 := Below.trans (by repeat (first | assumption | exact Below.refl _ _ | refine Below.drewN ?_ _ | refine Below.drew ?_ | refine Below.alloc ?_ (by first | omega | (simp; done) | (simp; omega)) _)) (hb2.mono (hsz'.out _ (by repeat (first | assumption | exact Below.refl _ _ | refine Below.drewN ?_ _ | refine Below.drew ?_ | refine Below.alloc ?_ (by first | omega | (simp; done) | (simp; omega)) _)))); have hz2' : w.heap.size + 1 ≤ w2.heap.size := hsz'.out _ hw2; have hg2 : w.heap.size + 1 ≤ g2 := Nat.le_trans (hsz'.out _ (by repeat (first | assumption | exact Below.refl _ _ | refine Below.drewN ?_ _ | refine Below.drew ?_ | refine Below.alloc ?_ (by first | omega | (simp; done) | (simp; omega)) _))) (hown2.lt g2 rfl).1; have hown2' := hown2.mono (base' := w.heap.size + 1) (hsz'.out _ (by repeat (first | assumption | exact Below.refl _ _ | refine Below.drewN ?_ _ | refine Below.drew ?_ | refine Below.alloc ?_ (by first | omega | (simp; done) | (simp; omega)) _))))
          | (have hd := hownD; refine step_append_lies _ (by rfl) _ _ _ (by rfl) (w.heap.size + 1) 57 i0 _ 2 24 Try.underlying45 hi0 hz0 hz1 hz2 rfl (by omega) (.slice (some ⟨gc, 0, none⟩) ((walkT t (a + 1) a).length + 1) capc) ((walkT t (a + 1) a).length + 1) (itemCells (walkT t (a + 1) a) ++ [.string t[i].op, .int .i64 0]) (by rfl) hd ⟨g4, 0, none⟩ (walkT t (b + 1) b).length cap4 (itemCells (walkT t (b + 1) b)) (by rfl) hown4.1 (hown4.cells (g := g4) rfl) (RpAll.one' (F := fun _ => True) (w := w4) _ _ (items_rp _ hob.1)) hob.2 (by unfold maxLen; omega) (by omega) (by omega) w4.heap.size (by rfl) ?_; intro gg capg w5 hownE hgrowE hatE hltE; have hgc : w.heap.size + 1 ≤ gc := (hd.lt gc rfl).1; have hw5 : Below (w.heap.size + 1) (w.alloc (.cells #[.string t[i].op, .int .i64 0, .int .i64 a, .int .i64 b] 53)) w5 := Below.grown hw4 hgrowE (by omega) (fun k hk => by (have h2 : some gc = some k := hk; injection h2 with h2; omega)))
          | (refine step_append_lies _ (by rfl) _ _ _ (by rfl) (w.heap.size + 1) 57 i0 _ 2 24 Try.underlying45 hi0 hz0 hz1 hz2 rfl (by omega) (.slice (some ⟨g2, 0, none⟩) (walkT t (a + 1) a).length cap2) (walkT t (a + 1) a).length (itemCells (walkT t (a + 1) a)) (by rfl) (hown2'.alloc _) ⟨w2.heap.size, 0, none⟩ 1 1 [.string t[i].op, .int .i64 0] (by rfl) (by rfl) (World.news_of_block (cs := #[.string t[i].op, .int .i64 0]) (t := 57) (fr := (0, 0)) (heap_alloc_new w2 _)) (by simp [Value.oneCell']) (by omega) (by unfold maxLen; omega) (by omega) (by first | omega | (simp; done) | (simp; omega)) (w2.heap.size + 1) (by simp) ?_; intro gc capc w3 hownC hgrow hat hltc; have hw3 : Below (w.heap.size + 1) (w.alloc (.cells #[.string t[i].op, .int .i64 0, .int .i64 a, .int .i64 b] 53)) w3 := Below.grown (by repeat (first | assumption | exact Below.refl _ _ | refine Below.drewN ?_ _ | refine Below.drew ?_ | refine Below.alloc ?_ (by first | omega | (simp; done) | (simp; omega)) _)) hgrow (by first | omega | (simp; done) | (simp; omega)) (fun k hk => by (have h2 : some g2 = some k := hk; injection h2 with h2; omega)); have hz3 : w.heap.size + 1 ≤ w3.heap.size := hsz'.out _ hw3)
          | (refine step_append_lies _ (by rfl) _ _ _ (by rfl) (w.heap.size + 1) 57 i0 _ 2 24 Try.underlying45 hi0 hz0 hz1 hz2 rfl (by omega) (.slice (some ⟨g2, 0, none⟩) (walkT t (a + 1) a).length cap2) (walkT t (a + 1) a).length (itemCells (walkT t (a + 1) a)) (by rfl) hown2' ⟨w.heap.size + 1, 0, none⟩ 1 1 [.string t[i].op, .int .i64 0] (by rfl) (by rfl) (World.news_of_block (cs := #[.string t[i].op, .int .i64 0]) (t := 57) (fr := (0, 0)) ((hb2.block _ (by first | omega | (simp; done) | (simp; omega))).trans (heap_alloc2_new w _ _))) (by simp [Value.oneCell']) (by omega) (by unfold maxLen; omega) (by omega) (by first | omega | (simp; done) | (simp; omega)) w2.heap.size (by rfl) ?_; intro gc capc w3 hownC hgrow hat hltc; have hw3 : Below (w.heap.size + 1) (w.alloc (.cells #[.string t[i].op, .int .i64 0, .int .i64 a, .int .i64 b] 53)) w3 := Below.grown (by repeat (first | assumption | exact Below.refl _ _ | refine Below.drewN ?_ _ | refine Below.drew ?_ | refine Below.alloc ?_ (by first | omega | (simp; done) | (simp; omega)) _)) hgrow (by first | omega | (simp; done) | (simp; omega)) (fun k hk => by (have h2 : some g2 = some k := hk; injection h2 with h2; omega)); have hz3 : w.heap.size + 1 ≤ w3.heap.size := hsz'.out _ hw3))
      all_goals
        go_wp2
        go_ret
        rw [HH.out]
        have hlen2 : (walkT t (a + 1) a ++ ⟨t[i].op, 0⟩ :: walkT t (b + 1) b).length = (walkT t (a + 1) a).length + 1 + (walkT t (b + 1) b).length := by simp; omega
        have hcells : itemCells (walkT t (a + 1) a ++ ⟨t[i].op, 0⟩ :: walkT t (b + 1) b) = itemCells (walkT t (a + 1) a) ++ [.string t[i].op, .int .i64 0] ++ itemCells (walkT t (b + 1) b) := by simp [itemCells, FixItem.cells]
        refine ⟨gg, capg, ?_, ?_, hto.out _ hw5⟩
        · rw [hlen2]; rfl
        · rw [hlen2, hcells]; exact hownE.mono (by omega)
end Go.Proofs.Ytpeabfbljiaedaa
