/- fixity's climb: what it leaves of the builder. Conditions: a checked table, a sequence of odd length at most 400. -/
import Derived.Test.YtpeabfbljiaedaaFixClimb
import Derived.StillTailTactics
import Derived.Deep.DeepCutAuto
import Derived.Deep.LoopGhost
namespace Go.Proofs.Ytpeabfbljiaedaa
open Go.RowKit Go.Shelf

def nodesCells (l : List FixNode) : List Value := l.flatMap FixNode.cells
/-- The builder at block g: its state, the value of its slice of nodes. -/
def Bst (w : World) (base g : Nat) (tv iv : Value) (s : FixSt) (ov : Value) : Prop :=
  Bld w g tv iv s.at_ ov s.e ∧ w.ownsRow base 53 4 ov s.out.length (nodesCells s.out)

def ClimbPost (tv iv : Value) (base g : Nat) (ov : Value) (r : FixSt × Nat) (w : World) (e : Ending) (w' : World) : Prop :=
  e = .returned (.int .i64 r.2) ∧ ∃ ov', Bst w' base g tv iv r.1 ov' ∧ Keeps (Mut g ov) w w' ∧ (∀ k, ov'.ownBlock = some k → ov.ownBlock = some k ∨ w.heap.size ≤ k)

def ClimbSaid (T : List FixSig) (I : List FixItem) (tv iv : Value) (F : Nat → Prop) (base g n : Nat) : Prop :=
  ∀ (least : Int) (outer : FixSig) (s : FixSt) (ov : Value) (w : World), Sl w F FixSig.d T tv → Sl w F FixItem.d I iv → s.at_ % 2 = 0 → s.at_ < I.length → I.length ≤ s.at_ + 1 + n → s.out.length ≤ s.at_ →
    Bst w base g tv iv s ov →
    Calls Try.prog 47 #[.pointer (some ⟨g, 0, none⟩), .int .i64 least, outer.v] w (ClimbPost tv iv base g ov (fixLoop T I n least outer outer s.out.length (readLeaf I s)) w)

set_option maxRecDepth 100000 in
set_option maxHeartbeats 1000000 in
theorem climb_step (T : List FixSig) (I : List FixItem) (tv iv : Value) (F : Nat → Prop) (base g : Nat) (hF : ∀ b, F b → b < base) (hgb : base ≤ g) (hodd : I.length % 2 = 1) (hI : I.length ≤ 400)
    (hT : ∀ x ∈ T, 0 ≤ x.level ∧ x.level ≤ 9) (n : Nat) (ih : ∀ m, m < n → ClimbSaid T I tv iv F base g m) : ClimbSaid T I tv iv F base g n := by
  intro least outer s ov w hT1 hI1 heven hat hfuel hout hB
  have IH := Lib.hid ih
  clear ih
  obtain ⟨hB1, hown⟩ := hB
  obtain ⟨iA, ic, rfl, hic, hicm, _⟩ := hI1.form
  obtain ⟨ig, ioff, rfl, hFi, i0, i1, si, _⟩ := FixItem.get hI1 hat
  have c1 := hB1.cell (i := 1) rfl
  have c2 := hB1.cell (i := 2) rfl
  have hg := hB1.lt
  have hig : ig < w.heap.size := block_lt_of_cell i0
  have hat1 : (0 : Int) ≤ (s.at_ : Int) := by omega
  have hat2 : (s.at_ : Int) < (I.length : Int) := by omega
  have hnm : ¬ Mut g ov ig := by
    have h1 := hF ig hFi
    rintro (h | h)
    · omega
    · have := (hown.lt ig h).1; omega
  have HP := Lib.hid (fun (W : World) (hW1 : Bld W g tv (.slice (some ⟨ig, ioff, none⟩) I.length ic) s.at_ ov s.e) (hW2 : W.ownsRow base 53 4 ov s.out.length (nodesCells s.out)) =>
    put_any ⟨noOp, I[s.at_].n, 0, 0⟩ base g tv (.slice (some ⟨ig, ioff, none⟩) I.length ic) ov s.at_ s.e s.out.length (nodesCells s.out) W hW1 hW2 hgb (by omega))
  have hal := Lib.hid (fun (o : Obj) (p : Addr) {u : Value} (h : w.cell? p = some u) => ((Below.refl w.heap.size w).alloc (Nat.le_refl _) o).drew.cell (p := p) (block_lt_of_cell h) |>.trans h)
  generalize hres : fixLoop T I n least outer outer s.out.length (readLeaf I s) = res
  have HR := Lib.hid hres
  clear hres
  unfold FixSig.v
  go_enter Try.func47, Try.ntmps47
  go_wp2_with fail
  go_region_held3 (fun w' => w'.cell? ⟨g, 1, none⟩ = some (.slice (some ⟨ig, ioff, none⟩) I.length ic) ∧ w'.cell? ⟨g, 2, none⟩ = some (.int .i64 s.at_) ∧ w'.cell? ⟨ig, ioff + s.at_ * 2 + 1, none⟩ = some (.int .i64 I[s.at_].n))
    (first
      | go_keep
      | exact ⟨q1, q2, q3⟩)
    ((go_at_call 60; refine (HP.out _ (Blk.drew (Blk.alloc hB1 _)) ((hown.alloc _).drew)).mono ?_; rintro e w1 ⟨rfl, ov1, hB2, hown1, hk1, hob1⟩; have q1 := hB2.cell (i := 1) rfl; have q2 := hB2.cell (i := 2) rfl; have q3 := hk1.cell (p := ⟨ig, ioff + s.at_ * 2 + 1, none⟩) (hal.out _ _ i1) hnm))
  have hW := (Keeps.refl (Mut g ov) w).alloc (.cells #[.string outer.op, .int .i64 outer.side, .int .i64 outer.level] 47)
  have hkw : Keeps (Mut g ov) w w1 := hW.drew.trans hk1 (fun _ _ h => h)
  have hno : ¬ Mut g ov w.heap.size := by
    rintro (h | h)
    · omega
    · have := (hown.lt _ h).2; omega
  have hbo : Blk w1 w.heap.size 47 [.string outer.op, .int .i64 outer.side, .int .i64 outer.level] := ((Blk.new w _ _).drew).keeps hk1 hno
  have f2 := hB2.free 2
  have hz1 : w.heap.size < w1.heap.size := hbo.lt
  have o0 := hbo.cell (i := 0) rfl
  have o1 := hbo.cell (i := 1) rfl
  have o2 := hbo.cell (i := 2) rfl
  have hg1 : g ≠ w.heap.size := by omega
  clear hW hk1 q1 q3 c1 c2 i0 i1
  have hhz := hkw.size
  have hnl : ¬ Mut g ov w1.heap.size := by
    rintro (h | h)
    · omega
    · have := (hown.lt _ h).2; omega
  go_wp2
  go_loopg [7] n (fun k s7 wr => ∃ (left : Nat) (last : FixSig) (st : FixSt) (ov' : Value), s7 = .int .i64 left ∧ left ≤ 400 ∧ Blk wr w.heap.size 47 [.string outer.op, .int .i64 outer.side, .int .i64 outer.level] ∧
      Blk wr w1.heap.size 47 [.string last.op, .int .i64 last.side, .int .i64 last.level] ∧ Bst wr base g tv (.slice (some ⟨ig, ioff, none⟩) I.length ic) st ov' ∧ Keeps (Mut g ov) w wr ∧ (∀ k, ov'.ownBlock = some k → ov.ownBlock = some k ∨ w.heap.size ≤ k) ∧
      (st.at_ % 2 = 1 ∧ st.at_ ≤ I.length ∧ I.length ≤ st.at_ + k ∧ st.out.length ≤ st.at_ ∧ k ≤ n) ∧ Hid (res = fixLoop T I k least outer last left st))
  case atStart =>
    have hlf : leafOf I s.at_ = ⟨noOp, I[s.at_].n, 0, 0⟩ := by simp [leafOf, hat]
    refine ⟨s.out.length, outer, readLeaf I s, ov1, rfl, by omega, ?_, ?_, ⟨?_, ?_⟩, ?_, ?_, ?_, HR.out.symm⟩
    · exact (hbo.far (p := ⟨g, 2, none⟩) (by simp; omega) _).alloc _
    · have h := Blk.new (w1.setCell ⟨g, 2, none⟩ (.int .i64 (↑s.at_ + 1))) 47 [.string outer.op, .int .i64 outer.side, .int .i64 outer.level]
      simpa [World.setCell] using h
    · have h := Blk.alloc (Blk.set_ hB2 2 (.int .i64 (↑s.at_ + 1))) (.cells #[.string outer.op, .int .i64 outer.side, .int .i64 outer.level] 47)
      simpa [readLeaf, Bld] using h
    · have h := (ownsRow_setCell_other (a := ⟨g, 2, none⟩) hown1 (hB2.ne_own hown1 (by decide)) (.int .i64 (↑s.at_ + 1))).alloc (.cells #[.string outer.op, .int .i64 outer.side, .int .i64 outer.level] 47)
      simpa [readLeaf, nodesCells, hlf] using h
    · exact (hkw.setCell (fun _ => .inl rfl) _).alloc _
    · intro k hk
      rcases hob1 _ hk with h | h
      · exact .inl h
      · refine .inr ?_
        simp at h
        have : (w.alloc (.cells #[.string outer.op, .int .i64 outer.side, .int .i64 outer.level] 47)).drew.heap.size = w.heap.size + 1 := by show (w.alloc _).heap.size = _; simp
        omega
    · simp only [readLeaf, List.length_append, List.length_cons, List.length_nil]; omega
  case round =>
    obtain ⟨left, last, st, ov', rfl, hleft, hbo', hbl, ⟨hB3, hown3⟩, hkr, hobr, ⟨n1, n2, n3, n4, n5⟩, hno'⟩ := hrel
    have d1 := hB3.cell (i := 1) rfl
    have d2 := hB3.cell (i := 2) rfl
    have d4 := hB3.cell (i := 4) rfl
    have hgr := hB3.lt
    have d0 := hB3.cell (i := 0) rfl
    have hFm : ∀ b, F b → ¬ Mut g ov b := fun b hb => by
      have h1 := hF b hb
      rintro (h | h)
      · omega
      · have := (hown.lt b h).1; omega
    have hTr := hT1.keeps hkr hFm
    by_cases he : st.e = 0
    · have e0 : (st.e == 0) = true := by simpa using he
      by_cases hlt : st.at_ < I.length
      · obtain ⟨ig', ioff', hA, _, j0, _, sj, _⟩ := FixItem.get (hI1.keeps hkr hFm) hlt
        simp only [Option.some.injEq, Addr.mk.injEq, and_true] at hA
        obtain ⟨rfl, rfl⟩ := hA
        obtain ⟨m, rfl⟩ : ∃ m, gk = m + 1 := ⟨gk - 1, by omega⟩
        have hnot : ¬ (st.e ≠ 0 ∨ I.length ≤ st.at_) := by omega
        obtain ⟨x, hx⟩ : ∃ x, fixFind T I[st.at_].op = x := ⟨_, rfl⟩
        have hx' : fixFind T (opAt I st.at_) = x := by rw [opAt_get I _ hlt]; exact hx
        have hlev := fixFind_level T hT (opAt I st.at_)
        rw [hx'] at hlev
        have HX := Lib.hid hx'
        have HN := Lib.hid hnot
        have l0 : (0 : Int) ≤ (st.at_ : Int) := by omega
        have l1 : (st.at_ : Int) < (I.length : Int) := by omega
        have HF := Lib.hid (fun (W : World) (hb : Below wr.heap.size wr W) => fixFind_any T I[st.at_].op tv F W (hTr.later hb))
        rw [hx] at HF
        unfold FixSig.v at HF
        have hS := Lib.hid (fun (W : World) (hb : Below wr.heap.size wr W) =>
          (⟨(hb.cell (block_lt_of_cell d0)).trans d0, (hb.cell (block_lt_of_cell d1)).trans d1, (hb.cell (block_lt_of_cell d2)).trans d2, (hb.cell (block_lt_of_cell j0)).trans j0⟩ :
            W.cell? ⟨g, 0, none⟩ = some tv ∧ W.cell? ⟨g, 1, none⟩ = some (.slice (some ⟨ig, ioff, none⟩) I.length ic) ∧ W.cell? ⟨g, 2, none⟩ = some (.int .i64 st.at_) ∧ W.cell? ⟨ig, ioff + st.at_ * 2, none⟩ = some (.string I[st.at_].op)))
        clear hx hx' hnot he
        go_wp2_with fail
        go_quiet (fail)
        go_upto_region 5 with fail
        go_cut [9] (fun s9 wc => ∃ gx : Nat, s9 = .pointer (some ⟨gx, 0, none⟩) ∧ wr.heap.size ≤ gx ∧ Blk wc gx 47 [.string x.op, .int .i64 x.side, .int .i64 x.level] ∧ Below wr.heap.size wr wc)
        case first =>
          go_region_held3 (fun W => W.cell? ⟨g, 0, none⟩ = some tv ∧ W.cell? ⟨g, 1, none⟩ = some (.slice (some ⟨ig, ioff, none⟩) I.length ic) ∧ W.cell? ⟨g, 2, none⟩ = some (.int .i64 st.at_) ∧ W.cell? ⟨ig, ioff + st.at_ * 2, none⟩ = some (.string I[st.at_].op))
            (exact hS.out _ (by repeat (first | assumption | exact Below.refl _ _ | refine Below.drewN ?_ _ | refine Below.drew ?_ | refine Below.setCell ?_ (by first | exact Nat.le_refl _ | (simp; done) | (simp; omega)) _ | refine Below.alloc ?_ (by first | omega | (simp; done) | (simp; omega)) _)))
            ((go_at_call 26; refine (HF.out _ (by repeat (first | assumption | exact Below.refl _ _ | refine Below.drewN ?_ _ | refine Below.drew ?_ | refine Below.setCell ?_ (by first | exact Nat.le_refl _ | (simp; done) | (simp; omega)) _ | refine Below.alloc ?_ (by first | omega | (simp; done) | (simp; omega)) _))).mono ?_; rintro e w2 ⟨rfl, hb2⟩; have hw2 : Below wr.heap.size wr w2 := Below.trans (by repeat (first | assumption | exact Below.refl _ _ | refine Below.drewN ?_ _ | refine Below.drew ?_ | refine Below.setCell ?_ (by first | exact Nat.le_refl _ | (simp; done) | (simp; omega)) _ | refine Below.alloc ?_ (by first | omega | (simp; done) | (simp; omega)) _)) (hb2.mono (by simp)); have hz2 := hw2.size; try (have kb := Blk.later (g := wr.heap.size) (t := 47) (cs := [.string ⟨#[]⟩, .int .i64 0, .int .i64 0]) (by first | exact Blk.new _ _ _ | exact (Blk.new _ _ _).drew) hb2; have k0 := kb.cell (i := 0) rfl; have k1 := kb.cell (i := 1) rfl; have k2 := kb.cell (i := 2) rfl; have m0 := kb.free 0; have m1 := kb.free 1; have m2 := kb.free 2)))
          · go_wp2_with fail
            go_meet
            exact ⟨_, rfl, hz2, Blk.new _ _ [_, _, _], (by repeat (first | assumption | exact Below.refl _ _ | refine Below.drewN ?_ _ | refine Below.drew ?_ | refine Below.setCell ?_ (by first | exact Nat.le_refl _ | (simp; done) | (simp; omega)) _ | refine Below.alloc ?_ (by first | omega | (simp; done) | (simp; omega)) _))⟩
          · go_wp2_with fail
            go_meet
            exact ⟨_, rfl, Nat.le_refl _, ((kb.set_ 0 _).set_ 1 _).set_ 2 _, (by repeat (first | assumption | exact Below.refl _ _ | refine Below.drewN ?_ _ | refine Below.drew ?_ | refine Below.setCell ?_ (by first | exact Nat.le_refl _ | (simp; done) | (simp; omega)) _ | refine Below.alloc ?_ (by first | omega | (simp; done) | (simp; omega)) _))⟩
        case rest =>
          obtain ⟨gx, rfl, hgx, hbx, hbw⟩ := hcut
          have hkc : Keeps (Mut g ov) w wc := hkr.trans (Keeps.of_below (X := Mut g ov) hbw) (fun _ _ h => h)
          have hB4 := Blk.later hB3 hbw
          have hbo4 := hbo'.later hbw
          have hbl4 := hbl.later hbw
          have hown4 := own_keeps (X := fun _ => False) hown3 (Keeps.of_below hbw) (fun _ _ h => h)
          have x0 := hbx.cell (i := 0) rfl
          have x1 := hbx.cell (i := 1) rfl
          have x2 := hbx.cell (i := 2) rfl
          have y0 := hbo4.cell (i := 0) rfl
          have y1 := hbo4.cell (i := 1) rfl
          have y2 := hbo4.cell (i := 2) rfl
          have z0 := hbl4.cell (i := 0) rfl
          have z1 := hbl4.cell (i := 1) rfl
          have z2 := hbl4.cell (i := 2) rfl
          by_cases hlow : x.level < least
          · have HS := Lib.hid (hno'.out.trans (fixLoop_low T I _ least outer last left st HN.out x HX.out hlow))
            go_wp2_with fail
            go_ret
            exact ⟨ret_int (by rw [HS.out]), ov', ⟨by rw [HS.out]; exact hB4, by rw [HS.out]; exact hown4⟩, hkc, hobr⟩
          · have hbz := hbw.size
            have HA1 := Lib.hid (fun (W : World) => against_any x outer W)
            have HA2 := Lib.hid (fun (W : World) => against_any x last W)
            cases hag1 : fixAgainst x outer
            · rw [hag1] at HA1
              unfold FixSig.v at HA1 HA2
              cases hag2 : fixAgainst x last
              · rw [hag2] at HA2
                obtain ⟨r, hr⟩ : ∃ r, fixLoop T I m (nextLevel x) x x st.out.length (readLeaf I ⟨st.at_ + 1, st.out, st.e⟩) = r := ⟨_, rfl⟩
                have hgrow := fixLoop_grow T I hodd m (nextLevel x) x x st.out.length (readLeaf I ⟨st.at_ + 1, st.out, st.e⟩) (by simp [readLeaf]; omega) (by simp [readLeaf]; omega)
                rw [hr] at hgrow
                obtain ⟨g1, g2, g3, g4, g5⟩ := hgrow
                simp only [readLeaf, List.length_append, List.length_cons, List.length_nil] at g1 g4 g5
                have HS := Lib.hid (hno'.out.trans (fixLoop_on T I _ least outer last left st HN.out x HX.out hlow (by rw [hag1, hag2]; rfl) r hr))
                have HI := fun (W : World) (h1 : Sl W F FixSig.d T tv) (h2 : Sl W F FixItem.d I (.slice (some ⟨ig, ioff, none⟩) I.length ic)) (h3 : Bst W base g tv (.slice (some ⟨ig, ioff, none⟩) I.length ic) ⟨st.at_ + 1, st.out, st.e⟩ ov') =>
                  (IH.out m (by omega)) (nextLevel x) x ⟨st.at_ + 1, st.out, st.e⟩ ov' W h1 h2 (by simp; omega) (by simp; omega) (by simp; omega) (by simp; omega) h3
                simp only [hr] at HI
                unfold FixSig.v at HI
                have HII := Lib.hid HI
                clear HI hr hag1 hag2
                go_wp2_with fail
                refine (HA1.out _).mono ?_
                rintro e w3 ⟨rfl, hb3⟩
                have hbx5 := hbx.later hb3
                have hbl5 := hbl4.later hb3
                have x0' := hbx5.cell (i := 0) rfl
                have x1' := hbx5.cell (i := 1) rfl
                have x2' := hbx5.cell (i := 2) rfl
                have z0' := hbl5.cell (i := 0) rfl
                have z1' := hbl5.cell (i := 1) rfl
                have z2' := hbl5.cell (i := 2) rfl
                go_wp2_with fail
                refine (HA2.out _).mono ?_
                rintro e w4 ⟨rfl, hb4⟩
                have hbw4 : Below wr.heap.size wr w4 := hbw.trans ((hb3.mono hbw.size).trans (hb4.mono (Nat.le_trans hbw.size hb3.size)))
                have hB6 := Blk.later hB3 hbw4
                have hbx6 := hbx5.later hb4
                have hbl6 := hbl5.later hb4
                have hbo6 := hbo'.later hbw4
                have hown6 := own_keeps (X := fun _ => False) hown3 (Keeps.of_below hbw4) (fun _ _ h => h)
                have v2 := hB6.cell (i := 2) rfl
                have v3 := hB6.free 2
                have u0 := hbx6.cell (i := 0) rfl
                have u1 := hbx6.cell (i := 1) rfl
                have u2 := hbx6.cell (i := 2) rfl
                have hgx2 : g ≠ gx := by omega
                clear x0' x1' x2' z0' z1' z2' x0 x1 x2 y0 y1 y2 z0 z1 z2
                cases hside : (x.side == 1)
                all_goals
                  have HI := HII.out
                  clear HII
                  unfold nextLevel at HI
                  simp only [hside, if_true, if_false, Bool.false_eq_true] at HI
                  have HIJ := Lib.hid HI
                  clear HI
                  go_wp2_with fail
                  have hk5 : Keeps (Mut g ov) w (w4.setCell ⟨g, 2, none⟩ (.int .i64 (↑st.at_ + 1))) := (hkr.trans (Keeps.of_below (X := Mut g ov) hbw4) (fun _ _ h => h)).setCell (fun _ => .inl rfl) _
                  have hB7 : Bst (w4.setCell ⟨g, 2, none⟩ (.int .i64 (↑st.at_ + 1))) base g tv (.slice (some ⟨ig, ioff, none⟩) I.length ic) ⟨st.at_ + 1, st.out, st.e⟩ ov' :=
                    ⟨hB6.set_ 2 _, ownsRow_setCell_other (a := ⟨g, 2, none⟩) hown6 (own_ne_blk hown3 hB3 (by decide)) _⟩
                  have hbx7 := hbx6.far (p := ⟨g, 2, none⟩) (Ne.symm hgx2) (.int .i64 (↑st.at_ + 1))
                  have hbo7 := hbo6.far (p := ⟨g, 2, none⟩) (by simp; omega) (.int .i64 (↑st.at_ + 1))
                  have hbl7 := hbl6.far (p := ⟨g, 2, none⟩) (by simp; omega) (.int .i64 (↑st.at_ + 1))
                  refine (HIJ.out _ (hT1.keeps hk5 hFm) (hI1.keeps hk5 hFm) hB7).mono ?_
                  rintro e w6 ⟨rfl, ov'', ⟨hB8, hown8⟩, hk8, hob8⟩
                  have hmx : ¬ Mut g ov' gx := by
                    rintro (h | h)
                    · omega
                    · have := (hown3.lt _ h).2; omega
                  have hml : ¬ Mut g ov' w1.heap.size := by
                    rintro (h | h)
                    · omega
                    · exact absurd h (hbl.ne_own hown3 (by decide))
                  have hmo : ¬ Mut g ov' w.heap.size := by
                    rintro (h | h)
                    · omega
                    · exact absurd h (hbo'.ne_own hown3 (by decide))
                  have hbx8 := hbx7.keeps hk8 hmx
                  have hbl8 := hbl7.keeps hk8 hml
                  have hbo8 := hbo7.keeps hk8 hmo
                  have HP2 := Lib.hid (fun (W : World) (h1 : Bld W g tv (.slice (some ⟨ig, ioff, none⟩) I.length ic) r.1.at_ ov'' r.1.e) (h2 : W.ownsRow base 53 4 ov'' r.1.out.length (nodesCells r.1.out)) =>
                    put_any ⟨x.op, 0, left, r.2⟩ base g tv (.slice (some ⟨ig, ioff, none⟩) I.length ic) ov'' r.1.at_ r.1.e r.1.out.length (nodesCells r.1.out) W h1 h2 hgb (by omega))
                  have hmx2 : ¬ Mut g ov'' gx := by
                    rintro (h | h)
                    · omega
                    · exact absurd h (hbx8.ne_own hown8 (by decide))
                  have hml2 : ¬ Mut g ov'' w1.heap.size := by
                    rintro (h | h)
                    · omega
                    · exact absurd h (hbl8.ne_own hown8 (by decide))
                  have hmo2 : ¬ Mut g ov'' w.heap.size := by
                    rintro (h | h)
                    · omega
                    · exact absurd h (hbo8.ne_own hown8 (by decide))
                  have hgx3 : w1.heap.size ≠ gx := by have := hbl.lt; omega
                  have hgx4 : gx ≠ w1.heap.size := Ne.symm hgx3
                  have p0 := hbx8.cell (i := 0) rfl
                  have p1 := hbx8.cell (i := 1) rfl
                  have p2 := hbx8.cell (i := 2) rfl
                  have hz6 := hk8.size
                  clear hbx hbl4 hbo4 hbx5 hbl5 hbx6 hbl6 hbo6 hbl7 hbo7 hbx7 u0 u1 u2 v2 v3 d0 d1 d2 d4 hB4 hB6 hown6 hown4 HA1 HA2 HF hS HIJ IH HP
                  go_wp2_with fail
                  go_region_held3 (fun W => W.cell? ⟨gx, 0, none⟩ = some (.string x.op) ∧ W.cell? ⟨gx, 1, none⟩ = some (.int .i64 x.side) ∧ W.cell? ⟨gx, 2, none⟩ = some (.int .i64 x.level))
                    (first
                      | go_keep
                      | exact ⟨q0, q1, q2⟩)
                    ((go_at_call 60; refine (HP2.out _ (Blk.drew hB8) (hown8.drew)).mono ?_; rintro e w7 ⟨rfl, ov3, hB9, hown9, hk9, hob9⟩; have hbx9 := (hbx8.drew).keeps hk9 hmx2; have q0 := hbx9.cell (i := 0) rfl; have q1 := hbx9.cell (i := 1) rfl; have q2 := hbx9.cell (i := 2) rfl; have hbl9 := (hbl8.drew).keeps hk9 hml2; have r0 := hbl9.cell (i := 0) rfl; have r1 := hbl9.cell (i := 1) rfl; have r2 := hbl9.cell (i := 2) rfl; have t0 := hbl9.free 0; have t1 := hbl9.free 1; have t2 := hbl9.free 2))
                  go_wp2
                  have hbo9 := (hbo8.drew).keeps hk9 hmo2
                  have hn9 : ov3.ownBlock ≠ some w1.heap.size := hbl9.ne_own hown9 (by decide)
                  go_roundg m
                  case measure => omega
                  case rel =>
                    refine ⟨r.1.out.length, x, ⟨r.1.at_, r.1.out ++ [(⟨x.op, 0, (left : Int), (r.2 : Int)⟩ : FixNode)], r.1.e⟩, ov3, rfl, by omega, ?_, ((hbl9.set_ 0 _).set_ 1 _).set_ 2 _, ⟨?_, ?_⟩, ?_, ?_, ⟨g2, g3, by show I.length ≤ r.1.at_ + m; omega, ?_, by omega⟩, HS.out⟩
                    · exact ((hbo9.far (by simp; omega) _).far (by simp; omega) _).far (by simp; omega) _
                    · exact ((Blk.far hB9 (by simp; omega) _).far (by simp; omega) _).far (by simp; omega) _
                    · have h := ownsRow_setCell_other (a := ⟨w1.heap.size, 2, none⟩) (ownsRow_setCell_other (a := ⟨w1.heap.size, 1, none⟩) (ownsRow_setCell_other (a := ⟨w1.heap.size, 0, none⟩) hown9 hn9 (.string x.op)) hn9 (.int .i64 x.side)) hn9 (.int .i64 x.level)
                      simpa [nodesCells] using h
                    · refine (((hk5.trans (hk8.drew.trans hk9 ?_) ?_).setCell ?_ _).setCell ?_ _).setCell ?_ _
                      · intro i hi hm
                        rcases hm with h | h
                        · exact .inl h
                        · rcases hob8 _ h with h | h
                          · exact .inr h
                          · omega
                      · intro i hi hm
                        rcases hm with h | h
                        · exact .inl h
                        · rcases hobr _ h with h | h
                          · exact .inr h
                          · omega
                      all_goals (intro h; simp at h; omega)
                    · intro k hk
                      have hz5 := hk5.size
                      rcases hob9 _ hk with h | h
                      · rcases hob8 _ h with h | h
                        · exact hobr _ h
                        · exact .inr (by omega)
                      · refine .inr ?_
                        have : w6.drew.heap.size = w6.heap.size := rfl
                        omega
                    · simp; omega
              · rw [hag2] at HA2
                have HS := Lib.hid (hno'.out.trans (fixLoop_bad T I _ least outer last left st HN.out x HX.out hlow (by rw [hag1, hag2]; rfl)))
                clear hag1 hag2
                go_wp2_with fail
                refine (HA1.out _).mono ?_
                rintro e w3 ⟨rfl, hb3⟩
                have hbx5 := hbx.later hb3
                have hbl5 := hbl4.later hb3
                have x0' := hbx5.cell (i := 0) rfl
                have x1' := hbx5.cell (i := 1) rfl
                have x2' := hbx5.cell (i := 2) rfl
                have z0' := hbl5.cell (i := 0) rfl
                have z1' := hbl5.cell (i := 1) rfl
                have z2' := hbl5.cell (i := 2) rfl
                go_wp2_with fail
                refine (HA2.out _).mono ?_
                rintro e w4 ⟨rfl, hb4⟩
                have hbw4 : Below wr.heap.size wr w4 := hbw.trans ((hb3.mono hbw.size).trans (hb4.mono (Nat.le_trans hbw.size hb3.size)))
                have hB6 := Blk.later hB3 hbw4
                have h4 := hB6.cell (i := 4) rfl
                have m4 := hB6.free 4
                go_wp2
                go_ret
                exact ⟨ret_int (by rw [HS.out]), ov', ⟨by rw [HS.out]; exact hB6.set_ 4 _, by rw [HS.out]; exact ownsRow_setCell_other (a := ⟨g, 4, none⟩) (own_keeps (X := fun _ => False) hown3 (Keeps.of_below hbw4) (fun _ _ h => h)) (own_ne_blk hown3 hB3 (by decide)) _⟩,
                  (hkr.trans (Keeps.of_below (X := Mut g ov) hbw4) (fun _ _ h => h)).setCell (fun _ => .inl rfl) _, hobr⟩
            · rw [hag1] at HA1
              have HS := Lib.hid (hno'.out.trans (fixLoop_bad T I _ least outer last left st HN.out x HX.out hlow (by rw [hag1]; rfl)))
              clear hag1
              unfold FixSig.v at HA1
              go_wp2_with fail
              refine (HA1.out _).mono ?_
              rintro e w3 ⟨rfl, hb3⟩
              have h4 := (hb3.cell (block_lt_of_cell (hB4.cell (i := 4) rfl))).trans (hB4.cell (i := 4) rfl)
              have hB5 := Blk.later hB4 hb3
              have m4 := hB5.free 4
              go_wp2
              go_ret
              exact ⟨ret_int (by rw [HS.out]), ov', ⟨by rw [HS.out]; exact hB5.set_ 4 _, by rw [HS.out]; exact ownsRow_setCell_other (a := ⟨g, 4, none⟩) (own_keeps (X := fun _ => False) hown4 (Keeps.of_below hb3) (fun _ _ h => h)) (own_ne_blk hown3 hB3 (by decide)) _⟩,
                (hkc.trans (Keeps.of_below (X := Mut g ov) hb3) (fun _ _ h => h)).setCell (fun _ => .inl rfl) _, hobr⟩
      · have HS := Lib.hid (hno'.out.trans (fixLoop_stop T I _ least outer last left st (.inr (by omega))))
        have l0 : (I.length : Int) ≤ (st.at_ : Int) := by omega
        clear he
        go_wp2_with fail
        go_quiet (fail)
        go_wp2
        go_ret
        exact ⟨ret_int (by rw [HS.out]), ov', ⟨by rw [HS.out]; exact hB3.drewN _, by rw [HS.out]; exact hown3⟩, hkr.drewN _, hobr⟩
    · have e0 : (st.e == 0) = false := by simpa using he
      have HS := Lib.hid (hno'.out.trans (fixLoop_stop T I _ least outer last left st (.inl he)))
      go_wp2_with fail
      go_quiet (fail)
      go_wp2
      go_ret
      exact ⟨ret_int (by rw [HS.out]), ov', ⟨by rw [HS.out]; exact hB3.drewN _, by rw [HS.out]; exact hown3⟩, hkr.drewN _, hobr⟩

theorem climb_any (T : List FixSig) (I : List FixItem) (tv iv : Value) (F : Nat → Prop) (base g : Nat) (hF : ∀ b, F b → b < base) (hgb : base ≤ g) (hodd : I.length % 2 = 1) (hI : I.length ≤ 400)
    (hT : ∀ x ∈ T, 0 ≤ x.level ∧ x.level ≤ 9) (n : Nat) : ClimbSaid T I tv iv F base g n := by
  induction n using Nat.strongRecOn with
  | ind n ih => exact climb_step T I tv iv F base g hF hgb hodd hI hT n ih
end Go.Proofs.Ytpeabfbljiaedaa
