/- fixity.Build: what it returns, for every table and sequence. No conditions. -/
import Derived.Test.YtpeabfbljiaedaaFixClimbB
import Derived.Test.YtpeabfbljiaedaaFixLaw
import Derived.Deep.Onto
namespace Go.Proofs.Ytpeabfbljiaedaa
open Go.RowKit Go.Shelf

def fixAltFrom : Nat → List FixItem → Bool
  | _, [] => true
  | i, x :: r => if (x.op.toList.isEmpty != (i % 2 == 0)) = true then false else fixAltFrom (i + 1) r
theorem fixAlt_step (I : List FixItem) (k : Nat) (h : k < I.length) : fixAltFrom k (I.drop k) = if (I[k].op.toList.isEmpty != (k % 2 == 0)) = true then false else fixAltFrom (k + 1) (I.drop (k + 1)) := by
  rw [List.drop_eq_getElem_cons h, fixAltFrom]
theorem fixAlt_end (I : List FixItem) (k : Nat) (h : I.length ≤ k) : fixAltFrom k (I.drop k) = true := by rw [List.drop_eq_nil_of_le h]; rfl

def fixStart : FixSig := ⟨noOp, 0, -1⟩
def fixRun (T : List FixSig) (I : List FixItem) : FixSt × Nat := fixLoop T I I.length 0 fixStart fixStart 0 (readLeaf I ⟨0, [], 0⟩)
def fixBuild (T : List FixSig) (I : List FixItem) : List FixNode × Int :=
  if fixCheck T ≠ 0 then ([], fixCheck T)
  else if 400 < I.length then ([], 2)
  else if I.length % 2 = 0 then ([], 3)
  else if fixAltFrom 0 I = false then ([], 3)
  else if (fixRun T I).1.e ≠ 0 then ([], (fixRun T I).1.e)
  else ((fixRun T I).1.out, 0)

theorem fixCheckFrom_zero : ∀ (r pre : List FixSig), fixCheckFrom pre r = 0 → ∀ x ∈ r, x.op.toList ≠ [] ∧ fixBad x = false
  | [], _, _, x, hx => by cases hx
  | y :: r, pre, h, x, hx => by
    rw [fixCheckFrom] at h
    by_cases c1 : y.op.toList = []
    · rw [if_pos c1] at h; omega
    · rw [if_neg c1] at h
      by_cases c2 : fixBad y = true
      · rw [if_pos c2] at h; omega
      · rw [if_neg c2] at h
        by_cases c3 : pre.any (sameOp y.op) = true
        · rw [if_pos c3] at h; omega
        · rw [if_neg c3] at h
          rcases List.mem_cons.1 hx with rfl | hx
          · exact ⟨c1, by simpa using c2⟩
          · exact fixCheckFrom_zero r _ h x hx
theorem fixCheck_zero {T : List FixSig} (h : fixCheck T = 0) : ∀ x ∈ T, x.op.toList ≠ [] ∧ 0 ≤ x.side ∧ x.side ≤ 2 ∧ 0 ≤ x.level ∧ x.level ≤ 9 := by
  intro x hx
  unfold fixCheck at h
  split at h
  · omega
  · obtain ⟨h1, h2⟩ := fixCheckFrom_zero T [] h x hx
    exact ⟨h1, fixBad_not x (by rw [h2]; simp)⟩
theorem fixFind_side (T : List FixSig) (hT : ∀ x ∈ T, 0 ≤ x.side ∧ x.side ≤ 2) (op : ByteArray) : 0 ≤ (fixFind T op).side ∧ (fixFind T op).side ≤ 2 := by
  induction T with
  | nil => simp [fixFind]
  | cons x l ih =>
    rw [fixFind]
    split
    · exact hT x (by simp)
    · exact ih (fun y hy => hT y (by simp [hy]))
theorem toList_noOp {s : ByteArray} : s.toList = [] ↔ s = noOp := by
  constructor
  · intro h; exact str_inj (by rw [h, ByteArray.toList_eq]; rfl)
  · rintro rfl; rw [ByteArray.toList_eq]; rfl
theorem fixAlt_all : ∀ (r : List FixItem) (i : Nat), fixAltFrom i r = true → ∀ k (h : k < r.length), (r[k].op = noOp ↔ (i + k) % 2 = 0)
  | [], _, _, k, h => absurd h (by simp)
  | x :: r, i, ha, k, h => by
    rw [fixAltFrom] at ha
    by_cases c : (x.op.toList.isEmpty != (i % 2 == 0)) = true
    · rw [if_pos c] at ha; cases ha
    · rw [if_neg c] at ha
      cases k with
      | zero =>
        simp only [bne_iff_ne, ne_eq, Decidable.not_not] at c
        simp only [List.getElem_cons_zero, Nat.add_zero]
        rw [← toList_noOp, ← List.isEmpty_iff, c]; simp
      | succ k =>
        have := fixAlt_all r (i + 1) ha k (by simpa using h)
        rw [show i + (k + 1) = i + 1 + k by omega]
        simpa using this

/-- What a run of the climb over a checked table and a well made sequence leaves. -/
theorem fixRun_out {T : List FixSig} {I : List FixItem} (hc : fixCheck T = 0) (hodd : I.length % 2 = 1) (ha : fixAltFrom 0 I = true) :
    Out T I 0 fixStart 0 (readLeaf I ⟨0, [], 0⟩) (fixRun T I) := by
  have hT := fixCheck_zero hc
  unfold fixRun
  refine fixLoop_out T I (fixFind_side T (fun x hx => ⟨(hT x hx).2.1, (hT x hx).2.2.1⟩)) hodd ?_ I.length 0 fixStart fixStart 0 _ ⟨by simp [readLeaf], ?_, .inl ?_, by simp [readLeaf], by simp [readLeaf]; omega⟩ (by simp [readLeaf])
  · intro k hk h1 h2
    have := (fixAlt_all I 0 ha k hk).1 (by rw [← h2, opAt_get I k hk])
    omega
  · intro i hi
    simp [readLeaf] at hi
    subst hi
    refine .inl ⟨rfl, rfl, rfl, 0, by omega, ?_⟩
    simp [readLeaf, nodeAt, leafOf]
  · simp [readLeaf, nodeAt, leafOf]

theorem wf_small (n : Nat) (h : n ≤ 1000) : (Lit.int .i64 (n : Int)).wf = true := WalkArith.wf_i64 (by omega)
theorem items_wf {w : World} {F : Nat → Prop} {I : List FixItem} {v : Value} (h : Sl w F FixItem.d I v) (k : Nat) (hk : k < I.length) : I[k].op.size ≤ maxLen ∧ (Lit.int .i64 I[k].n).wf = true := by
  obtain ⟨A, c, rfl, _⟩ := h.form
  obtain ⟨_, _, _, _, _, _, h1, h2⟩ := FixItem.get h hk
  exact ⟨h1, h2⟩
theorem nodes_rp {w w' : World} {F G : Nat → Prop} {T : List FixSig} {I : List FixItem} {iv : Value} (hI : Sl w F FixItem.d I iv) {t : List FixNode} (ht : NodesOk T I t) (hl : t.length ≤ 1000) :
    RpAll w' G (t.map FixNode.d) (nodesCells t) := by
  have one : ∀ i (h : i < t.length), Rp w' G (FixNode.d t[i]) t[i].cells := by
    intro i h
    have he : nodeAt t i = t[i] := by simp [nodeAt, h]
    have hn := ht i h
    unfold NodeOk at hn
    rw [he] at hn
    rw [FixNode.rp]
    refine ⟨rfl, ?_⟩
    rcases hn with ⟨h1, h2, h3, k, hk, h4⟩ | ⟨h1, h2, ⟨k, hk, h3⟩, a, b, h4, h5, h6, h7, _⟩
    · have := items_wf hI k hk
      rw [h1, h2, h3, h4]
      refine ⟨Nat.zero_le _, by simpa [hk] using this.2, wf_small 0 (by omega), wf_small 0 (by omega)⟩
    · have := items_wf hI k hk
      rw [h2, h3, h4, h5, opAt_get I k hk]
      exact ⟨this.1, wf_small 0 (by omega), wf_small a (by omega), wf_small b (by omega)⟩
  clear ht
  induction t with
  | nil => simp [nodesCells, RpAll]
  | cons x t ih =>
    rw [List.map_cons, rpAll_cons]
    refine ⟨x.cells, nodesCells t, by simp [nodesCells], one 0 (by simp), ih (by simp at hl; omega) (fun i h => by have := one (i + 1) (by simpa using h); simp only [List.getElem_cons_succ] at this; exact this)⟩

def BuildOwn (r : List FixNode × Int) (w : World) (e : Ending) (w' : World) : Prop :=
  ∃ v, e = .returned (.tuple #[v, .int .i64 r.2]) ∧ Sl w' (fun b => w.heap.size ≤ b) FixNode.d r.1 v ∧ Below w.heap.size w w' ∧ w'.ownsRow w.heap.size 53 4 v r.1.length (nodesCells r.1)
def BuildPost (r : List FixNode × Int) (w : World) (e : Ending) (w' : World) : Prop :=
  ∃ v, e = .returned (.tuple #[v, .int .i64 r.2]) ∧ Sl w' (fun b => w.heap.size ≤ b) FixNode.d r.1 v ∧ Below w.heap.size w w'

set_option maxRecDepth 100000 in
set_option maxHeartbeats 1000000 in
theorem build_own (T : List FixSig) (I : List FixItem) (tv iv : Value) (F : Nat → Prop) (w : World) (hT : Sl w F FixSig.d T tv) (hI : Sl w F FixItem.d I iv) (hF : ∀ b, F b → b < w.heap.size) :
    Calls Try.prog 27 #[tv, iv] w (BuildOwn (fixBuild T I) w) := by
  obtain ⟨iA, ic, rfl, hic, hicm, _⟩ := hI.form
  obtain ⟨tA, tc, rfl, htc, htcm, _⟩ := hT.form
  have hl : I.length ≤ 9223372036854775807 := by unfold maxLen at hicm; omega
  have HC := Lib.hid (fixCheck_any T _ F w hT)
  by_cases hc0 : fixCheck T = 0
  · have c0 : (fixCheck T != 0) = false := by simpa using hc0
    by_cases hbig : 400 < I.length
    · have HS := Lib.hid (show fixBuild T I = ([], 2) from by unfold fixBuild; rw [if_neg (by simpa using hc0), if_pos hbig])
      clear hc0
      go_enter Try.func27, Try.ntmps27
      go_wp2_with fail
      refine HC.out.mono ?_
      rintro e w1 ⟨rfl, hb1⟩
      go_wp2
      go_ret2
      exact ⟨_, by rw [HS.out]; rfl, by rw [HS.out]; exact Sl.nil_, hb1, by rw [HS.out]; exact World.ownsRow_nil _ _ _ _⟩
    · by_cases hev : I.length % 2 = 0
      · have HS := Lib.hid (show fixBuild T I = ([], 3) from by unfold fixBuild; rw [if_neg (by simpa using hc0), if_neg hbig, if_pos hev])
        have e0 : ((I.length : Int) % 2 == 0) = true := by rw [beq_iff_eq]; omega
        clear hc0 hev
        go_enter Try.func27, Try.ntmps27
        go_wp2_with fail
        refine HC.out.mono ?_
        rintro e w1 ⟨rfl, hb1⟩
        go_wp2
        go_ret2
        exact ⟨_, by rw [HS.out]; rfl, by rw [HS.out]; exact Sl.nil_, hb1, by rw [HS.out]; exact World.ownsRow_nil _ _ _ _⟩
      · have e0 : ((I.length : Int) % 2 == 0) = false := by rw [beq_eq_false_iff_ne]; omega
        have HZ := Lib.hid hc0
        have HE := Lib.hid hev
        have HB := Lib.hid (show fixBuild T I = if fixAltFrom 0 (I.drop 0) = false then ([], 3) else if (fixRun T I).1.e ≠ 0 then ([], (fixRun T I).1.e) else ((fixRun T I).1.out, 0) from by
          rw [List.drop_zero]; conv => lhs; unfold fixBuild
          rw [if_neg (by simpa using hc0), if_neg hbig, if_neg hev])
        clear hc0 hev
        go_enter Try.func27, Try.ntmps27
        go_wp2_with fail
        refine HC.out.mono ?_
        rintro e w1 ⟨rfl, hb1⟩
        go_wp2
        go_loopw [27] (fun i wr => ∃ k : Nat, k ≤ I.length ∧ i = .int .i64 k ∧ Below w.heap.size w wr ∧ Hid (fixAltFrom 0 (I.drop 0) = fixAltFrom k (I.drop k))) (fun i _ => I.length - (intOf i).toNat)
        case atStart => exact ⟨0, Nat.zero_le _, rfl, hb1, rfl⟩
        case round =>
          obtain ⟨k, hk, rfl, hb, hno⟩ := hrel
          have hz := hb.size
          by_cases hlt : k < I.length
          · obtain ⟨g, off, rfl, hFg, j0, j1, sj, _⟩ := FixItem.get (hI.later hb) hlt
            have hst := hno.out.trans (fixAlt_step I k hlt)
            cases hem : I[k].op.toList.isEmpty
            · by_cases hp : k % 2 = 0
              · rw [hem, if_pos (by simp [hp])] at hst
                have HS := Lib.hid (HB.out.trans (if_pos hst))
                have p0 : ((k : Int) % 2 == 0) = true := by rw [beq_iff_eq]; omega
                clear hst hp
                go_wp2
                go_ret2
                exact ⟨_, by rw [HS.out]; rfl, by rw [HS.out]; exact Sl.nil_, hb.alloc (by omega) _, by rw [HS.out]; exact World.ownsRow_nil _ _ _ _⟩
              · rw [hem, if_neg (by simp [hp])] at hst
                have HS := Lib.hid hst
                have p0 : ((k : Int) % 2 == 0) = false := by rw [beq_eq_false_iff_ne]; omega
                clear hst hp
                go_wp2
                go_roundw
                case rel => exact ⟨k + 1, by omega, by go_num, hb.alloc (by omega) _, HS.out⟩
                case measure => simp [intOf]; omega
            · by_cases hp : k % 2 = 0
              · rw [hem, if_neg (by simp [hp])] at hst
                have HS := Lib.hid hst
                have p0 : ((k : Int) % 2 == 0) = true := by rw [beq_iff_eq]; omega
                clear hst hp
                go_wp2
                go_roundw
                case rel => exact ⟨k + 1, by omega, by go_num, hb.alloc (by omega) _, HS.out⟩
                case measure => simp [intOf]; omega
              · rw [hem, if_pos (by simp [hp])] at hst
                have HS := Lib.hid (HB.out.trans (if_pos hst))
                have p0 : ((k : Int) % 2 == 0) = false := by rw [beq_eq_false_iff_ne]; omega
                clear hst hp
                go_wp2
                go_ret2
                exact ⟨_, by rw [HS.out]; rfl, by rw [HS.out]; exact Sl.nil_, hb.alloc (by omega) _, by rw [HS.out]; exact World.ownsRow_nil _ _ _ _⟩
          · have halt : fixAltFrom 0 (I.drop 0) = true := hno.out.trans (fixAlt_end I k (by omega))
            have HS := HB.out
            rw [if_neg (by rw [halt]; simp)] at HS
            rw [List.drop_zero] at halt
            have HO := Lib.hid (fixRun_out HZ.out (by have := HE.out; omega) halt)
            have hTT := fixCheck_zero HZ.out
            obtain ⟨r, hr⟩ : ∃ r, fixRun T I = r := ⟨_, rfl⟩
            have HG : ∀ base, w.heap.size ≤ base → ∀ W, Sl W F FixSig.d T (.slice tA T.length tc) → Sl W F FixItem.d I (.slice iA I.length ic) → Bst W base base (.slice tA T.length tc) (.slice iA I.length ic) ⟨0, [], 0⟩ (.slice none 0 0) →
                Calls Try.prog 47 #[.pointer (some ⟨base, 0, none⟩), .int .i64 0, .agg #[.string ⟨#[]⟩, .int .i64 0, .int .i64 (-1)]] W (ClimbPost (.slice tA T.length tc) (.slice iA I.length ic) base base (.slice none 0 0) r W) := by
              intro base hbase W h1 h2 h3
              rw [← hr]
              exact climb_any T I _ _ F base base (fun b h => Nat.lt_of_lt_of_le (hF b h) hbase) (Nat.le_refl _) (by have := HE.out; omega) (by omega) (fun x hx => ⟨(hTT x hx).2.2.2.1, (hTT x hx).2.2.2.2⟩) I.length 0 fixStart ⟨0, [], 0⟩ (.slice none 0 0) W h1 h2 rfl (by have := HE.out; simp only; omega) (by simp) (by simp) h3
            have HGG := Lib.hid HG
            clear HG
            rw [hr] at HS HO
            have HSS := Lib.hid HS
            have hgr : r.1.out.length ≤ 1000 := by
              have := fixLoop_grow T I (by have := HE.out; omega) I.length 0 fixStart fixStart 0 (readLeaf I ⟨0, [], 0⟩) (by simp [readLeaf]) (by have := HE.out; simp [readLeaf]; omega)
              rw [show fixLoop T I I.length 0 fixStart fixStart 0 (readLeaf I ⟨0, [], 0⟩) = r from hr] at this
              simp [readLeaf] at this
              omega
            clear HS halt hTT hr
            have hbn : Below w.heap.size w (wr.alloc (.cells #[.slice tA T.length tc, .slice iA I.length ic, .int .i64 0, .slice none 0 0, .int .i64 0] 89)) := hb.alloc (by omega) _
            go_wp2_with fail
            refine (HGG.out wr.heap.size hb.size _ (hT.later hbn) (hI.later hbn) ⟨Blk.new _ _ [_, _, _, _, _], World.ownsRow_nil _ _ _ _⟩).mono ?_
            rintro e w2 ⟨rfl, ov, ⟨hBx, hownx⟩, hkx, hobx⟩
            have b4 := hBx.cell (i := 4) rfl
            have b3 := hBx.cell (i := 3) rfl
            have hb2 : Below w.heap.size w w2 := hbn.trans (hkx.below (fun i hi => by
              rcases hi with h | h
              · omega
              · simp [Value.ownBlock] at h) hbn.size)
            by_cases he : r.1.e = 0
            · have e1 : (r.1.e != 0) = false := by simpa using he
              rw [if_neg (by simpa using he)] at HSS
              clear he
              go_wp2_with fail
              go_ret2
              refine ⟨ov, by rw [HSS.out]; rfl, ?_, hb2, by rw [HSS.out]; exact hownx.mono (by omega)⟩
              rw [HSS.out]
              refine Sl.of_own hownx rfl (nodes_rp (F := F) (G := fun _ => False) hI HO.out.ok hgr) (fun _ h => h.elim) (fun b hb => ?_)
              rcases hobx b hb with h | h
              · simp [Value.ownBlock] at h
              · simp at h; omega
            · have e1 : (r.1.e != 0) = true := by simpa using he
              rw [if_pos he] at HSS
              clear he
              go_wp2_with fail
              go_quiet (fail)
              go_wp2
              go_ret2
              exact ⟨_, by rw [HSS.out]; rfl, by rw [HSS.out]; exact Sl.nil_, Below.drewN hb2 _, by rw [HSS.out]; exact World.ownsRow_nil _ _ _ _⟩
  · have c0 : (fixCheck T != 0) = true := by simpa using hc0
    have HS := Lib.hid (show fixBuild T I = ([], fixCheck T) from by unfold fixBuild; rw [if_pos hc0])
    clear hc0
    go_enter Try.func27, Try.ntmps27
    go_wp2_with fail
    refine HC.out.mono ?_
    rintro e w1 ⟨rfl, hb1⟩
    go_wp2
    go_ret2
    exact ⟨_, by rw [HS.out]; rfl, by rw [HS.out]; exact Sl.nil_, hb1, by rw [HS.out]; exact World.ownsRow_nil _ _ _ _⟩

theorem build_any (T : List FixSig) (I : List FixItem) (tv iv : Value) (F : Nat → Prop) (w : World) (hT : Sl w F FixSig.d T tv) (hI : Sl w F FixItem.d I iv) (hF : ∀ b, F b → b < w.heap.size) :
    Calls Try.prog 27 #[tv, iv] w (BuildPost (fixBuild T I) w) :=
  (build_own T I tv iv F w hT hI hF).mono fun _ _ ⟨v, h1, h2, h3, _⟩ => ⟨v, h1, h2, h3⟩
end Go.Proofs.Ytpeabfbljiaedaa
