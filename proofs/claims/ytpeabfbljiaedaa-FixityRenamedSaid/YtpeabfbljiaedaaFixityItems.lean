/- FixityItems: for every table and sequence the law returns true: the operands and operators of a tree in order are the sequence. No conditions. -/
import Derived.Test.YtpeabfbljiaedaaFixLawB
namespace Go.Proofs.Ytpeabfbljiaedaa
open Go.RowKit Go.Shelf

def c3 : List FixItem := [⟨noOp, 1⟩, ⟨⟨#[43]⟩, 0⟩, ⟨noOp, 2⟩]
theorem c3_build : (fixBuild [] c3).2 = 0 ∧ (fixBuild [] c3).1.length = 3 := by
  have h1 : fixCheck [] = 0 := by simp [fixCheck, fixCheckFrom]
  have e0 : noOp.toList = [] := toList_noOp.2 rfl
  have e1 : (⟨#[43]⟩ : ByteArray).toList = [43] := by rw [ByteArray.toList_eq]
  have h2 : fixAltFrom 0 c3 = true := by simp [c3, fixAltFrom, e0, e1]
  have h3 : (fixRun [] c3).1.e = 0 ∧ (fixRun [] c3).1.out.length = 3 := by
    unfold fixRun c3
    simp [fixLoop, readLeaf, fixFind, opAt, fixAgainst, fixStart]
  unfold fixBuild
  rw [if_neg (by rw [h1]; simp), if_neg (by simp [c3]), if_neg (by simp [c3]), if_neg (by rw [h2]; simp), if_neg (by rw [h3.1]; simp)]
  exact ⟨rfl, h3.2⟩

/-- An operator's number is struck. -/
def strike (x : FixItem) : FixItem := if x.op = noOp then x else ⟨x.op, 0⟩
/-- The first k are struck. -/
def struck (l : List FixItem) (k : Nat) : List FixItem := (l.take k).map strike ++ l.drop k
theorem struck_len (l : List FixItem) (k : Nat) : (struck l k).length = l.length := by simp [struck]; omega
theorem struck_get (l : List FixItem) (k i : Nat) (h : i < l.length) : (struck l k)[i]? = some (if i < k then strike l[i] else l[i]) := by
  unfold struck
  by_cases hi : i < k
  · rw [if_pos hi, List.getElem?_append_left (by simp; omega)]
    simp [hi, h]
  · rw [if_neg hi, List.getElem?_append_right (by simp; omega)]
    simp only [List.length_map, List.length_take, List.getElem?_drop]
    rw [show k + (i - min k l.length) = i by omega]
    exact List.getElem?_eq_getElem h
theorem struck_succ (l : List FixItem) (k : Nat) (h : k < l.length) : struck l (k + 1) = (struck l k).set k (strike l[k]) := by
  apply List.ext_getElem?
  intro i
  rcases Nat.lt_or_ge i l.length with hi | hi
  · rw [struck_get l _ i hi, List.getElem?_set, struck_len]
    by_cases e : k = i
    · subst e; simp [h]
    · rw [if_neg e, struck_get l _ i hi]
      by_cases h2 : i < k
      · rw [if_pos h2, if_pos (by omega)]
      · rw [if_neg h2, if_neg (by omega)]
  · rw [List.getElem?_eq_none (by rw [struck_len]; exact hi), List.getElem?_eq_none (by rw [List.length_set, struck_len]; exact hi)]
theorem struck_all (l : List FixItem) (k : Nat) (h : l.length ≤ k) : struck l k = l.map strike := by
  unfold struck; rw [List.take_of_length_le h, List.drop_eq_nil_of_le h, List.append_nil]
theorem itemCells_op (m : List FixItem) (k : Nat) (x : FixItem) (h : m[k]? = some x) : (itemCells m)[k * 2]? = some (.string x.op) ∧ (itemCells m)[k * 2 + 1]? = some (.int .i64 x.n) := by
  induction m generalizing k with
  | nil => simp at h
  | cons y m ih =>
    cases k with
    | zero => simp at h; subst h; simp [itemCells, FixItem.cells]
    | succ k =>
      have := ih k (by simpa using h)
      have e : itemCells (y :: m) = [.string y.op, .int .i64 y.n] ++ itemCells m := by simp [itemCells, FixItem.cells]
      rw [e]
      constructor
      · rw [List.getElem?_append_right (by simp; omega), ← this.1]; congr 1; simp; omega
      · rw [List.getElem?_append_right (by simp; omega), ← this.2]; congr 1; simp; omega
theorem itemCells_set (m : List FixItem) (k : Nat) (x : FixItem) (h : m[k]? = some x) : (itemCells m).set (k * 2 + 1) (.int .i64 0) = itemCells (m.set k ⟨x.op, 0⟩) := by
  induction m generalizing k with
  | nil => simp at h
  | cons y m ih =>
    have e : ∀ (z : FixItem) (q : List FixItem), itemCells (z :: q) = [.string z.op, .int .i64 z.n] ++ itemCells q := fun z q => by simp [itemCells, FixItem.cells]
    cases k with
    | zero => simp at h; subst h; simp [e]
    | succ k =>
      have := ih k (by simpa using h)
      rw [List.set_cons_succ, e, e, ← this, show (k + 1) * 2 + 1 = (k * 2 + 1) + 1 + 1 by omega]
      rfl
theorem itemCells_rp {w : World} {F : Nat → Prop} : ∀ (l : List FixItem) (xs : List Value), RpAll w F (l.map FixItem.d) xs → xs = itemCells l ∧ ∀ x ∈ l, ItemOk x
  | [], xs, h => by simp only [List.map_nil, RpAll] at h; exact ⟨by simp [h, itemCells], by simp⟩
  | x :: l, xs, h => by
    rw [List.map_cons, rpAll_cons] at h
    obtain ⟨a, b, rfl, h1, h2⟩ := h
    rw [FixItem.rp] at h1
    obtain ⟨h3, h4⟩ := itemCells_rp l b h2
    refine ⟨by rw [h1.1, h3]; simp [itemCells, FixItem.cells], fun y hy => ?_⟩
    rcases List.mem_cons.1 hy with rfl | hy
    · exact h1.2
    · exact h4 y hy
theorem nodes_wf {w : World} {F : Nat → Prop} {t : List FixNode} {v : Value} (h : Sl w F FixNode.d t v) : ∀ x ∈ t, x.op.size ≤ maxLen ∧ (Lit.int .i64 x.n).wf = true := by
  intro x hx
  obtain ⟨A, c, rfl, _⟩ := h.form
  obtain ⟨i, hi, rfl⟩ := List.getElem_of_mem hx
  obtain ⟨_, _, _, _, _, _, _, _, h1, h2, _⟩ := FixNode.get h hi
  exact ⟨h1, h2⟩
theorem strike_ok {x : FixItem} (h : ItemOk x) : ItemOk (strike x) := by
  unfold strike; split
  · exact h
  · exact ⟨h.1, wf_small 0 (by omega)⟩
end Go.Proofs.Ytpeabfbljiaedaa

namespace Go.Proofs.Ytpeabfbljiaedaa.fixityItems
open Go.ChangeShapes Go.WideShapes Go.ChangeAt Go.RowKit Go.Shelf

theorem own : ownKnob Try.prog.godebug = none := by kernel_rfl

set_option maxRecDepth 100000 in
set_option maxHeartbeats 1000000 in
theorem walk (T : List FixSig) (I : List FixItem) (tv iv : Value) (w : World) (hT : Sl w (· < w.heap.size) FixSig.d T tv) (hI : Sl w (· < w.heap.size) FixItem.d I iv) (hr : I.length * 24 ≤ 140737488351232) :
    Calls Try.prog 8 #[tv, iv] w fun e w' => e = .returned (.bool true) ∧ Below w.heap.size w w' := by
  have hb0 : Below w.heap.size w (w.alloc (.cells #[.string ⟨#[]⟩, .int .i64 1, .string ⟨#[43]⟩, .int .i64 0, .string ⟨#[]⟩, .int .i64 2] 57)) := (Below.refl _ _).alloc (Nat.le_refl _) _
  have H0 : Calls Try.prog 27 #[.slice none 0 0, .slice (some ⟨w.heap.size, 0, none⟩) 3 3] (w.alloc (.cells #[.string ⟨#[]⟩, .int .i64 1, .string ⟨#[43]⟩, .int .i64 0, .string ⟨#[]⟩, .int .i64 2] 57))
      (BuildPost (fixBuild [] c3) (w.alloc (.cells #[.string ⟨#[]⟩, .int .i64 1, .string ⟨#[43]⟩, .int .i64 0, .string ⟨#[]⟩, .int .i64 2] 57))) := by
    refine build_any [] c3 _ _ (fun b => b = w.heap.size) _ Sl.nil_ ?_ (fun b h => by subst h; simp)
    refine Sl.of_own (F := fun _ => False) (World.ownsRow_lit (base := 0) (e := 57) (size := 2) w #[.string ⟨#[]⟩, .int .i64 1, .string ⟨#[43]⟩, .int .i64 0, .string ⟨#[]⟩, .int .i64 2] 3 (Nat.zero_le _) (by unfold maxLen; omega) (by simp)) rfl ?_ (fun _ h => h.elim) (fun b h => ?_)
    · exact items_rp c3 (fun x hx => by
        simp only [c3, List.mem_cons, List.not_mem_nil, or_false] at hx
        rcases hx with rfl | rfl | rfl <;> exact ⟨by show _ ≤ maxLen; unfold maxLen; decide, by decide⟩)
    · have h2 : some w.heap.size = some b := h
      injection h2 with h2
      exact h2.symm
  obtain ⟨r0, hr0⟩ : ∃ r0, fixBuild [] c3 = r0 := ⟨_, rfl⟩
  have hc3 := c3_build
  rw [hr0] at H0 hc3
  obtain ⟨z0, z1⟩ := hc3
  have z2 : (r0.2 != 0) = false := by simpa using z0
  have z3 : ((r0.1.length : Int) != 3) = false := by rw [z1]; rfl
  have H0' := Lib.hid H0
  clear H0 hr0 z0 z1
  have HC := Lib.hid (fun (W : World) (hb : Below w.heap.size w W) => itemClone I iv (· < w.heap.size) W (hI.later hb) (fun b h => Nat.lt_of_lt_of_le h hb.size) (by omega))
  go_enter Try.func8, Try.ntmps8
  go_wp2_with fail
  refine H0'.out.mono ?_
  rintro e w1 ⟨v1, rfl, hv1, hb1⟩
  have hbw1 : Below w.heap.size w w1 := hb0.trans (hb1.mono hb0.size)
  obtain ⟨A1, k1, rfl, _⟩ := hv1.form
  go_wp2_with fail
  refine (HC.out _ hbw1).mono ?_
  rintro e w2 ⟨v2, xs, rfl, hown, hrp, hb2⟩
  obtain ⟨rfl, hok⟩ := itemCells_rp I xs hrp
  have hbw2 : Below w.heap.size w w2 := hbw1.trans (hb2.mono hbw1.size)
  have hl9 : I.length ≤ 9223372036854775807 := by omega
  have hz2 := hb2.size
  have hz1 := hbw1.size
  have hform : I.length = 0 ∨ ∃ g cap, v2 = .slice (some ⟨g, 0, none⟩) I.length cap ∧ w1.heap.size ≤ g := by
    rcases Nat.eq_zero_or_pos I.length with h | h
    · exact .inl h
    · obtain ⟨g, cap, h1, h2, _⟩ := hown.form h
      exact .inr ⟨g, cap, h1, h2⟩
  have hv2 : ∃ A2 k2, v2 = .slice A2 I.length k2 := by
    rcases hown.2 with ⟨h1, h2⟩ | ⟨g, cap, _, h1, _⟩
    · exact ⟨none, 0, by rw [h1, h2]⟩
    · exact ⟨_, _, h1⟩
  obtain ⟨A2, k2, rfl⟩ := hv2
  have hown' : w2.ownsRow w1.heap.size 57 2 (.slice A2 I.length k2) I.length (itemCells (struck I 0)) := by simpa [struck] using hown
  clear hown hrp
  go_wp2_with fail
  go_loopw [30] (fun i wr => ∃ k : Nat, k ≤ I.length ∧ i = .int .i64 k ∧ wr.ownsRow w1.heap.size 57 2 (.slice A2 I.length k2) I.length (itemCells (struck I k)) ∧ Below w1.heap.size w2 wr) (fun i _ => I.length - (intOf i).toNat)
  case atStart => exact ⟨0, Nat.zero_le _, rfl, hown', Below.refl _ _⟩
  case round =>
    obtain ⟨k, hk, rfl, hown3, hb3⟩ := hrel
    have hz3 := hb3.size
    by_cases hlt : k < I.length
    · obtain ⟨g, cap, hA, hg⟩ : ∃ g cap, Value.slice A2 I.length k2 = .slice (some ⟨g, 0, none⟩) I.length cap ∧ w1.heap.size ≤ g := by
        rcases hform with h | h
        · omega
        · exact h
      simp only [Value.slice.injEq, true_and] at hA
      obtain ⟨rfl, rfl⟩ := hA
      have hsk := struck_get I k k hlt
      rw [if_neg (by omega)] at hsk
      obtain ⟨y0, y1⟩ := itemCells_op _ _ _ hsk
      have j0 := (hown3.cellAt (k * 2) (by omega)).trans y0
      have j1 := (hown3.cellAt (k * 2 + 1) (by omega)).trans y1
      have m1 := hown3.frozenAt (k * 2 + 1)
      have hgl := (hown3.lt g rfl).2
      have k0 : (0 : Int) ≤ (k : Int) := by omega
      have k1 : (k : Int) < (I.length : Int) := by omega
      by_cases hop : I[k].op = noOp
      · have hs : I[k].op.toList.isEmpty = true := by rw [toList_noOp.2 hop]; rfl
        have hstr : struck I (k + 1) = struck I k := by
          rw [struck_succ I k hlt, show strike I[k] = I[k] from by unfold strike; rw [if_pos hop]]
          apply List.ext_getElem?
          intro i
          rw [List.getElem?_set]
          by_cases e : k = i
          · subst e; rw [if_pos rfl, if_pos (by rw [struck_len]; exact hlt), hsk]
          · rw [if_neg e]
        have HS := Lib.hid hstr
        clear hop hstr hsk y0 y1
        go_wp2_with fail
        go_roundw
        case rel => exact ⟨k + 1, by omega, by go_num, by rw [HS.out]; exact hown3.alloc _, hb3.alloc (by omega) _⟩
        case measure => simp [intOf]; omega
      · have hs : I[k].op.toList.isEmpty = false := by
          cases h : I[k].op.toList with
          | nil => exact absurd (toList_noOp.1 h) hop
          | cons _ _ => rfl
        have hstr : itemCells (struck I (k + 1)) = (itemCells (struck I k)).set (k * 2 + 1) (.int .i64 0) := by
          rw [itemCells_set _ _ _ hsk, struck_succ I k hlt, show strike I[k] = ⟨I[k].op, 0⟩ from by unfold strike; rw [if_neg hop]]
        have HS := Lib.hid hstr
        have hst := (hown3.stored (k * 2 + 1) (.int .i64 0)).1
        clear hop hstr hsk y0 y1
        go_wp2_with fail
        go_roundw
        case rel => exact ⟨k + 1, by omega, by go_num, by rw [HS.out]; exact hst.alloc _, (hb3.setCell hg _).alloc (by simp; omega) _⟩
        case measure => simp [intOf]; omega
    · obtain rfl : k = I.length := by omega
      rw [struck_all I _ (Nat.le_refl _)] at hown3
      have hbw : Below w.heap.size w wr := hbw2.trans (hb3.mono hz1)
      have hok' : ∀ x ∈ I.map strike, ItemOk x := fun x hx => by
        obtain ⟨y, hy, rfl⟩ := List.mem_map.1 hx
        exact strike_ok (hok y hy)
      have hsl : Sl wr (· < wr.heap.size) FixItem.d (I.map strike) (.slice A2 I.length k2) :=
        Sl.of_own (F := fun _ => False) hown3 (by simp) (items_rp _ hok') (fun _ h => h.elim) (fun b h => (hown3.lt b h).2)
      have hTr : Sl wr (· < wr.heap.size) FixSig.d T tv := (hT.later hbw).mono (fun b h => Nat.lt_of_lt_of_le h hbw.size)
      have HB := build_any T (I.map strike) tv _ (· < wr.heap.size) wr hTr hsl (fun b h => h)
      have hbt : (fixBuild T (I.map strike)).2 = 0 → Built T (I.map strike) (fixBuild T (I.map strike)).1 := built_of
      obtain ⟨r, hrr⟩ : ∃ r, fixBuild T (I.map strike) = r := ⟨_, rfl⟩
      rw [hrr] at HB hbt
      have HBB := Lib.hid HB
      clear HB hrr
      go_wp2_with fail
      refine HBB.out.mono ?_
      rintro e w3 ⟨v3, rfl, hv3, hb4⟩
      obtain ⟨A3, k3, rfl, hv3c, hv3m, _⟩ := hv3.form
      have hbw3 : Below w.heap.size w w3 := hbw.trans (hb4.mono hbw.size)
      by_cases he : r.2 = 0
      · have e0 : (r.2 != 0) = false := by simpa using he
        obtain ⟨p1, p2, p3⟩ := built_items (hbt he) (fun k hk hne => by
          simp only [List.getElem_map] at hne ⊢
          unfold strike at hne ⊢
          split
          · rename_i h; rw [if_pos h] at hne; exact absurd h hne
          · rfl)
        simp only [List.length_map] at p1
        have hodd := (hbt he).odd
        have hshort := (hbt he).short
        simp only [List.length_map] at hodd hshort
        have e1 : ((r.1.length : Int) == (I.length : Int)) = true := by rw [p1]; simp
        have hidx : ((r.1.length : Int) - 1) = ((r.1.length - 1 : Nat) : Int) := by omega
        have HW : ∀ W, Below w3.heap.size w3 W → Calls Try.prog 30 #[.slice A3 r.1.length k3, .int .i64 ((r.1.length : Int) - 1)] W (WalkPost (I.map strike) W) := by
          intro W hW
          have h := walk_any T (I.map strike) r.1 p2 (nodes_wf hv3) (.slice A3 r.1.length k3) (fun b => wr.heap.size ≤ b) (r.1.length) (r.1.length - 1) W (by omega) (by omega)
          rw [show r.1.length - 1 + 1 = r.1.length by omega, p3] at h
          rw [hidx]
          exact h (by simp; omega) (hv3.later hW)
        have HWW := Lib.hid HW
        have hlo : (1 : Int) ≤ (r.1.length : Int) := by omega
        have hhi : (r.1.length : Int) ≤ 400 := by omega
        clear HW hidx p3 p1 he hbt
        go_wp2_with fail
        refine (HWW.out _ (Below.refl _ _)).mono ?_
        rintro e w4 ⟨g4, cap4, rfl, hown4, hb5⟩
        have hs4 : Sl w4 (fun _ => True) FixItem.d (I.map strike) (.slice (some ⟨g4, 0, none⟩) (I.map strike).length cap4) :=
          Sl.of_own (F := fun _ => False) hown4 rfl (items_rp _ hok') (fun _ h => h.elim) (fun _ _ => trivial)
        rw [List.length_map] at hs4
        have hs5 := (hsl.later hb4).later hb5
        have HE := Lib.hid (itemEqual (I.map strike) (I.map strike) _ _ _ _ w4 hs4 hs5)
        rw [eqBy_refl FixItem.eqB (fun x => by simp [FixItem.eqB])] at HE
        go_wp2_with fail
        with_reducible refine HE.out.mono ?_
        rintro e w5 ⟨rfl, hb6⟩
        go_wp2
        go_ret
        exact ⟨rfl, hbw3.trans ((hb5.mono hbw3.size).trans (hb6.mono (Nat.le_trans hbw3.size hb5.size)))⟩
      · have e0 : (r.2 != 0) = true := by simpa using he
        clear he hbt
        go_wp2
        go_ret
        exact ⟨rfl, hbw3⟩

theorem laid : laidOutB Try.prog = true := by kernel_rfl

set_option maxRecDepth 100000 in
theorem lifted (os : Os) (started : os.Started) (H : Type) (enc : TypeId × Value → H) :
    ReturnsInHanded {} Try.checked os 8 .any (Rows.fixityItemsSpec.pre6 enc Try.prog Try.f8 Rows.fixityItemsRow.domain false) (Rows.fixityItemsSpec.post enc Try.prog Try.f8 false true false false) := by
  refine returnsInHanded_of_change_sized (C := Try.checked) own started (by kernel_rfl) Try.func8
    (ChangeSpec.witness6 (enc := enc) (C := Try.checked) false ⟨#[], #[.slice none 0 0, .slice none 0 0], []⟩ 8 (by kernel_rfl) (by kernel_rfl) (by kernel_rfl) (by kernel_rfl)) ?_
  intro W base args ds gs before hval0 hW hcnd hsz0 _
  have hval : ∀ (j : Nat) t v, Try.f8.params[j]? = some t → args[j]? = some v → Value.okWide Try.prog W .any base t v := hval0
  have hW' := hW
  obtain ⟨p, q, hA0, hV, hbef, hfz, hnd⟩ := hW
  have hA : DataW.TrodAll enc Try.prog W 0 (fun _ => true) true Try.f8.params.toList args.toList ds p := hA0
  have hsz : (DataW.weightsEach Try.prog (Try.f8.params.toList ++ Rows.fixityItemsSpec.plain.varTypes Try.prog) (ds ++ gs)).all (· ≤ reachBytes) = true := hsz0
  rw [Try.params8] at hA hval hsz
  obtain ⟨v0, vs0, d0, ds0, p0, q0, hargs, hds, rfl, h0, r0⟩ := trodAll_cons hA
  obtain ⟨v1, vs1, d1, ds1, p1, q1, rfl, rfl, rfl, h1, r1⟩ := trodAll_cons r0
  obtain ⟨rfl, rfl, rfl⟩ := trodAll_nil r1
  obtain rfl : args = #[v0, v1] := by cases args; simp_all
  obtain ⟨rfl, _⟩ := trodVars_none hV
  subst hds
  obtain ⟨a0, s0⟩ := sl_of_arg (f := FixSig.d) (k := 3) Try.underlying44 (by kernel_rfl) (by decide) (fun _ _ _ h => FixSig.of_trod h) (hval 0 44 v0 rfl rfl) h0
  obtain ⟨a1, s1, b1⟩ := sl_of_arg_sized (f := FixItem.d) (k := 2) Try.underlying45 (by kernel_rfl) (by decide) (fun _ _ _ h => FixItem.of_trod h) (hval 1 45 v1 rfl rfl) h1 (weight_at hsz (j := 1) rfl rfl)
  rw [show Try.prog.bytesOf 57 = 24 from by kernel_rfl] at b1
  refine (walk a0 a1 v0 v1 W s0 s1 b1).mono fun e W' ⟨he, hb⟩ => ?_
  subst he
  exact ⟨_, rfl, law_post laid (by kernel_rfl) rfl Try.underlying4 rfl rfl rfl rfl hW' hb⟩

theorem over : Rows.fixityItemsRow.holds Try.pinned (OpenSpec.ofChange Rows.fixityItemsSpec) :=
  OpenClaim.holds_of_wide 8 Try.f8 rfl rfl rfl rfl rfl rfl rfl ⟨rfl, rfl, rfl, rfl, rfl⟩ rfl rfl rfl rfl rfl (by kernel_rfl) Try.func8 (by kernel_rfl)
    (of_decide_eq_true (by kernel_rfl)) (by unfold Func.isWrapper; first | (rw [if_pos (by decide +kernel)]; kernel_rfl) | (rw [if_neg (by decide +kernel)]; exact ⟨rfl, rfl⟩))
    (fun os started H enc _ => lifted os started H enc)

theorem proved : Rows.FixityItemsSaid :=
  over
#print axioms proved
end Go.Proofs.Ytpeabfbljiaedaa.fixityItems
