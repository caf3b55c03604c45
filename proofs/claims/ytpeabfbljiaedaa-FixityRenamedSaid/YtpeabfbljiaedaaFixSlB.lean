/- slices.Clone at api.FixSig, slices.Equal at api.FixityNode; rows that are rewritten element by element. No conditions but the form's own reach. -/
import Derived.Test.YtpeabfbljiaedaaFixSl
import Derived.Test.YtpeabfbljiaedaaFixWalk
namespace Go.Proofs.Ytpeabfbljiaedaa
open Go.RowKit Go.Shelf

theorem infoFixSig : (Try.prog.info? 47).map (fun i => (i.zero, i.size, i.bytes)) = some (some (.agg #[.string ⟨#[]⟩, .int .i64 0, .int .i64 0]), 3, 32) := by kernel_rfl

def FixSigCloned (l : List FixSig) (F : Nat → Prop) (w : World) (e : Ending) (w' : World) : Prop :=
  ∃ v' xs, e = .returned v' ∧ w'.ownsRow w.heap.size 47 3 v' l.length xs ∧ RpAll w' F (l.map FixSig.d) xs ∧ Below w.heap.size w w'

set_option maxHeartbeats 400000 in
theorem sigClone (l : List FixSig) (v : Value) (F : Nat → Prop) (w : World) (hv : Sl w F FixSig.d l v) (hF : ∀ b, F b → b < w.heap.size) (hlen : l.length * 32 ≤ 140737488355328) :
    Calls Try.prog 35 #[v] w (FixSigCloned l F w) := by
  obtain ⟨i0, hi0, hz0, hz1, hz2⟩ := info_parts infoFixSig
  obtain ⟨A, c, rfl, hlc, hcm, hcn⟩ := hv.form
  have hl : l.length ≤ 9223372036854775807 := by unfold maxLen at hcm; omega
  rcases A with _ | ad
  · have hc0 := hcn rfl
    have hl0 : l.length = 0 := by omega
    have hl1 := List.eq_nil_of_length_eq_zero hl0
    subst hl1
    subst hc0
    have hn := fun (W : World) => Lib.run_eql_slice_nil (P := Try.prog) W 44 47 none 0 0 0 0 Try.underlying44
    go_enter Try.func35, Try.ntmps35
    go_wp2
    go_ret
    exact ⟨_, [], rfl, World.ownsRow_nil _ _ _ _, by simp [RpAll], Below.refl _ _⟩
  · have hn := fun (W : World) => Lib.run_eql_slice_nil (P := Try.prog) W 44 47 (some ad) l.length c 0 0 Try.underlying44
    have hown := World.ownsRow_lit (base := w.heap.size) (e := 47) (size := 3) w #[] 0 (Nat.le_refl _) (by unfold maxLen; omega) (by simp)
    have hb0 : Below w.heap.size w (w.alloc (.cells #[] 47)) := (Below.refl _ _).alloc (Nat.le_refl _) _
    have hv0 := hv.later hb0
    go_enter Try.func35, Try.ntmps35
    go_wp2_with (at_builtin; refine wpList_append_sl _ rfl _ _ 44 rfl w.heap.size 47 i0 _ 3 32 Try.underlying44 hi0 hz0 hz1 hz2 rfl (by omega) _ 0 [] rfl hown FixSig.d FixSig.wide F l _ _ _ rfl hv0 (by unfold maxLen; omega) (by omega) (by simp) ?_; intro v' w1 news hnews hown1 hgrow hat)
    go_ret
    simp only [Nat.zero_add, List.nil_append] at hown1
    refine ⟨v', news, rfl, hown1, hnews.grown hgrow ?_, hb0.grown hgrow (by simp) ?_⟩
    · intro b hb h
      have := hF b hb
      have h2 : some b = some w.heap.size := h
      injection h2 with h2
      omega
    · intro k hk
      have h2 : some w.heap.size = some k := hk
      injection h2 with h2
      omega

def FixNode.eqB (x y : FixNode) : Bool := (x.op.toList == y.op.toList) && (x.n == y.n) && (x.a == y.a) && (x.b == y.b)
theorem FixNode.neq_run (W : World) (x y : FixNode) : (binOp .neq 53 (.agg #[.string x.op, .int .i64 x.n, .int .i64 x.a, .int .i64 x.b]) (.agg #[.string y.op, .int .i64 y.n, .int .i64 y.a, .int .i64 y.b])).run Try.prog W = .ok (.bool (!(FixNode.eqB x y))) W := by
  have u0 := Try.underlying3
  have a0 := Try.isAgg3
  have z0 := Try.sizeOf3
  have u1 := Try.underlying9
  have a1 := Try.isAgg9
  have z1 := Try.sizeOf9
  have hS : Try.prog.underlying 53 = some (.struct (Try.prog.fieldsOf 53)) := by kernel_rfl
  have hp : Try.prog.stoodInHeld 53 = false := by kernel_rfl
  rw [run_neq_struct, show (10000 : Nat) = 9999 + 1 from rfl, run_equalIn_agg W 9999 53 _ _ hS hp]
  simp only [Program.fieldsOf, Try.underlying53]
  go_simp
  by_cases h0 : x.op.toList = y.op.toList <;> by_cases h1 : x.n = y.n <;> by_cases h2 : x.a = y.a <;> by_cases h3 : x.b = y.b <;> simp [FixNode.eqB, h0, h1, h2, h3]

set_option maxHeartbeats 400000 in
theorem nodeEqual (l m : List FixNode) (v u : Value) (F G : Nat → Prop) (w : World) (hv : Sl w F FixNode.d l v) (hu : Sl w G FixNode.d m u) :
    Calls Try.prog 36 #[v, u] w fun e w' => e = .returned (.bool (eqBy FixNode.eqB l m)) ∧ Below w.heap.size w w' := by
  obtain ⟨A, c, rfl, hlc, hcm, _⟩ := hv.form
  obtain ⟨B, c', rfl, hmc, hcm', _⟩ := hu.form
  have hl : l.length ≤ 9223372036854775807 := by unfold maxLen at hcm; omega
  have hm : m.length ≤ 9223372036854775807 := by unfold maxLen at hcm'; omega
  by_cases hlen : l.length = m.length
  · have hd : ((l.length : Int) != (m.length : Int)) = false := by rw [bne_eq_false_iff_eq]; omega
    have HL := Lib.hid hlen
    have hlt0 : l.length ≤ m.length := by omega
    clear hlen
    have hne := FixNode.neq_run
    go_enter Try.func36, Try.ntmps36
    go_wp2
    go_loopw [13] (fun i wr => ∃ k : Nat, k ≤ l.length ∧ i = .int .i64 k ∧ Below w.heap.size w wr ∧ Hid (eqBy FixNode.eqB l m = eqBy FixNode.eqB (l.drop k) (m.drop k))) (fun i _ => l.length - (intOf i).toNat)
    case atStart => exact ⟨0, Nat.zero_le _, rfl, Below.refl _ _, rfl⟩
    case round =>
      obtain ⟨k, hk, rfl, hb, hno⟩ := hrel
      by_cases hlt : k < l.length
      · have hst := eqBy_step FixNode.eqB l m k hlt (by omega)
        obtain ⟨ga, offa, rfl, _, a0, a1, a2, a3, _, _, _, _⟩ := FixNode.get (hv.later hb) hlt
        obtain ⟨gb, offb, rfl, _, b0, b1, b2, b3, _, _, _, _⟩ := FixNode.get (hu.later hb) (show k < m.length by omega)
        have k0 : (0 : Int) ≤ (k : Int) := by omega
        have k1 : (k : Int) < (l.length : Int) := by omega
        have k2 : (k : Int) < (m.length : Int) := by omega
        have hnk := hne
        cases hq : FixNode.eqB l[k] (m[k]'(by omega))
        · have HE := Lib.hid (hno.out.trans (hst.2 hq))
          have hn2 := fun (W : World) => (hne W l[k] (m[k]'(by omega))).trans (by rw [hq])
          clear hst hq hne hnk
          go_wp2
          go_quiet (fail)
          go_wp2
          go_ret
          exact ⟨ret_bool HE.out.symm, Below.drewN hb _⟩
        · have HE := Lib.hid (hno.out.trans (hst.1 hq))
          have hn2 := fun (W : World) => (hne W l[k] (m[k]'(by omega))).trans (by rw [hq])
          clear hst hq hne hnk
          go_wp2
          go_quiet (fail)
          go_wp2
          go_roundw
          case rel => exact ⟨k + 1, by omega, by go_num, Below.drewN hb _, HE.out⟩
          case measure => simp [intOf]; omega
      · have HE := Lib.hid (hno.out.trans (eqBy_end FixNode.eqB l m k (by omega) (by have := HL.out; omega)))
        go_wp2
        go_ret
        exact ⟨ret_bool HE.out.symm, hb⟩
  · have hd : ((l.length : Int) != (m.length : Int)) = true := by rw [bne_iff_ne]; omega
    have HE := Lib.hid (eqBy_len FixNode.eqB l m hlen)
    clear hlen
    go_enter Try.func36, Try.ntmps36
    go_wp2
    go_ret
    exact ⟨ret_bool HE.out.symm, Below.refl _ _⟩

/-! ### Rows, element by element -/
section
variable {α : Type} {c : α → List Value} {kk : Nat}
theorem flat_get (hc : ∀ x, (c x).length = kk) : ∀ (l : List α) (i : Nat) (x : α), l[i]? = some x → ∀ j, j < kk → (l.flatMap c)[i * kk + j]? = (c x)[j]?
  | [], _, _, h, _, _ => by simp at h
  | y :: l, 0, x, h, j, hj => by
    simp at h; subst h
    rw [List.flatMap_cons, Nat.zero_mul, Nat.zero_add, List.getElem?_append_left (by rw [hc]; exact hj)]
  | y :: l, i + 1, x, h, j, hj => by
    rw [List.flatMap_cons, List.getElem?_append_right (by rw [hc, Nat.succ_mul]; omega), ← flat_get hc l i x (by simpa using h) j hj]
    congr 1
    rw [hc, Nat.succ_mul]; omega
theorem flat_set (hc : ∀ x, (c x).length = kk) : ∀ (l : List α) (i : Nat) (x y : α), l[i]? = some x → ∀ j u, j < kk → c y = (c x).set j u → (l.flatMap c).set (i * kk + j) u = (l.set i y).flatMap c
  | [], _, _, _, h, _, _, _, _ => by simp at h
  | z :: l, 0, x, y, h, j, u, hj, hy => by
    simp at h; subst h
    rw [List.flatMap_cons, List.set_cons_zero, List.flatMap_cons, Nat.zero_mul, Nat.zero_add, List.set_append, if_pos (by rw [hc]; exact hj), hy]
  | z :: l, i + 1, x, y, h, j, u, hj, hy => by
    rw [List.flatMap_cons, List.set_cons_succ, List.flatMap_cons, List.set_append, if_neg (by rw [hc, Nat.succ_mul]; omega), ← flat_set hc l i x y (by simpa using h) j u hj hy]
    congr 2
    rw [hc, Nat.succ_mul]; omega
/-- The first k elements are turned. -/
def part (g : α → α) (l : List α) (k : Nat) : List α := (l.take k).map g ++ l.drop k
theorem part_len (g : α → α) (l : List α) (k : Nat) : (part g l k).length = l.length := by simp [part]; omega
theorem part_get (g : α → α) (l : List α) (k i : Nat) (h : i < l.length) : (part g l k)[i]? = some (if i < k then g l[i] else l[i]) := by
  unfold part
  by_cases hi : i < k
  · rw [if_pos hi, List.getElem?_append_left (by simp; omega)]
    simp [hi, h]
  · rw [if_neg hi, List.getElem?_append_right (by simp; omega)]
    simp only [List.length_map, List.length_take, List.getElem?_drop]
    rw [show k + (i - min k l.length) = i by omega]
    exact List.getElem?_eq_getElem h
theorem part_succ (g : α → α) (l : List α) (k : Nat) (h : k < l.length) : part g l (k + 1) = (part g l k).set k (g l[k]) := by
  apply List.ext_getElem?
  intro i
  rcases Nat.lt_or_ge i l.length with hi | hi
  · rw [part_get g l _ i hi, List.getElem?_set, part_len]
    by_cases e : k = i
    · subst e; simp [h]
    · rw [if_neg e, part_get g l _ i hi]
      by_cases h2 : i < k
      · rw [if_pos h2, if_pos (by omega)]
      · rw [if_neg h2, if_neg (by omega)]
  · rw [List.getElem?_eq_none (by rw [part_len]; exact hi), List.getElem?_eq_none (by rw [List.length_set, part_len]; exact hi)]
theorem part_all (g : α → α) (l : List α) (k : Nat) (h : l.length ≤ k) : part g l k = l.map g := by
  unfold part; rw [List.take_of_length_le h, List.drop_eq_nil_of_le h, List.append_nil]
theorem part_zero (g : α → α) (l : List α) : part g l 0 = l := by simp [part]
theorem part_same (g : α → α) (l : List α) (k : Nat) (h : k < l.length) (hg : g l[k] = l[k]) : part g l (k + 1) = part g l k := by
  rw [part_succ g l k h, hg]
  apply List.ext_getElem?
  intro i
  rw [List.getElem?_set]
  by_cases e : k = i
  · subst e; rw [if_pos rfl, if_pos (by rw [part_len]; exact h), part_get g l k k h, if_neg (by omega)]
  · rw [if_neg e]
end

/-- Rows of different element types lie apart. -/
theorem own_ne_own {w : World} {b1 b2 : Nat} {e1 e2 : TypeId} {s1 s2 n1 n2 : Nat} {v1 v2 : Value} {x1 x2 : List Value} (h1 : w.ownsRow b1 e1 s1 v1 n1 x1) (h2 : w.ownsRow b2 e2 s2 v2 n2 x2) (hne : e1 ≠ e2) (b : Nat) (hb : v1.ownBlock = some b) : v2.ownBlock ≠ some b := by
  intro hb2
  rcases h1.2 with ⟨rfl, _⟩ | ⟨g1, c1, u1, rfl, _, q1, _⟩
  · cases hb
  · rcases h2.2 with ⟨rfl, _⟩ | ⟨g2, c2, u2, rfl, _, q2, _⟩
    · cases hb2
    · have e1 : g1 = b := by simpa [Value.ownBlock] using hb
      have e2 : g2 = b := by simpa [Value.ownBlock] using hb2
      subst e1; subst e2
      rw [q1] at q2
      simp only [Option.some.injEq, Obj.cells.injEq] at q2
      exact hne q2.2.1
/-- A slice value out of a row of the call's own. -/
theorem own_slice {w : World} {b : Nat} {e : TypeId} {s n : Nat} {v : Value} {xs : List Value} (h : w.ownsRow b e s v n xs) : ∃ A c, v = .slice A n c := by
  rcases h.2 with ⟨h1, h2⟩ | ⟨g, cap, _, h1, _⟩
  · exact ⟨none, 0, by rw [h1, h2]⟩
  · exact ⟨_, _, h1⟩
def FixSig.cells (x : FixSig) : List Value := [.string x.op, .int .i64 x.side, .int .i64 x.level]
def SigOk (x : FixSig) : Prop := x.op.size ≤ maxLen ∧ (Lit.int .i64 x.side).wf = true ∧ (Lit.int .i64 x.level).wf = true
theorem sigs_rp {w : World} {F : Nat → Prop} : ∀ (l : List FixSig), (∀ x ∈ l, SigOk x) → RpAll w F (l.map FixSig.d) (l.flatMap FixSig.cells)
  | [], _ => by simp [RpAll]
  | x :: l, h => by
    rw [List.map_cons, rpAll_cons]
    exact ⟨x.cells, l.flatMap FixSig.cells, by simp, FixSig.rp.2 ⟨rfl, h x (by simp)⟩, sigs_rp l (fun y hy => h y (by simp [hy]))⟩
theorem sigs_of_rp {w : World} {F : Nat → Prop} : ∀ (l : List FixSig) (xs : List Value), RpAll w F (l.map FixSig.d) xs → xs = l.flatMap FixSig.cells ∧ ∀ x ∈ l, SigOk x
  | [], xs, h => by simp only [List.map_nil, RpAll] at h; exact ⟨by simp [h], by simp⟩
  | x :: l, xs, h => by
    rw [List.map_cons, rpAll_cons] at h
    obtain ⟨a, b, rfl, h1, h2⟩ := h
    rw [FixSig.rp] at h1
    obtain ⟨h3, h4⟩ := sigs_of_rp l b h2
    refine ⟨by rw [h1.1, h3]; simp [FixSig.cells], fun y hy => ?_⟩
    rcases List.mem_cons.1 hy with rfl | hy
    · exact h1.2
    · exact h4 y hy
end Go.Proofs.Ytpeabfbljiaedaa
