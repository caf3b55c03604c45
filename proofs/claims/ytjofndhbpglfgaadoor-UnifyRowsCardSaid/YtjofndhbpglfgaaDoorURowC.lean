/- The library at strings: slices.Index, Contains, Clone. -/
import Derived.Test.YtjofndhbpglfgaaDoorURowB
import Derived.Deep.QuietTactic
import Derived.BigQuiet
namespace Go.Proofs.YtjofndhbpglfgaaDoor
open Go.RowKit Go.Shelf Go.Sort

theorem infoStr : (Tryd.prog.info? 9).map (fun i => (i.zero, i.size, i.bytes)) = some (some (.string ⟨#[]⟩), 1, 16) := by kernel_rfl
theorem rp_strs (W : World) : ∀ (l : List ByteArray), (∀ y ∈ l, y.size ≤ maxLen) → ∀ F : Nat → Prop, RpAll W F (l.map dStr) (l.map Value.string) := by
  intro l
  induction l with
  | nil => intro _ F; simp [RpAll]
  | cons y l ih => intro hl F; rw [List.map_cons, rpAll_cons]; exact ⟨[.string y], l.map Value.string, rfl, rp_str.2 ⟨rfl, hl y (by simp)⟩, ih (fun z hz => hl z (by simp [hz])) F⟩

set_option maxHeartbeats 400000 in
theorem strIndex (l : List ByteArray) (x : ByteArray) (v : Value) (F : Nat → Prop) (w : World) (hv : Sl w F dStr l v) :
    Calls Tryd.prog 66 #[v, .string x] w fun e w' => e = .returned (.int .i64 (idxInt (fun y => decide (x = y)) l)) ∧ w = w' := by
  obtain ⟨A, c, rfl, hlc, hcm, _⟩ := hv.form
  have hl : l.length ≤ 9223372036854775807 := by unfold maxLen at hcm; omega
  go_enter Tryd.func66, Tryd.ntmps66
  go_wp2
  go_loopw [5, 8] (fun _ i wr => ∃ k : Nat, k ≤ l.length ∧ i = .int .i64 k ∧ w = wr ∧ Hid (idxInt (fun y => decide (x = y)) l = idxFrom (fun y => decide (x = y)) (l.drop k) k)) (fun _ i _ => l.length - (intOf i).toNat)
  case atStart => exact ⟨0, Nat.zero_le _, rfl, by trivial, rfl⟩
  case round =>
    obtain ⟨k, hk, rfl, rfl, hno⟩ := hrel
    by_cases hlt : k < l.length
    · obtain ⟨g, off, rfl, hF, c0, s0⟩ := dStr.get hv hlt
      have hst := idxFrom_step (fun y => decide (x = y)) l k hlt
      by_cases hp : x = l[k]
      · have HE := Lib.hid (hno.out.trans (hst.2 (by simpa using hp)))
        have e := str_yes hp
        clear hst hp
        go_wp2_with fail
        go_ret
        exact ⟨ret_int HE.out.symm, rfl⟩
      · have HE := Lib.hid (hno.out.trans (hst.1 (by simpa using hp)))
        have e := str_no hp
        clear hst hp
        go_wp2_with fail
        go_roundw
        case rel => exact ⟨k + 1, by omega, by go_num, by trivial, HE.out⟩
        case measure => simp [intOf]; omega
    · have HE := Lib.hid (hno.out.trans (idxFrom_end (fun y => decide (x = y)) l k (by omega)))
      go_wp2
      go_ret
      exact ⟨ret_int HE.out.symm, rfl⟩

theorem strContains (l : List ByteArray) (x : ByteArray) (v : Value) (F : Nat → Prop) (w : World) (hv : Sl w F dStr l v) :
    Calls Tryd.prog 34 #[v, .string x] w fun e w' => e = .returned (.bool (l.any (fun y => decide (x = y)))) ∧ w = w' := by
  have HN := Lib.hid (strIndex l x v F w hv)
  have HE := Lib.hid (idxInt_any (fun y => decide (x = y)) l)
  clear hv
  go_enter Tryd.func34, Tryd.ntmps34
  go_wp2_with fail
  with_reducible refine HN.out.mono ?_
  rintro e w1 ⟨rfl, rfl⟩
  go_wp2
  go_ret
  exact ⟨ret_bool (by rw [HE.out]), rfl⟩


theorem strs_news {W : World} {F : Nat → Prop} : ∀ (l : List ByteArray) (news : List Value), RpAll W F (l.map dStr) news → news = l.map Value.string
  | [], news, h => by simp only [List.map_nil, RpAll] at h; simpa using h
  | x :: l, news, h => by
    rw [List.map_cons, rpAll_cons] at h
    obtain ⟨a, b, rfl, h1, h2⟩ := h
    have h1' : a = [Value.string x] := (rp_str.1 h1).1
    rw [h1', strs_news l b h2]
    rfl
/-- A row of the call's own, as a list. -/
theorem own_strs {W : World} {base : Nat} {v : Value} {l : List ByteArray} (h : W.ownsRow base 9 1 v l.length (l.map Value.string)) (hs : ∀ y ∈ l, y.size ≤ maxLen) : Sl W (fun b => base ≤ b) dStr l v :=
  Sl.of_own (F := fun _ => False) h rfl (rp_strs W l hs _) (fun _ h => h.elim) (fun b hb => (h.lt b hb).1)
theorem Sl.sizes {W : World} {F : Nat → Prop} {l : List ByteArray} {v : Value} (h : Sl W F dStr l v) : ∀ y ∈ l, y.size ≤ maxLen := fun y hy => by
  obtain ⟨A, c, rfl, _⟩ := h.form
  obtain ⟨i, hi, rfl⟩ := List.getElem_of_mem hy
  obtain ⟨_, _, _, _, _, h6⟩ := dStr.get h hi
  exact h6
set_option maxHeartbeats 1000000 in
theorem strsClone (l : List ByteArray) (v : Value) (F : Nat → Prop) (w : World) (hv : Sl w F dStr l v) (hlen : l.length * 16 ≤ 140737488355328) :
    Calls Tryd.prog 36 #[v] w fun e w' => ∃ u, e = .returned u ∧ w'.ownsRow w.heap.size 9 1 u l.length (l.map Value.string) ∧ Below w.heap.size w w' := by
  obtain ⟨i0, hi0, hz0, hz1, hz2⟩ := info_parts infoStr
  obtain ⟨A, c, rfl, hlc, hcm, hcn⟩ := hv.form
  have hl : l.length ≤ 9223372036854775807 := by unfold maxLen at hcm; omega
  rcases A with _ | ad
  · have hc0 := hcn rfl
    have hl0 : l.length = 0 := by omega
    have hl1 := List.eq_nil_of_length_eq_zero hl0
    subst hl1
    subst hc0
    have hn := fun (W : World) => Lib.run_eql_slice_nil (P := Tryd.prog) W 63 9 none 0 0 0 0 Tryd.underlying63
    go_enter Tryd.func36, Tryd.ntmps36
    go_wp2
    go_ret
    exact ⟨_, rfl, World.ownsRow_nil _ _ _ _, Below.refl _ _⟩
  · have hn := fun (W : World) => Lib.run_eql_slice_nil (P := Tryd.prog) W 63 9 (some ad) l.length c 0 0 Tryd.underlying63
    have hown := World.ownsRow_lit (base := w.heap.size) (e := 9) (size := 1) w #[] 0 (Nat.le_refl _) (by unfold maxLen; omega) (by simp)
    have hb0 : Below w.heap.size w (w.alloc (.cells #[] 9)) := (Below.refl _ _).alloc (Nat.le_refl _) _
    have hv0 := hv.later hb0
    go_enter Tryd.func36, Tryd.ntmps36
    go_wp2_with (at_builtin; refine wpList_append_sl _ rfl _ _ 63 rfl w.heap.size 9 i0 _ 1 16 Tryd.underlying63 hi0 hz0 hz1 hz2 rfl (by omega) _ 0 [] rfl hown dStr dStr.wide F l _ _ _ rfl hv0 (by unfold maxLen; omega) (by omega) (by simp) ?_; intro v' w1 news hnews hown1 hgrow hat)
    go_ret
    simp only [Nat.zero_add, List.nil_append] at hown1
    refine ⟨v', rfl, by rw [← strs_news _ _ hnews]; exact hown1, hb0.grown hgrow (by simp) fun k hk => ?_⟩
    have h2 : some w.heap.size = some k := hk
    injection h2 with h2
    omega


end Go.Proofs.YtjofndhbpglfgaaDoor
