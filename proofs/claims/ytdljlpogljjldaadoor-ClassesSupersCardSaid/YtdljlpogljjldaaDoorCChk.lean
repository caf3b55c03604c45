/- unify.Check, num; well-shaped types (cut out of NormW, UAppD, UOccL). -/
import Derived.Test.YtdljlpogljjldaaDoorSame
namespace Go.Proofs.YtdljlpogljjldaaDoor
open Go.RowKit Go.Shelf
set_option maxHeartbeats 400000 in
theorem check_any (t : Ty) (W : World) (F : Nat → Prop) (av : Value) (hT : TyC W F t av) (hF : ∀ b, F b → b < W.heap.size) (hz : Szs W) :
    Calls Tryd.prog 11 #[tyV t av] W fun e w' => e = .returned (.int .i64 (chk t 4096 false 1).1) ∧ Below W.heap.size W w' := by
  obtain ⟨A, c, rfl, _⟩ := hT.form
  obtain ⟨tb, htb⟩ : ∃ tb, W.heap.size = tb := ⟨_, rfl⟩
  obtain ⟨W2, hW2⟩ : ∃ W2, (W.alloc (.cells #[.int .i64 t.kind, .string t.name, .int .i64 t.var, .slice A t.args.length c] 24)).alloc (.cells #[.int .i64 4096] 62) = W2 := ⟨_, rfl⟩
  have hk2 : Keeps (fun _ => False) W W2 := by rw [← hW2]; exact ((Keeps.refl _ _).alloc _).alloc _
  have hc2 : Blk W2 (tb + 1) 62 [.int .i64 4096] := by
    have := Blk.new (W.alloc (.cells #[.int .i64 t.kind, .string t.name, .int .i64 t.var, .slice A t.args.length c] 24)) 62 [.int .i64 4096]
    rw [hW2] at this
    simpa [htb] using this
  have hzl := block_lt_of_cell hz.c0
  have HCk := Lib.hid (chk_all t W2 tb (tb + 1) _ 4096 1 false ((hT.keeps hk2 (fun _ _ h => h)).mono (fun b hb => by have := hF b hb; omega)) hc2 (by dsimp at hzl; omega) (by omega) (hz.keeps hk2 (fun h => h)) (by omega) (by omega) (by omega) (by omega))
  have HW2 := Lib.hid hW2
  have HK2 := Lib.hid hk2
  have HTb := Lib.hid htb
  unfold tyV
  clear hT hF hz hW2 hk2 hc2 htb hzl
  go_enter Tryd.func11, Tryd.ntmps11
  go_wp2_with fail
  rw [HW2.out, HTb.out]
  with_reducible refine HCk.out.mono ?_
  rintro e w3 ⟨rfl, _, hk3⟩
  have hb3 : Below W.heap.size W w3 := (HK2.out.trans hk3 (fun i hi h => by have := HTb.out; omega)).below (fun _ h => h.elim) (Nat.le_refl _)
  have HB3 := Lib.hid hb3
  clear hk3 hb3
  go_wp2_with fail
  go_ret
  exact ⟨rfl, HB3.out⟩
def numT : Ty := .mk 1 ⟨#[80, 114, 101, 108, 117, 100, 101, 46, 73, 110, 116]⟩ 0 []
set_option maxHeartbeats 400000 in
theorem num_any (W : World) : Calls Tryd.prog 9 #[] W fun e w' => e = .returned (tyV numT (.slice none 0 0)) ∧ Keeps (fun _ => False) W w' := by
  go_enter Tryd.func9, Tryd.ntmps9
  go_wp2_with fail
  refine ret_row Tryd.results9 rfl (Blk.new W 24 [.int .i64 1, .string ⟨#[80, 114, 101, 108, 117, 100, 101, 46, 73, 110, 116]⟩, .int .i64 0, .slice none 0 0]) Tryd.underlying24 (by kernel_rfl) rfl ⟨rfl, (Keeps.refl _ _).alloc _⟩
theorem num_ok {w : World} {F : Nat → Prop} : TyC w F numT (.slice none 0 0) := ⟨by show (Lit.int .i64 1).wf = true; decide, by show (11 : Nat) ≤ maxLen; unfold maxLen; omega, by show (Lit.int .i64 0).wf = true; decide, Sl.nil_⟩
/-- Well-shaped: known kinds, the right number of arguments, no idle parts. -/
inductive Ty.Wf : Ty → Prop where
  | mk (k : Int) (n : ByteArray) (v : Int) (l : List Ty) (hk : 0 ≤ k ∧ k ≤ 5) (hs : 0 ≤ sz k → (l.length : Int) = sz k) (hv : k ≠ 0 → v = 0) (hn : k ≠ 1 → k ≠ 5 → n.toList.isEmpty = true) (h0 : k = 0 → 0 ≤ v) (hl : ∀ a ∈ l, Ty.Wf a) : Ty.Wf (.mk k n v l)
theorem Ty.Wf.varOk {t : Ty} (h : t.Wf) : VarOk t := by cases h with | mk k n v l hk hs hv hn h0 hl => exact h0
theorem Ty.Wf.arg {t : Ty} (h : t.Wf) {a : Ty} (ha : a ∈ t.args) : a.Wf := by cases h with | mk k n v l hk hs hv hn h0 hl => exact hl a ha
theorem Ty.Wf.two {t : Ty} (h : t.Wf) (hk : t.kind = 5) : ∃ a r, t.args = [a, r] := by
  cases h with
  | mk k n v l hk' hs hv hn h0 hl =>
    have hk2 : k = 5 := hk
    subst hk2
    have h2 : (l.length : Int) = 2 := hs (show (0 : Int) ≤ 2 by decide)
    match l, h2 with
    | [a, r], _ => exact ⟨a, r, rfl⟩
    | [], h => simp at h
    | [_], h => simp at h
    | _ :: _ :: _ :: _, h => simp only [List.length_cons] at h; omega
theorem Ty.Wf.leaf {t : Ty} (h : t.Wf) (hk : t.kind = 0 ∨ t.kind = 4) : t.args = [] := by
  cases h with
  | mk k n v l hk' hs hv hn h0 hl =>
    have e : sz k = 0 := by
      have hk2 : k = 0 ∨ k = 4 := hk
      rcases hk2 with rfl | rfl <;> rfl
    have h2 : (l.length : Int) = sz k := hs (by rw [e]; exact Int.le_refl _)
    rw [e] at h2
    have h3 : l.length = 0 := by omega
    exact List.eq_nil_of_length_eq_zero h3
theorem Ty.Wf.nok {t : Ty} (h : t.Wf) : t.Nok := by
  induction h with
  | mk k n v l hk hs hv hn h0 hl ih =>
    refine .mk k n v l (fun h5 => ?_) ih
    subst h5
    have h2 : (l.length : Int) = 2 := hs (show (0 : Int) ≤ 2 by decide)
    omega
mutual
theorem chk_wf : ∀ (t : Ty) (left : Int) (row : Bool) (depth : Int), (chk t left row depth).1 = 0 → t.Wf
  | .mk k n v l, left, row, depth, h => by
    rw [chk] at h
    split at h
    · exact absurd (show (2 : Int) = 0 from h) (by decide)
    split at h
    · exact absurd (show (9 : Int) = 0 from h) (by decide)
    split at h
    · exact absurd (show (3 : Int) = 0 from h) (by decide)
    split at h
    · exact absurd (show (9 : Int) = 0 from h) (by decide)
    split at h
    · exact absurd (show (4 : Int) = 0 from h) (by decide)
    · rename_i h1 h2 h3 h4 h5
      refine .mk k n v l (by omega) (fun hs => ?_) (fun hk => ?_) (fun e1 e5 => ?_) (fun e0 => by omega) (chks_wf k l 0 (left - 1) (depth + 1) h)
      · exact Classical.byContradiction fun he => h3 (.inl ⟨hs, he⟩)
      · exact Classical.byContradiction fun he => h3 (.inr (.inl ⟨hk, he⟩))
      · cases he : n.toList.isEmpty with
        | true => rfl
        | false => exact absurd (.inr (.inr ⟨e1, e5, he⟩)) h3
theorem chks_wf (k : Int) : ∀ (l : List Ty) (i : Nat) (left depth : Int), (chks k l i left depth).1 = 0 → ∀ a ∈ l, a.Wf
  | [], _, _, _, _ => fun a ha => by cases ha
  | a :: r, i, left, depth, h => by
    rw [chks] at h
    split at h
    · rename_i hz
      intro b hb
      rcases List.mem_cons.1 hb with e | hb
      · rw [e]; exact chk_wf a _ _ _ hz
      · exact chks_wf k r (i + 1) _ depth h b hb
    · rename_i hz
      exact absurd h hz
end
theorem nodes_arg {t a : Ty} (h : a ∈ t.args) : nodes a + 1 ≤ nodes t := by
  cases t with
  | mk k n v l => have := nodess_mem l a h; rw [nodes]; omega
end Go.Proofs.YtdljlpogljjldaaDoor
