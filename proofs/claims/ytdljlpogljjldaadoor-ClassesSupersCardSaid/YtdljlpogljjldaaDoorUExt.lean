/- Types in memory: what Norm and the rest need (cut out of UWalk, USize, USub, Uni, UExt). -/
import Derived.Test.YtdljlpogljjldaaDoorUFree
import Derived.Deep.LoopGhost
import Derived.Deep.RegionHeld3
import Derived.RegionTactic
namespace Go.Proofs.YtdljlpogljjldaaDoor
open Go.RowKit Go.Shelf
/-- Variables are not negative. -/
def VarOk (t : Ty) : Prop := t.kind = 0 → 0 ≤ t.var
def tyV (t : Ty) (av : Value) : Value := .agg #[.int .i64 t.kind, .string t.name, .int .i64 t.var, av]
/-- What a function that returns a type answers. -/
def TyRet (r : Ty) (G : Nat → Prop) (W : World) (e : Ending) (w' : World) : Prop := ∃ av, e = .returned (tyV r av) ∧ TyC w' G r av ∧ Below W.heap.size W w'
theorem infoTyW : (Tryd.prog.info? 24).map (fun i => (i.zero, i.size, i.bytes)) = some (some (.agg #[.int .i64 0, .string ⟨#[]⟩, .int .i64 0, .slice none 0 0]), 4, 56) := by kernel_rfl
/-- Four stores into a block. -/
theorem four {w : World} {g : Nat} {t : TypeId} {a b c d : Value} (h : Blk w g t [a, b, c, d]) (u0 u1 u2 u3 : Value) :
    Blk ((((w.setCell ⟨g, 0, none⟩ u0).setCell ⟨g, 1, none⟩ u1).setCell ⟨g, 2, none⟩ u2).setCell ⟨g, 3, none⟩ u3) g t [u0, u1, u2, u3] ∧
      Keeps (· = g) w ((((w.setCell ⟨g, 0, none⟩ u0).setCell ⟨g, 1, none⟩ u1).setCell ⟨g, 2, none⟩ u2).setCell ⟨g, 3, none⟩ u3) :=
  ⟨(((h.set_ 0 u0).set_ 1 u1).set_ 2 u2).set_ 3 u3, ((((Keeps.refl (· = g) w).setCell (p := ⟨g, 0, none⟩) (fun _ => rfl) u0).setCell (p := ⟨g, 1, none⟩) (fun _ => rfl) u1).setCell (p := ⟨g, 2, none⟩) (fun _ => rfl) u2).setCell (p := ⟨g, 3, none⟩) (fun _ => rfl) u3⟩
theorem foldl_mem : ∀ (l acc : List Int) (v : Int), v ∈ l.foldl addV acc ↔ v ∈ acc ∨ v ∈ l
  | [], acc, v => by simp
  | x :: l, acc, v => by
    rw [List.foldl_cons, foldl_mem l]
    unfold addV
    split
    · rename_i h
      have hx : x ∈ acc := by
        unfold intIn at h
        obtain ⟨y, hy, e⟩ := List.any_eq_true.1 h
        rw [of_decide_eq_true e]; exact hy
      constructor
      · rintro (h1 | h1)
        · exact .inl h1
        · exact .inr (by simp [h1])
      · rintro (h1 | h1)
        · exact .inl h1
        · rcases List.mem_cons.1 h1 with rfl | h1
          · exact .inl hx
          · exact .inr h1
    · simp [or_assoc]
theorem frees_mem : ∀ (l : List Ty) (acc : List Int) (v : Int), v ∈ frees l acc ↔ v ∈ acc ∨ ∃ a ∈ l, v ∈ freeP a
  | [], acc, v => by rw [frees]; simp
  | a :: r, acc, v => by
    rw [frees, frees_mem r, foldl_mem]
    simp [or_assoc]
theorem freeP_args {t : Ty} (h : t.kind ≠ 0) {v : Int} : v ∈ freeP t ↔ ∃ a ∈ t.args, v ∈ freeP a := by
  cases t with
  | mk k n x l =>
    rw [freeP, if_neg (show ¬ k = 0 from h), frees_mem]
    simp [Ty.args]
theorem freeP_var {t : Ty} (h : t.kind = 0) : freeP t = [t.var] := by
  cases t with
  | mk k n x l => rw [freeP, if_pos (show k = 0 from h)]; rfl
mutual
theorem chk_fine : ∀ (t : Ty) (left : Int) (row : Bool) (depth : Int), (chk t left row depth).1 = 0 → (nodes t : Int) ≤ left - (chk t left row depth).2 ∧ ∀ v ∈ freeP t, 0 ≤ v ∧ v < 4096
  | .mk k n v l, left, row, depth, h => by
    rw [chk] at h ⊢
    split at h
    · exact absurd (show (2 : Int) = 0 from h) (by decide)
    rename_i h1
    rw [if_neg h1]
    split at h
    · exact absurd (show (9 : Int) = 0 from h) (by decide)
    rename_i h2
    rw [if_neg h2]
    split at h
    · exact absurd (show (3 : Int) = 0 from h) (by decide)
    rename_i h3
    rw [if_neg h3]
    split at h
    · exact absurd (show (9 : Int) = 0 from h) (by decide)
    rename_i h4
    rw [if_neg h4]
    split at h
    · exact absurd (show (4 : Int) = 0 from h) (by decide)
    rename_i h5
    rw [if_neg h5]
    obtain ⟨k1, k2⟩ := chks_fine k l 0 (left - 1) (depth + 1) h
    refine ⟨by rw [nodes]; push_cast; omega, fun x hx => ?_⟩
    by_cases h0 : k = 0
    · rw [freeP_var (t := .mk k n v l) h0] at hx
      rw [List.mem_singleton.1 hx]
      show 0 ≤ v ∧ v < 4096
      omega
    · obtain ⟨a, ha, hxa⟩ := (freeP_args (t := .mk k n v l) h0).1 hx
      exact k2 a ha x hxa
theorem chks_fine (k : Int) : ∀ (l : List Ty) (i : Nat) (left depth : Int), (chks k l i left depth).1 = 0 → (nodess l : Int) ≤ left - (chks k l i left depth).2 ∧ ∀ a ∈ l, ∀ v ∈ freeP a, 0 ≤ v ∧ v < 4096
  | [], i, left, depth, _ => by rw [chks]; exact ⟨by simp [nodess], fun a h => by simp at h⟩
  | a :: r, i, left, depth, h => by
    rw [chks] at h ⊢
    split at h
    · rename_i hz
      rw [if_pos hz]
      obtain ⟨k1, k2⟩ := chk_fine a left (rowed k i a.kind) depth hz
      obtain ⟨j1, j2⟩ := chks_fine k r (i + 1) _ depth h
      refine ⟨by rw [nodess]; push_cast; omega, fun b hb v hv => ?_⟩
      rcases List.mem_cons.1 hb with rfl | hb
      · exact k2 v hv
      · exact j2 b hb v hv
    · rename_i hz
      exact absurd h hz
end
/-- A variable. -/
def varT (v : Int) : Ty := .mk 0 ⟨#[]⟩ v []
theorem wfI_nat {j : Nat} (h : j ≤ 281474976710) : wfI (j : Int) := by
  have h1 : IntKind.i64.min = -9223372036854775808 := by decide
  have h2 : IntKind.i64.max = 9223372036854775807 := by decide
  simp [wfI, Lit.wf, h1, h2]; omega
theorem varT_ok {W : World} {G : Nat → Prop} {v : Int} (h : wfI v) : TyC W G (varT v) (.slice none 0 0) := ⟨by show (Lit.int .i64 0).wf = true; decide, by show (0 : Nat) ≤ maxLen; exact Nat.zero_le _, h, Sl.nil_⟩
theorem Blk.new_at {w : World} {n : Nat} (h : n = w.heap.size) (t : TypeId) (cs : List Value) : Blk (w.alloc (.cells cs.toArray t)) n t cs := by subst h; exact Blk.new w t cs
theorem lay {P Q : Prop} (h : P) (k : P → Q) : Q := k h
def extT (label : ByteArray) (t rest : Ty) : Ty := .mk 5 label 0 [t, rest]
def zeroT : Ty := .mk 0 ⟨#[]⟩ 0 []
/-- Two types in a row. -/
theorem rp_two {W : World} {F : Nat → Prop} {t u : Ty} {av bv : Value} (ht : TyC W F t av) (hu : TyC W F u bv) : RpAll W F ([t, u].map tyD) (t.cells av ++ u.cells bv) := by
  simp only [List.map_cons, List.map_nil, rpAll_cons, rpAll_nil]
  exact ⟨_, _, rfl, tyD.rp.2 ⟨av, rfl, ht⟩, _, [], by simp, tyD.rp.2 ⟨bv, rfl, hu⟩, rfl⟩
theorem sl_two {W : World} {F : Nat → Prop} {t u : Ty} {av bv : Value} {g : Nat} {cap : Nat} (hb : Blk W g 24 (t.cells av ++ u.cells bv)) (hg : F g) (ht : TyC W F t av) (hu : TyC W F u bv) (hc : 2 ≤ cap) (hc' : cap ≤ maxLen) : Sl W F tyD [t, u] (.slice (some ⟨g, 0, none⟩) 2 cap) := by
  unfold Sl
  simp only [Rp]
  exact ⟨_, cap, rfl, by simpa using hc, hc', (fun h => nomatch h), fun _ => ⟨g, 0, _, rfl, hg, rp_two ht hu, fun j u hj => by rw [Nat.zero_add]; exact hb.cell hj⟩⟩
theorem wf_small (x : Int) (h : 0 ≤ x) (h' : x ≤ 281474976710) : (Lit.int .i64 x).wf = true := by
  obtain ⟨n, rfl⟩ : ∃ n : Nat, x = (n : Int) := ⟨x.toNat, by omega⟩
  exact wfI_nat (by omega)
/-- Blocks of old, and those that came since. -/
def Since (F : Nat → Prop) (W w' : World) (b : Nat) : Prop := F b ∨ (W.heap.size ≤ b ∧ b < w'.heap.size)
def TyNew (r : Ty) (F : Nat → Prop) (W : World) (e : Ending) (w' : World) : Prop := ∃ av, e = .returned (tyV r av) ∧ TyC w' (Since F W w') r av ∧ Below W.heap.size W w'
set_option maxHeartbeats 1000000 in
theorem ext_any (label : ByteArray) (hlab : label.size ≤ maxLen) (W : World) (F : Nat → Prop) (t u : Ty) (av bv : Value) (ht : TyC W F t av) (hu : TyC W F u bv) :
    Calls Tryd.prog 58 #[.string label, tyV t av, tyV u bv] W (TyNew (extT label t u) F W) := by
  obtain ⟨A1, c1, rfl, _⟩ := ht.form
  obtain ⟨A2, c2, rfl, _⟩ := hu.form
  have HT := Lib.hid ht
  have HU := Lib.hid hu
  have HL := Lib.hid hlab
  clear ht hu hlab
  unfold tyV
  go_enter Tryd.func58, Tryd.ntmps58
  go_wp2_with fail
  obtain ⟨W2, hW2⟩ : ∃ W2, (W.alloc (.cells #[.int .i64 t.kind, .string t.name, .int .i64 t.var, .slice A1 t.args.length c1] 24)).alloc (.cells #[.int .i64 u.kind, .string u.name, .int .i64 u.var, .slice A2 u.args.length c2] 24) = W2 := ⟨_, rfl⟩
  have hs2 : W2.heap.size = W.heap.size + 1 + 1 := by rw [← hW2]; simp
  have hk2 : Keeps (fun _ => False) W W2 := by rw [← hW2]; exact ((Keeps.refl _ _).alloc _).alloc _
  rw [hW2, ← hs2]
  have hk3 : Keeps (fun _ => False) W ((W2.alloc (.cells #[.int .i64 5, .string label, .int .i64 0, .slice (some ⟨W2.heap.size + 1, 0, none⟩) 2 2] 24)).alloc (.cells #[.int .i64 t.kind, .string t.name, .int .i64 t.var, .slice A1 t.args.length c1, .int .i64 u.kind, .string u.name, .int .i64 u.var, .slice A2 u.args.length c2] 24)) := (hk2.alloc _).alloc _
  have hb1 := (Blk.new W2 24 [.int .i64 5, .string label, .int .i64 0, .slice (some ⟨W2.heap.size + 1, 0, none⟩) 2 2]).alloc (.cells #[.int .i64 t.kind, .string t.name, .int .i64 t.var, .slice A1 t.args.length c1, .int .i64 u.kind, .string u.name, .int .i64 u.var, .slice A2 u.args.length c2] 24)
  have hb2 := Blk.new (W2.alloc (.cells #[.int .i64 5, .string label, .int .i64 0, .slice (some ⟨W2.heap.size + 1, 0, none⟩) 2 2] 24)) 24 (t.cells (.slice A1 t.args.length c1) ++ u.cells (.slice A2 u.args.length c2))
  rw [show (W2.alloc (.cells #[.int .i64 5, .string label, .int .i64 0, .slice (some ⟨W2.heap.size + 1, 0, none⟩) 2 2] 24)).heap.size = W2.heap.size + 1 by simp] at hb2
  refine ret_row Tryd.results58 rfl hb1 Tryd.underlying24 (by kernel_rfl) rfl ⟨_, rfl, ?_, hk3.below (fun _ h => h.elim) (Nat.le_refl _)⟩
  have hlt := hb2.lt
  exact ⟨wf_small 5 (by decide) (by decide), HL.out, wf_small 0 (by decide) (by decide), sl_two hb2 (.inr ⟨by omega, hlt⟩) ((HT.out.keeps hk3 (fun _ _ h => h)).mono (fun _ h => .inl h)) ((HU.out.keeps hk3 (fun _ _ h => h)).mono (fun _ h => .inl h)) (Nat.le_refl _) (by unfold maxLen; omega)⟩
end Go.Proofs.YtdljlpogljjldaaDoor
