/- unify.Ext, unify.Con. -/
import Derived.Test.YtjofndhbpglfgaaDoorUTail
namespace Go.Proofs.YtjofndhbpglfgaaDoor
open Go.RowKit Go.Shelf

def conT (name : ByteArray) (l : List Ty) : Ty := .mk 1 name 0 l
/-- Two types in a row. -/
theorem rp_two {W : World} {F : Nat → Prop} {t u : Ty} {av bv : Value} (ht : TyC W F t av) (hu : TyC W F u bv) : RpAll W F ([t, u].map tyD) (t.cells av ++ u.cells bv) := by
  simp only [List.map_cons, List.map_nil, rpAll_cons, rpAll_nil]
  exact ⟨_, _, rfl, tyD.rp.2 ⟨av, rfl, ht⟩, _, [], by simp, tyD.rp.2 ⟨bv, rfl, hu⟩, rfl⟩
theorem sl_two {W : World} {F : Nat → Prop} {t u : Ty} {av bv : Value} {g : Nat} {cap : Nat} (hb : Blk W g 45 (t.cells av ++ u.cells bv)) (hg : F g) (ht : TyC W F t av) (hu : TyC W F u bv) (hc : 2 ≤ cap) (hc' : cap ≤ maxLen) : Sl W F tyD [t, u] (.slice (some ⟨g, 0, none⟩) 2 cap) := by
  unfold Sl
  simp only [Rp]
  exact ⟨_, cap, rfl, by simpa using hc, hc', (fun h => nomatch h), fun _ => ⟨g, 0, _, rfl, hg, rp_two ht hu, fun j u hj => by rw [Nat.zero_add]; exact hb.cell hj⟩⟩
theorem wf_small (x : Int) (h : 0 ≤ x) (h' : x ≤ 281474976710) : (Lit.int .i64 x).wf = true := by
  obtain ⟨n, rfl⟩ : ∃ n : Nat, x = (n : Int) := ⟨x.toNat, by omega⟩
  exact wfI_nat (by omega)
/-- Blocks of old, and those that came since. -/
def Since (F : Nat → Prop) (W w' : World) (b : Nat) : Prop := F b ∨ (W.heap.size ≤ b ∧ b < w'.heap.size)
def TyNew (r : Ty) (F : Nat → Prop) (W : World) (e : Ending) (w' : World) : Prop := ∃ av, e = .returned (tyV r av) ∧ TyC w' (Since F W w') r av ∧ Below W.heap.size W w'

set_option maxHeartbeats 1000000 in
theorem ext_any (label : ByteArray) (hlab : label.size ≤ maxLen) (W : World) (F : Nat → Prop) (t u : Ty) (av bv : Value) (ht : TyC W F t av) (hu : TyC W F u bv) :
    Calls Tryd.prog 27 #[.string label, tyV t av, tyV u bv] W (TyNew (extT label t u) F W) := by
  obtain ⟨A1, c1, rfl, _⟩ := ht.form
  obtain ⟨A2, c2, rfl, _⟩ := hu.form
  have HT := Lib.hid ht
  have HU := Lib.hid hu
  have HL := Lib.hid hlab
  clear ht hu hlab
  unfold tyV
  go_enter Tryd.func27, Tryd.ntmps27
  go_wp2_with fail
  obtain ⟨W2, hW2⟩ : ∃ W2, (W.alloc (.cells #[.int .i64 t.kind, .string t.name, .int .i64 t.var, .slice A1 t.args.length c1] 45)).alloc (.cells #[.int .i64 u.kind, .string u.name, .int .i64 u.var, .slice A2 u.args.length c2] 45) = W2 := ⟨_, rfl⟩
  have hs2 : W2.heap.size = W.heap.size + 1 + 1 := by rw [← hW2]; simp
  have hk2 : Keeps (fun _ => False) W W2 := by rw [← hW2]; exact ((Keeps.refl _ _).alloc _).alloc _
  rw [hW2, ← hs2]
  have hk3 : Keeps (fun _ => False) W ((W2.alloc (.cells #[.int .i64 5, .string label, .int .i64 0, .slice (some ⟨W2.heap.size + 1, 0, none⟩) 2 2] 45)).alloc (.cells #[.int .i64 t.kind, .string t.name, .int .i64 t.var, .slice A1 t.args.length c1, .int .i64 u.kind, .string u.name, .int .i64 u.var, .slice A2 u.args.length c2] 45)) := (hk2.alloc _).alloc _
  have hb1 := (Blk.new W2 45 [.int .i64 5, .string label, .int .i64 0, .slice (some ⟨W2.heap.size + 1, 0, none⟩) 2 2]).alloc (.cells #[.int .i64 t.kind, .string t.name, .int .i64 t.var, .slice A1 t.args.length c1, .int .i64 u.kind, .string u.name, .int .i64 u.var, .slice A2 u.args.length c2] 45)
  have hb2 := Blk.new (W2.alloc (.cells #[.int .i64 5, .string label, .int .i64 0, .slice (some ⟨W2.heap.size + 1, 0, none⟩) 2 2] 45)) 45 (t.cells (.slice A1 t.args.length c1) ++ u.cells (.slice A2 u.args.length c2))
  rw [show (W2.alloc (.cells #[.int .i64 5, .string label, .int .i64 0, .slice (some ⟨W2.heap.size + 1, 0, none⟩) 2 2] 45)).heap.size = W2.heap.size + 1 by simp] at hb2
  refine ret_row Tryd.results27 rfl hb1 Tryd.underlying45 (by kernel_rfl) rfl ⟨_, rfl, ?_, hk3.below (fun _ h => h.elim) (Nat.le_refl _)⟩
  have hlt := hb2.lt
  exact ⟨wf_small 5 (by decide) (by decide), HL.out, wf_small 0 (by decide) (by decide), sl_two hb2 (.inr ⟨by omega, hlt⟩) ((HT.out.keeps hk3 (fun _ _ h => h)).mono (fun _ h => .inl h)) ((HU.out.keeps hk3 (fun _ _ h => h)).mono (fun _ h => .inl h)) (Nat.le_refl _) (by unfold maxLen; omega)⟩
theorem con_any (name : ByteArray) (hn : name.size ≤ maxLen) (W : World) (F : Nat → Prop) (l : List Ty) (v : Value) (hv : Sl W F tyD l v) :
    Calls Tryd.prog 22 #[.string name, v] W fun e w' => e = .returned (tyV (conT name l) v) ∧ TyC w' F (conT name l) v ∧ Below W.heap.size W w' := by
  obtain ⟨A1, c1, rfl, _⟩ := hv.form
  have HV := Lib.hid hv
  have HN := Lib.hid hn
  clear hv hn
  go_enter Tryd.func22, Tryd.ntmps22
  go_wp2_with fail
  have hk : Keeps (fun _ => False) W (W.alloc (.cells #[.int .i64 1, .string name, .int .i64 0, .slice A1 l.length c1] 45)) := (Keeps.refl _ _).alloc _
  exact ret_row Tryd.results22 rfl (Blk.new W _ [_, _, _, _]) Tryd.underlying45 (by kernel_rfl) rfl ⟨rfl, ⟨wf_small 1 (by decide) (by decide), HN.out, wf_small 0 (by decide) (by decide), HV.out.keeps hk (fun _ _ h => h)⟩, hk.below (fun _ h => h.elim) (Nat.le_refl _)⟩
end Go.Proofs.YtjofndhbpglfgaaDoor
