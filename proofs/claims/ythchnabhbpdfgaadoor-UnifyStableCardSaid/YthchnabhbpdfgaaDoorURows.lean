/- unify.rows. -/
import Derived.Test.YthchnabhbpdfgaaDoorUExtr
namespace Go.Proofs.YthchnabhbpdfgaaDoor
open Go.RowKit Go.Shelf

theorem blk_keep {w w' : World} {p g i : Nat} {t : TypeId} {cs : List Value} (h : Blk w i t cs) (hk : Keeps (fun b => b = p ∨ b = g) w w') (hp : i ≠ p) (hg : i ≠ g) : Blk w' i t cs := h.keeps hk (fun h => h.elim hp hg)
theorem Blk.four {w : World} {g : Nat} {t : TypeId} (h : Blk w g t [.int .i64 0, .string ⟨#[]⟩, .int .i64 0, .slice none 0 0]) (u0 u1 u2 u3 : Value) : Blk ((((w.setCell ⟨g, 0, none⟩ u0).setCell ⟨g, 1, none⟩ u1).setCell ⟨g, 2, none⟩ u2).setCell ⟨g, 3, none⟩ u3) g t [u0, u1, u2, u3] := (Go.Proofs.YthchnabhbpdfgaaDoor.four h u0 u1 u2 u3).1
theorem Blk.far4 {w : World} {g i : Nat} {t : TypeId} {cs : List Value} (h : Blk w g t cs) (hi : g ≠ i) (u0 u1 u2 u3 : Value) : Blk ((((w.setCell ⟨i, 0, none⟩ u0).setCell ⟨i, 1, none⟩ u1).setCell ⟨i, 2, none⟩ u2).setCell ⟨i, 3, none⟩ u3) g t cs := (((h.far hi u0).far hi u1).far hi u2).far hi u3
theorem Keeps.set4 {X : Nat → Prop} {a w : World} {i : Nat} (h : Keeps X a w) (hi : i < a.heap.size → X i) (u0 u1 u2 u3 : Value) : Keeps X a ((((w.setCell ⟨i, 0, none⟩ u0).setCell ⟨i, 1, none⟩ u1).setCell ⟨i, 2, none⟩ u2).setCell ⟨i, 3, none⟩ u3) :=
  (((h.setCell (p := ⟨i, 0, none⟩) hi u0).setCell (p := ⟨i, 1, none⟩) hi u1).setCell (p := ⟨i, 2, none⟩) hi u2).setCell (p := ⟨i, 3, none⟩) hi u3
/-- Blocks that are neither the unifier's nor hold types. -/
def Apart (F : Nat → Prop) (W : World) (p g i : Nat) : Prop := ¬ F i ∧ i ≠ p ∧ i ≠ g ∧ W.heap.size ≤ i
theorem UniNew.far {F F' : Nat → Prop} {W w' w'' : World} {p g : Nat} {sv' : Value} {g' : Nat} {σ' : List Ty} (h : UniNew F F' W p g w' sv' g' σ') (hk : Keeps (Apart F' W p g') w' w'') : UniNew F F' W p g w'' sv' g' σ' :=
  ⟨h.uni.keeps hk (fun h => h.2.1 rfl) (fun h => h.2.2.1 rfl) (fun i hi h => h.1 hi), h.keeps.trans hk (fun i hi h => by have := h.2.2.2; omega), h.at_, h.up, h.new⟩
def UniAt (k q : Nat) : Prop := ∀ (F : Nat → Prop) (W : World) (p : Nat) (sv : Value) (g : Nat) (σ : List Ty) (a b : Ty) (av bv : Value) (r : Int) (σ' : List Ty), Uni F W p sv g σ → σ.length ≤ 4096 → TyC W F a av → TyC W F b bv → VIn σ a → VIn σ b → unifyP k q σ a b = some (r, σ') →
  Calls Tryd.prog 29 #[.pointer (some ⟨p, 0, none⟩), tyV a av, tyV b bv] W (UniPost F W p g r σ')
def RowsAt (k q : Nat) : Prop := ∀ (F : Nat → Prop) (W : World) (p : Nat) (sv : Value) (g : Nat) (σ : List Ty) (a b : Ty) (av bv : Value) (r : Int) (σ' : List Ty), Uni F W p sv g σ → σ.length ≤ 4096 → TyC W F a av → TyC W F b bv → VIn σ a → VIn σ b → a.kind ≠ 0 → rowsP k (unifyP k q) σ a b = some (r, σ') →
  Calls Tryd.prog 40 #[.pointer (some ⟨p, 0, none⟩), tyV a av, tyV b bv] W (UniPost F W p g r σ')

set_option maxRecDepth 100000 in
set_option maxHeartbeats 40000000 in
theorem rows_step (k q : Nat) (ih : UniAt k q) : RowsAt k q := by
  intro F W p sv g σ a b av bv r σ' hU hn hTa hTb hVa hVb ha0 hr
  obtain ⟨cap, rfl, hlc, hcm⟩ := hU.form
  obtain ⟨A1, c1, rfl, hlc1, hcm1, _⟩ := hTa.form
  obtain ⟨A2, c2, rfl, hlc2, hcm2, _⟩ := hTb.form
  obtain ⟨b0, hb0⟩ : ∃ b0, W.heap.size = b0 := ⟨_, rfl⟩
  obtain ⟨W0, hW0⟩ : ∃ W0, (W.alloc (.cells #[.int .i64 a.kind, .string a.name, .int .i64 a.var, .slice A1 a.args.length c1] 24)).alloc (.cells #[.int .i64 b.kind, .string b.name, .int .i64 b.var, .slice A2 b.args.length c2] 24) = W0 := ⟨_, rfl⟩
  have hk0 : Keeps (fun _ => False) W W0 := by rw [← hW0]; exact ((Keeps.refl _ _).alloc _).alloc _
  have hA3 : Blk W0 b0 24 [.int .i64 a.kind, .string a.name, .int .i64 a.var, .slice A1 a.args.length c1] := by
    rw [← hW0, ← hb0]; exact (Blk.new W _ [_, _, _, _]).alloc _
  have hB3 : Blk W0 (b0 + 1) 24 [.int .i64 b.kind, .string b.name, .int .i64 b.var, .slice A2 b.args.length c2] := by
    have := Blk.new (W.alloc (.cells #[.int .i64 a.kind, .string a.name, .int .i64 a.var, .slice A1 a.args.length c1] 24)) 24 [.int .i64 b.kind, .string b.name, .int .i64 b.var, .slice A2 b.args.length c2]
    rw [hW0] at this
    simpa [hb0] using this
  have hU0 := hU.keeps hk0 (fun h => h) (fun h => h) (fun _ _ h => h)
  have hbw0 : Below W.heap.size W W0 := hk0.below (fun _ h => h.elim) (Nat.le_refl _)
  have hTa0 := hTa.keeps hk0 (fun _ _ h => h)
  have hTb0 := hTb.keeps hk0 (fun _ _ h => h)
  have hpl := hU.blk.lt
  have hgl := hU.glt
  have hpb : p ≠ b0 := by omega
  have hpb1 : p ≠ b0 + 1 := by omega
  have hgb : g ≠ b0 := by omega
  have hpb' : p < b0 := by omega
  rw [rowsP] at hr
  cases hta : tailP σ k a with
  | none => rw [hta] at hr; cases hr
  | some n =>
  rw [hta] at hr
  dsimp only at hr
  cases hex : extractP k a.name n k σ b with
  | none => rw [hex] at hr; cases hr
  | some pr =>
  obtain ⟨t, rest, e0, σ1⟩ := pr
  rw [hex] at hr
  dsimp only at hr
  have hσ1 := extractP_len _ _ _ _ _ _ _ _ _ _ hex
  have hin1 := extractP_in _ _ _ _ _ _ _ _ _ _ hU.inn hVb hex
  have HTl := Lib.hid (fun X (hb : Below W0.heap.size W0 X) => tail_any k F X p _ g σ (hU0.later hb) a _ (hTa0.later hb) hVa n hta)
  have HEx := Lib.hid (fun X (hb : Below W0.heap.size W0 X) => extr_any k a.name n hTa.name k F X p _ g σ b _ t rest e0 σ1 hn (hU0.later hb) (hTb0.later hb) hVb hex)
  unfold tyV at HTl HEx
  have t0 := hA3.cell (i := 0) rfl
  have t1 := hA3.cell (i := 1) rfl
  have t2 := hA3.cell (i := 2) rfl
  have t3 := hA3.cell (i := 3) rfl
  have s0 := hB3.cell (i := 0) rfl
  have s1 := hB3.cell (i := 1) rfl
  have s2 := hB3.cell (i := 2) rfl
  have s3 := hB3.cell (i := 3) rfl
  have hb0l := hB3.lt
  have hp0l := hU0.blk.lt
  have hg0l := hU0.glt
  have hw0p : W0.heap.size ≠ p := by omega
  have hw0g : W0.heap.size ≠ g := by omega
  have hw1p : W0.heap.size + 1 ≠ p := by omega
  have hw1g : W0.heap.size + 1 ≠ g := by omega
  have hz1 : Hid (W0.heap.size + 1 = (W0.alloc (Obj.cells #[.int .i64 0, .string ⟨#[]⟩, .int .i64 0, .slice none 0 0] 24)).heap.size) := by show _ = _; simp
  have hgb1 : g ≠ b0 + 1 := by omega
  have hQ : Hid (∀ X, Keeps (fun b => b = p ∨ b = g) W0 X → (X.cell? ⟨b0, 0, none⟩ = some (.int .i64 a.kind) ∧ X.cell? ⟨b0, 1, none⟩ = some (.string a.name) ∧ X.cell? ⟨b0, 2, none⟩ = some (.int .i64 a.var) ∧ X.cell? ⟨b0, 3, none⟩ = some (.slice A1 a.args.length c1) ∧ X.cell? ⟨b0 + 1, 0, none⟩ = some (.int .i64 b.kind) ∧ X.cell? ⟨b0 + 1, 1, none⟩ = some (.string b.name) ∧ X.cell? ⟨b0 + 1, 2, none⟩ = some (.int .i64 b.var) ∧ X.cell? ⟨b0 + 1, 3, none⟩ = some (.slice A2 b.args.length c2))) := fun X hk =>
    ⟨hk.cell t0 (fun h => by rcases h with h | h <;> (dsimp at h; omega)), hk.cell t1 (fun h => by rcases h with h | h <;> (dsimp at h; omega)), hk.cell t2 (fun h => by rcases h with h | h <;> (dsimp at h; omega)), hk.cell t3 (fun h => by rcases h with h | h <;> (dsimp at h; omega)), hk.cell s0 (fun h => by rcases h with h | h <;> (dsimp at h; omega)), hk.cell s1 (fun h => by rcases h with h | h <;> (dsimp at h; omega)), hk.cell s2 (fun h => by rcases h with h | h <;> (dsimp at h; omega)), hk.cell s3 (fun h => by rcases h with h | h <;> (dsimp at h; omega))⟩
  have HIH := Lib.hid ih
  have HU := Lib.hid hU
  have HU0 := Lib.hid hU0
  have HBw := Lib.hid hbw0
  have HB0 := Lib.hid hb0
  have HW0 := Lib.hid hW0
  have HA3 := Lib.hid hA3
  have HB3 := Lib.hid hB3
  have HR := Lib.hid hr
  have HVa := Lib.hid hVa
  have HVb := Lib.hid hVb
  have HN := Lib.hid hn
  have HS1 := Lib.hid hσ1
  have HTa := Lib.hid hTa0
  have HIn := Lib.hid hin1
  have HA0 := Lib.hid ha0
  unfold tyV
  clear hU hU0 hk0 hb0 hW0 hA3 hB3 hr hTa hTb hVa hVb hbw0 ih hn hTa0 hTb0 hta hex hin1 ha0 hσ1
  go_enter Tryd.func40, Tryd.ntmps40
  go_wp2_with fail
  rw [HW0.out, HB0.out]
  go_upto_region 1 with fail
  go_cut [4, 7, 8, 9] (fun s4 s7 s8 s9 wc => ∃ g7 g8 tv rv F1 sv1 g1, s4 = .pointer (some ⟨b0, 0, none⟩) ∧ s7 = .pointer (some ⟨g7, 0, none⟩) ∧ s8 = .pointer (some ⟨g8, 0, none⟩) ∧ s9 = .int .i64 e0 ∧ Blk wc g7 24 [.int .i64 t.kind, .string t.name, .int .i64 t.var, tv] ∧ Blk wc g8 24 [.int .i64 rest.kind, .string rest.name, .int .i64 rest.var, rv] ∧ TyC wc F1 t tv ∧ TyC wc F1 rest rv ∧ UniNew F F1 W0 p g wc sv1 g1 σ1 ∧ (g7 ≠ p ∧ g8 ≠ p ∧ g7 ≠ g1 ∧ g8 ≠ g1 ∧ W0.heap.size ≤ g7 ∧ W0.heap.size ≤ g8))
  case first =>
    go_region_held3 (fun X => X.cell? ⟨b0, 0, none⟩ = some (.int .i64 a.kind) ∧ X.cell? ⟨b0, 1, none⟩ = some (.string a.name) ∧ X.cell? ⟨b0, 2, none⟩ = some (.int .i64 a.var) ∧ X.cell? ⟨b0, 3, none⟩ = some (.slice A1 a.args.length c1) ∧ X.cell? ⟨b0 + 1, 0, none⟩ = some (.int .i64 b.kind) ∧ X.cell? ⟨b0 + 1, 1, none⟩ = some (.string b.name) ∧ X.cell? ⟨b0 + 1, 2, none⟩ = some (.int .i64 b.var) ∧ X.cell? ⟨b0 + 1, 3, none⟩ = some (.slice A2 b.args.length c2))
      (exact hQ.out _ (by repeat (first | (with_reducible assumption) | (with_reducible exact Keeps.refl _ _) | (with_reducible refine Keeps.drewN ?_ _) | (with_reducible refine Keeps.drew ?_) | with_reducible refine Keeps.setCell ?_ (by first | (intro _; exact rfl) | (intro _; exact Or.inl rfl) | (intro _; exact Or.inr rfl) | (simp; done) | (simp; omega)) _ | (with_reducible refine Keeps.alloc ?_ _))))
      (first
      | (go_at_call 46; (with_reducible refine (HTl.out _ (by repeat (first | (with_reducible assumption) | (with_reducible exact Below.refl _ _) | (with_reducible refine Below.drewN ?_ _) | (with_reducible refine Below.drew ?_) | with_reducible refine Below.setCell ?_ (by first | exact Nat.le_refl _ | (simp; done) | (simp; omega)) _ | with_reducible refine Below.alloc ?_ (by first | exact Nat.le_refl _ | omega | (simp; done) | (simp; omega)) _))).mono ?_); rintro e w2 ⟨rfl, hb2⟩; have hw2 : Below W0.heap.size W0 w2 := Below.trans (by repeat (first | (with_reducible assumption) | (with_reducible exact Below.refl _ _) | (with_reducible refine Below.drewN ?_ _) | (with_reducible refine Below.drew ?_) | with_reducible refine Below.setCell ?_ (by first | exact Nat.le_refl _ | (simp; done) | (simp; omega)) _ | with_reducible refine Below.alloc ?_ (by first | exact Nat.le_refl _ | omega | (simp; done) | (simp; omega)) _)) (hb2.mono (by first | (simp; done) | exact Below.size (B := W0.heap.size) (by repeat (first | (with_reducible assumption) | (with_reducible exact Below.refl _ _) | (with_reducible refine Below.drewN ?_ _) | (with_reducible refine Below.drew ?_) | with_reducible refine Below.setCell ?_ (by first | exact Nat.le_refl _ | (simp; done) | (simp; omega)) _ | with_reducible refine Below.alloc ?_ (by first | exact Nat.le_refl _ | omega | (simp; done) | (simp; omega)) _)))); have hk2 : Keeps (fun b => b = p ∨ b = g) W0 w2 := Keeps.of_below hw2; have hs2 := hw2.size; (try ((first | (have ka0 : Blk w2 W0.heap.size 24 [.int .i64 0, .string ⟨#[]⟩, .int .i64 0, .slice none 0 0] := Blk.later (Blk.new W0 24 [.int .i64 0, .string ⟨#[]⟩, .int .i64 0, .slice none 0 0]).drew hb2) | (have ka0 : Blk w2 W0.heap.size 24 [.int .i64 0, .string ⟨#[]⟩, .int .i64 0, .slice none 0 0] := Blk.later ((Blk.new W0 24 [.int .i64 0, .string ⟨#[]⟩, .int .i64 0, .slice none 0 0]).alloc _).drew hb2)); have ka0_c0 := ka0.cell (i := 0) rfl; have ka0_f0 := ka0.free 0; have ka0_c1 := ka0.cell (i := 1) rfl; have ka0_f1 := ka0.free 1; have ka0_c2 := ka0.cell (i := 2) rfl; have ka0_f2 := ka0.free 2; have ka0_c3 := ka0.cell (i := 3) rfl; have ka0_f3 := ka0.free 3; have ka0_l := ka0.lt)); (try ((first | (have ka1 : Blk w2 (W0.heap.size + 1) 24 [.int .i64 0, .string ⟨#[]⟩, .int .i64 0, .slice none 0 0] := Blk.later (Blk.new_at hz1.out 24 [.int .i64 0, .string ⟨#[]⟩, .int .i64 0, .slice none 0 0]).drew hb2)); have ka1_c0 := ka1.cell (i := 0) rfl; have ka1_f0 := ka1.free 0; have ka1_c1 := ka1.cell (i := 1) rfl; have ka1_f1 := ka1.free 1; have ka1_c2 := ka1.cell (i := 2) rfl; have ka1_f2 := ka1.free 2; have ka1_c3 := ka1.cell (i := 3) rfl; have ka1_f3 := ka1.free 3; have ka1_l := ka1.lt)); have hw2p : w2.heap.size ≠ p := (by omega); have hw2g : w2.heap.size ≠ g := (by omega); have hw3p : w2.heap.size + 1 ≠ p := (by omega); have hw3g : w2.heap.size + 1 ≠ g := (by omega); have hz2 : Hid (w2.heap.size + 1 = (w2.alloc (Obj.cells #[.int .i64 0, .string ⟨#[]⟩, .int .i64 0, .slice none 0 0] 24)).heap.size) := (by show _ = _; simp))
      | (go_at_call 45; (with_reducible refine (HEx.out _ (by repeat (first | (with_reducible assumption) | (with_reducible exact Below.refl _ _) | (with_reducible refine Below.drewN ?_ _) | (with_reducible refine Below.drew ?_) | with_reducible refine Below.setCell ?_ (by first | exact Nat.le_refl _ | (simp; done) | (simp; omega)) _ | with_reducible refine Below.alloc ?_ (by first | exact Nat.le_refl _ | omega | (simp; done) | (simp; omega)) _))).mono ?_); rintro e w3 ⟨tv, rv, F1, sv1, g1, rfl, hT3, hR3, hN3⟩; obtain ⟨A5, c5, rfl, _⟩ := hT3.form; obtain ⟨A6, c6, rfl, _⟩ := hR3.form; unfold tyV; have hk3 : Keeps (fun b => b = p ∨ b = g) W0 w3 := Keeps.trans (by repeat (first | (with_reducible assumption) | (with_reducible exact Keeps.refl _ _) | (with_reducible refine Keeps.drewN ?_ _) | (with_reducible refine Keeps.drew ?_) | with_reducible refine Keeps.setCell ?_ (by first | (intro _; exact rfl) | (intro _; exact Or.inl rfl) | (intro _; exact Or.inr rfl) | (simp; done) | (simp; omega)) _ | (with_reducible refine Keeps.alloc ?_ _))) hN3.keeps (fun _ _ h => h); have hs3 := hk3.size; have hx3 : W0.heap.size ≤ _ ∧ _ := ⟨Below.size (B := W0.heap.size) (by repeat (first | (with_reducible assumption) | (with_reducible exact Below.refl _ _) | (with_reducible refine Below.drewN ?_ _) | (with_reducible refine Below.drew ?_) | with_reducible refine Below.setCell ?_ (by first | exact Nat.le_refl _ | (simp; done) | (simp; omega)) _ | with_reducible refine Below.alloc ?_ (by first | exact Nat.le_refl _ | omega | (simp; done) | (simp; omega)) _)), hN3⟩; (try ((first | (have kb0 : Blk w3 W0.heap.size 24 [.int .i64 0, .string ⟨#[]⟩, .int .i64 0, .slice none 0 0] := blk_keep ka0 hN3.keeps hw0p hw0g) | (have kb0 : Blk w3 W0.heap.size 24 [.int .i64 0, .string ⟨#[]⟩, .int .i64 0, .slice none 0 0] := blk_keep (ka0.alloc _) hN3.keeps hw0p hw0g) | (have kb0 : Blk w3 W0.heap.size 24 [.int .i64 0, .string ⟨#[]⟩, .int .i64 0, .slice none 0 0] := blk_keep ((ka0.alloc _).alloc _) hN3.keeps hw0p hw0g)); have kb0_c0 := kb0.cell (i := 0) rfl; have kb0_f0 := kb0.free 0; have kb0_c1 := kb0.cell (i := 1) rfl; have kb0_f1 := kb0.free 1; have kb0_c2 := kb0.cell (i := 2) rfl; have kb0_f2 := kb0.free 2; have kb0_c3 := kb0.cell (i := 3) rfl; have kb0_f3 := kb0.free 3; have kb0_l := kb0.lt)); (try ((first | (have kb1 : Blk w3 (W0.heap.size + 1) 24 [.int .i64 0, .string ⟨#[]⟩, .int .i64 0, .slice none 0 0] := blk_keep ka1 hN3.keeps hw1p hw1g) | (have kb1 : Blk w3 (W0.heap.size + 1) 24 [.int .i64 0, .string ⟨#[]⟩, .int .i64 0, .slice none 0 0] := blk_keep (ka1.alloc _) hN3.keeps hw1p hw1g) | (have kb1 : Blk w3 (W0.heap.size + 1) 24 [.int .i64 0, .string ⟨#[]⟩, .int .i64 0, .slice none 0 0] := blk_keep ((ka1.alloc _).alloc _) hN3.keeps hw1p hw1g)); have kb1_c0 := kb1.cell (i := 0) rfl; have kb1_f0 := kb1.free 0; have kb1_c1 := kb1.cell (i := 1) rfl; have kb1_f1 := kb1.free 1; have kb1_c2 := kb1.cell (i := 2) rfl; have kb1_f2 := kb1.free 2; have kb1_c3 := kb1.cell (i := 3) rfl; have kb1_f3 := kb1.free 3; have kb1_l := kb1.lt)); (try ((first | (have kb2 : Blk w3 w2.heap.size 24 [.int .i64 0, .string ⟨#[]⟩, .int .i64 0, .slice none 0 0] := blk_keep (Blk.new w2 24 [.int .i64 0, .string ⟨#[]⟩, .int .i64 0, .slice none 0 0]) hN3.keeps hw2p hw2g) | (have kb2 : Blk w3 w2.heap.size 24 [.int .i64 0, .string ⟨#[]⟩, .int .i64 0, .slice none 0 0] := blk_keep ((Blk.new w2 24 [.int .i64 0, .string ⟨#[]⟩, .int .i64 0, .slice none 0 0]).alloc _) hN3.keeps hw2p hw2g)); have kb2_c0 := kb2.cell (i := 0) rfl; have kb2_f0 := kb2.free 0; have kb2_c1 := kb2.cell (i := 1) rfl; have kb2_f1 := kb2.free 1; have kb2_c2 := kb2.cell (i := 2) rfl; have kb2_f2 := kb2.free 2; have kb2_c3 := kb2.cell (i := 3) rfl; have kb2_f3 := kb2.free 3; have kb2_l := kb2.lt)); (try ((first | (have kb3 : Blk w3 (w2.heap.size + 1) 24 [.int .i64 0, .string ⟨#[]⟩, .int .i64 0, .slice none 0 0] := blk_keep (Blk.new_at hz2.out 24 [.int .i64 0, .string ⟨#[]⟩, .int .i64 0, .slice none 0 0]) hN3.keeps hw3p hw3g)); have kb3_c0 := kb3.cell (i := 0) rfl; have kb3_f0 := kb3.free 0; have kb3_c1 := kb3.cell (i := 1) rfl; have kb3_f1 := kb3.free 1; have kb3_c2 := kb3.cell (i := 2) rfl; have kb3_f2 := kb3.free 2; have kb3_c3 := kb3.cell (i := 3) rfl; have kb3_f3 := kb3.free 3; have kb3_l := kb3.lt))))
    all_goals
      go_wp2_with fail
      have hg1l := hN3.uni.glt
      have hnw := hN3.new
      have hat := hN3.at_
      have hims := hN3.uni.im
      go_meet
      refine ⟨_, _, .slice A5 t.args.length c5, .slice A6 rest.args.length c6, F1, sv1, g1, rfl, rfl, rfl, rfl, ?_, ?_, ?_, ?_, ?_, ?_⟩
      · (repeat (first | (with_reducible assumption) | (with_reducible refine Blk.drew ?_) | ((with_reducible refine Blk.new_at ?_ _ _); simp; done) | (with_reducible refine Blk.alloc ?_ _) | (with_reducible refine Blk.four ?_ _ _ _ _) | ((with_reducible refine Blk.far4 ?_ ?_ _ _ _ _); rotate_left; omega)))
      · (repeat (first | (with_reducible assumption) | (with_reducible refine Blk.drew ?_) | ((with_reducible refine Blk.new_at ?_ _ _); simp; done) | (with_reducible refine Blk.alloc ?_ _) | (with_reducible refine Blk.four ?_ _ _ _ _) | ((with_reducible refine Blk.far4 ?_ ?_ _ _ _ _); rotate_left; omega)))
      · refine hT3.keeps (X := Apart F1 W0 p g1) ?_ (fun i hi h => h.1 hi)
        (repeat (first | (with_reducible exact Keeps.refl _ _) | (with_reducible refine Keeps.drew ?_) | (with_reducible refine Keeps.alloc ?_ _) | ((with_reducible refine Keeps.set4 ?_ ?_ _ _ _ _); rotate_left; (intro hlt; refine ⟨fun hi => ?_, ?_, ?_, ?_⟩; (rcases hnw _ hi with h | h; (have := (HU.out.im _ h).1; have := HB0.out; omega); ((try simp at h); omega)); omega; (rcases hat with h | h <;> (try simp at h) <;> omega); omega))))
      · refine hR3.keeps (X := Apart F1 W0 p g1) ?_ (fun i hi h => h.1 hi)
        (repeat (first | (with_reducible exact Keeps.refl _ _) | (with_reducible refine Keeps.drew ?_) | (with_reducible refine Keeps.alloc ?_ _) | ((with_reducible refine Keeps.set4 ?_ ?_ _ _ _ _); rotate_left; (intro hlt; refine ⟨fun hi => ?_, ?_, ?_, ?_⟩; (rcases hnw _ hi with h | h; (have := (HU.out.im _ h).1; have := HB0.out; omega); ((try simp at h); omega)); omega; (rcases hat with h | h <;> (try simp at h) <;> omega); omega))))
      · refine (hN3.of_below (by repeat (first | (with_reducible assumption) | (with_reducible exact Below.refl _ _) | (with_reducible refine Below.drewN ?_ _) | (with_reducible refine Below.drew ?_) | with_reducible refine Below.setCell ?_ (by first | exact Nat.le_refl _ | (simp; done) | (simp; omega)) _ | with_reducible refine Below.alloc ?_ (by first | exact Nat.le_refl _ | omega | (simp; done) | (simp; omega)) _))).far ?_
        (repeat (first | (with_reducible exact Keeps.refl _ _) | (with_reducible refine Keeps.drew ?_) | (with_reducible refine Keeps.alloc ?_ _) | ((with_reducible refine Keeps.set4 ?_ ?_ _ _ _ _); rotate_left; (intro hlt; refine ⟨fun hi => ?_, ?_, ?_, ?_⟩; (rcases hnw _ hi with h | h; (have := (HU.out.im _ h).1; have := HB0.out; omega); ((try simp at h); omega)); omega; (rcases hat with h | h <;> (try simp at h) <;> omega); omega))))
      · refine ⟨?_, ?_, ?_, ?_, ?_, ?_⟩ <;> (rcases hat with h | h <;> (try simp at h) <;> omega)
  case rest =>
    clear t0 t1 t2 t3 s0 s1 s2 s3 hQ
    obtain ⟨g7, g8, tv, rv, F1, sv1, g1, rfl, rfl, rfl, rfl, hb7, hb8, hTt, hTr, hNw, hne⟩ := hcut
    obtain ⟨A5, c5, rfl, _⟩ := hTt.form
    obtain ⟨A6, c6, rfl, _⟩ := hTr.form
    have HNw := Lib.hid hNw
    have hNz : UniNew F F1 W p g wc sv1 g1 σ1 := hNw.of_below HBw.out
    have HNz := Lib.hid hNz
    by_cases he : e0 = 0
    · have hr1 := HR.out
      rw [if_neg (fun h => h he)] at hr1
      match hcar : a.args, hr1 with
      | [], hr1 => cases hr1
      | [_], hr1 => cases hr1
      | x :: y :: more, hr1 =>
      dsimp only at hr1
      cases hu1 : unifyP k q σ1 x t with
      | none => rw [hu1] at hr1; cases hr1
      | some pr =>
      obtain ⟨e2, σ2⟩ := pr
      rw [hu1] at hr1
      dsimp only at hr1
      have hl2' : 1 < a.args.length := by rw [hcar]; simp
      have hl1' : 0 < a.args.length := by omega
      have hTaw : TyC wc F1 a _ := HNw.out.old HU0.out HTa.out
      obtain ⟨gy, off, xv, hadr, hgy, i0, i1, i2, i3, hTx⟩ := tyD.get hTaw.args hl1'
      obtain rfl := hadr
      have hgx' : a.args[0] = x := by simp [hcar]
      have hgy' : a.args[1] = y := by simp [hcar]
      rw [hgx', Nat.zero_mul, Nat.add_zero] at i0 i1 i2
      rw [Nat.zero_mul, Nat.add_zero] at i3
      rw [hgx'] at hTx
      obtain ⟨A4, c4, rfl, _⟩ := hTx.form
      have hVx : VIn σ1 x := (HVa.out.arg HA0.out (by rw [hcar]; simp)).mono HS1.out.1
      have hVy : VIn σ1 y := (HVa.out.arg HA0.out (by rw [hcar]; simp)).mono HS1.out.1
      have HN1 : Hid (σ1.length ≤ 4096) := HS1.out.2 HN.out he
      have hl3 : (1 : Int) < (a.args.length : Int) := by omega
      have hl0 : (0 : Int) < (a.args.length : Int) := by omega
      have hl4 : a.args.length ≤ 9223372036854775807 := by unfold maxLen at hcm1; omega
      have hbg1 : b0 ≠ g1 := by
        rcases HNw.out.at_ with h | h
        · rw [h]; omega
        · omega
      have hgym := HNw.out.uni.im gy hgy
      have hgyp := hgym.2.1
      have hgyg := hgym.2.2
      have hga := hne.1
      have hgb' := hne.2.2.1
      have hA5 := HA3.out.keeps HNw.out.keeps (fun h => by omega)
      have j3 := hA5.cell (i := 3) rfl
      have l0 := hb7.cell (i := 0) rfl
      have l1 := hb7.cell (i := 1) rfl
      have l2 := hb7.cell (i := 2) rfl
      have l3 := hb7.cell (i := 3) rfl
      have hlen2 := unifyP_len k q _ _ _ _ _ hu1
      have hC1 := fun X (hb : Below wc.heap.size wc X) => HIH.out F1 X p sv1 g1 σ1 x t _ _ e2 σ2 (HNw.out.uni.later hb) HN1.out (hTx.later hb) (hTt.later hb) hVx (HIn.out he).1 hu1
      unfold tyV at hC1
      have HC1 := Lib.hid hC1
      have HIn2 := Lib.hid (HIn.out he).2
      have HTr := Lib.hid hTr
      have HB8 := Lib.hid hb8
      have HA5 := Lib.hid hA5
      have HR1 := Lib.hid hr1
      have HVy := Lib.hid hVy
      have HLen2 := Lib.hid hlen2
      have HCar := Lib.hid hcar
      have HNe := Lib.hid hne
      have hg8l := hb8.lt
      have hb0w := hA5.lt
      have he0b : (e0 != 0) = false := by rw [he]; rfl
      have hQ4 : Hid (∀ X, Keeps (fun b => b = p ∨ b = g1) wc X → (X.cell? ⟨b0, 3, none⟩ = some (.slice (some ⟨gy, off, none⟩) a.args.length c1) ∧ X.cell? ⟨gy, off, none⟩ = some (.int .i64 x.kind) ∧ X.cell? ⟨gy, off + 1, none⟩ = some (.string x.name) ∧ X.cell? ⟨gy, off + 2, none⟩ = some (.int .i64 x.var) ∧ X.cell? ⟨gy, off + 3, none⟩ = some (.slice A4 x.args.length c4) ∧ X.cell? ⟨g7, 0, none⟩ = some (.int .i64 t.kind) ∧ X.cell? ⟨g7, 1, none⟩ = some (.string t.name) ∧ X.cell? ⟨g7, 2, none⟩ = some (.int .i64 t.var) ∧ X.cell? ⟨g7, 3, none⟩ = some (.slice A5 t.args.length c5))) := fun X hk =>
        ⟨hk.cell j3 (fun h => by rcases h with h | h <;> (dsimp at h; omega)), hk.cell i0 (fun h => by rcases h with h | h <;> (dsimp at h; omega)), hk.cell i1 (fun h => by rcases h with h | h <;> (dsimp at h; omega)), hk.cell i2 (fun h => by rcases h with h | h <;> (dsimp at h; omega)), hk.cell i3 (fun h => by rcases h with h | h <;> (dsimp at h; omega)), hk.cell l0 (fun h => by rcases h with h | h <;> (dsimp at h; omega)), hk.cell l1 (fun h => by rcases h with h | h <;> (dsimp at h; omega)), hk.cell l2 (fun h => by rcases h with h | h <;> (dsimp at h; omega)), hk.cell l3 (fun h => by rcases h with h | h <;> (dsimp at h; omega))⟩
      clear hC1 hTr hTt hTx hb8 hb7 hA5 hr1 hVx hVy hlen2 hcar hne hNw hNz hTaw hgx' hgy' hu1 he hgym
      go_wp2_with fail
      go_region_held3 (fun X => X.cell? ⟨b0, 3, none⟩ = some (.slice (some ⟨gy, off, none⟩) a.args.length c1) ∧ X.cell? ⟨gy, off, none⟩ = some (.int .i64 x.kind) ∧ X.cell? ⟨gy, off + 1, none⟩ = some (.string x.name) ∧ X.cell? ⟨gy, off + 2, none⟩ = some (.int .i64 x.var) ∧ X.cell? ⟨gy, off + 3, none⟩ = some (.slice A4 x.args.length c4) ∧ X.cell? ⟨g7, 0, none⟩ = some (.int .i64 t.kind) ∧ X.cell? ⟨g7, 1, none⟩ = some (.string t.name) ∧ X.cell? ⟨g7, 2, none⟩ = some (.int .i64 t.var) ∧ X.cell? ⟨g7, 3, none⟩ = some (.slice A5 t.args.length c5))
        (exact hQ4.out _ (by repeat (first | (with_reducible assumption) | (with_reducible exact Keeps.refl _ _) | (with_reducible refine Keeps.drewN ?_ _) | (with_reducible refine Keeps.drew ?_) | with_reducible refine Keeps.setCell ?_ (by first | (intro _; exact rfl) | (intro _; exact Or.inl rfl) | (intro _; exact Or.inr rfl) | (simp; done) | (simp; omega)) _ | (with_reducible refine Keeps.alloc ?_ _))))
        ((go_at_call 29; (with_reducible refine (HC1.out _ (by repeat (first | (with_reducible assumption) | (with_reducible exact Below.refl _ _) | (with_reducible refine Below.drewN ?_ _) | (with_reducible refine Below.drew ?_) | with_reducible refine Below.setCell ?_ (by first | exact Nat.le_refl _ | (simp; done) | (simp; omega)) _ | with_reducible refine Below.alloc ?_ (by first | exact Nat.le_refl _ | omega | (simp; done) | (simp; omega)) _))).mono ?_); rintro e w4 ⟨rfl, F2, sv2, g2, hN4⟩; have hk4 : Keeps (fun b => b = p ∨ b = g1) wc w4 := Keeps.trans (by repeat (first | (with_reducible assumption) | (with_reducible exact Keeps.refl _ _) | (with_reducible refine Keeps.drewN ?_ _) | (with_reducible refine Keeps.drew ?_) | with_reducible refine Keeps.setCell ?_ (by first | (intro _; exact rfl) | (intro _; exact Or.inl rfl) | (intro _; exact Or.inr rfl) | (simp; done) | (simp; omega)) _ | (with_reducible refine Keeps.alloc ?_ _))) hN4.keeps (fun _ _ h => h)))
      all_goals
        have hN5 : UniNew F1 F2 wc p g1 w4 sv2 g2 σ2 := UniNew.of_below (W := wc) hN4 (Below.refl _ _).drew
        have hN6 := HNw.out.trans hN5
        have HN6 := Lib.hid (hN6.of_below HBw.out)
        by_cases h2 : e2 = 0
        · have hr2 := HR1.out
          rw [if_neg (fun h => h h2)] at hr2
          have he2b : (e2 != 0) = false := by rw [h2]; rfl
          have HN2 : Hid (σ2.length ≤ 4096) := HLen2.out.2 HN1.out h2
          have hTaw : TyC w4 F2 a _ := hN6.old HU0.out HTa.out
          obtain ⟨gz, ofz, yv, hadr, hgz, f0, f1, f2, f3, hTy⟩ := tyD.get hTaw.args hl2'
          simp only [Option.some.injEq, Addr.mk.injEq, and_true] at hadr
          obtain ⟨rfl, rfl⟩ := hadr
          have hgy' : a.args[1] = y := by have := HCar.out; simp [this]
          rw [hgy'] at f0 f1 f2 hTy
          simp only [Nat.one_mul] at f0 f1 f2 f3
          obtain ⟨A9, c9, rfl, _⟩ := hTy.form
          have hbg2 : b0 ≠ g2 := by
            rcases hN5.at_ with h | h
            · rw [h]; exact hbg1
            · omega
          have hg8g2 : g8 ≠ g2 := by
            have := HNe.out
            rcases hN5.at_ with h | h
            · rw [h]; omega
            · omega
          have hgp8 : g8 ≠ p := HNe.out.2.1
          have hgym2 := hN5.uni.im gy hgz
          have hgyg2 := hgym2.2.2
          have hA6 := HA5.out.keeps hN5.keeps (fun h => by omega)
          have hB9 := HB8.out.keeps hN5.keeps (fun h => by have := HNe.out; omega)
          have n3 := hA6.cell (i := 3) rfl
          have m0 := hB9.cell (i := 0) rfl
          have m1 := hB9.cell (i := 1) rfl
          have m2 := hB9.cell (i := 2) rfl
          have m3 := hB9.cell (i := 3) rfl
          have hTr2 := (HTr.out.keeps hN5.keeps (fun i hi h => by have := (HNw.out.uni.im i hi).2; omega)).mono hN5.up
          have hC2 := fun X (hb : Below w4.heap.size w4 X) => HIH.out F2 X p sv2 g2 σ2 y rest _ _ r σ' (hN5.uni.later hb) HN2.out (hTy.later hb) (hTr2.later hb) (HVy.out.mono HLen2.out.1) (HIn2.out.mono HLen2.out.1) hr2
          unfold tyV at hC2
          have HC2 := Lib.hid hC2
          have hQ7 : Hid (∀ X, Keeps (fun b => b = p ∨ b = g2) w4 X → (X.cell? ⟨b0, 3, none⟩ = some (.slice (some ⟨gy, off, none⟩) a.args.length c1) ∧ X.cell? ⟨gy, off + 4, none⟩ = some (.int .i64 y.kind) ∧ X.cell? ⟨gy, off + 4 + 1, none⟩ = some (.string y.name) ∧ X.cell? ⟨gy, off + 4 + 2, none⟩ = some (.int .i64 y.var) ∧ X.cell? ⟨gy, off + 4 + 3, none⟩ = some (.slice A9 y.args.length c9) ∧ X.cell? ⟨g8, 0, none⟩ = some (.int .i64 rest.kind) ∧ X.cell? ⟨g8, 1, none⟩ = some (.string rest.name) ∧ X.cell? ⟨g8, 2, none⟩ = some (.int .i64 rest.var) ∧ X.cell? ⟨g8, 3, none⟩ = some (.slice A6 rest.args.length c6))) := fun X hk =>
            ⟨hk.cell n3 (fun h => by rcases h with h | h <;> (dsimp at h; omega)), hk.cell f0 (fun h => by rcases h with h | h <;> (dsimp at h; omega)), hk.cell f1 (fun h => by rcases h with h | h <;> (dsimp at h; omega)), hk.cell f2 (fun h => by rcases h with h | h <;> (dsimp at h; omega)), hk.cell f3 (fun h => by rcases h with h | h <;> (dsimp at h; omega)), hk.cell m0 (fun h => by rcases h with h | h <;> (dsimp at h; omega)), hk.cell m1 (fun h => by rcases h with h | h <;> (dsimp at h; omega)), hk.cell m2 (fun h => by rcases h with h | h <;> (dsimp at h; omega)), hk.cell m3 (fun h => by rcases h with h | h <;> (dsimp at h; omega))⟩
          clear hC2 hTr2 hTy hB9 hA6 hgym2 hTaw hgy' hr2 hN6 hN5 hN4 h2 hk4 i0 i1 i2 i3 l0 l1 l2 l3 j3 hQ4
          go_wp2_with fail
          go_region_held3 (fun X => X.cell? ⟨b0, 3, none⟩ = some (.slice (some ⟨gy, off, none⟩) a.args.length c1) ∧ X.cell? ⟨gy, off + 4, none⟩ = some (.int .i64 y.kind) ∧ X.cell? ⟨gy, off + 4 + 1, none⟩ = some (.string y.name) ∧ X.cell? ⟨gy, off + 4 + 2, none⟩ = some (.int .i64 y.var) ∧ X.cell? ⟨gy, off + 4 + 3, none⟩ = some (.slice A9 y.args.length c9) ∧ X.cell? ⟨g8, 0, none⟩ = some (.int .i64 rest.kind) ∧ X.cell? ⟨g8, 1, none⟩ = some (.string rest.name) ∧ X.cell? ⟨g8, 2, none⟩ = some (.int .i64 rest.var) ∧ X.cell? ⟨g8, 3, none⟩ = some (.slice A6 rest.args.length c6))
            (exact hQ7.out _ (by repeat (first | (with_reducible assumption) | (with_reducible exact Keeps.refl _ _) | (with_reducible refine Keeps.drewN ?_ _) | (with_reducible refine Keeps.drew ?_) | with_reducible refine Keeps.setCell ?_ (by first | (intro _; exact rfl) | (intro _; exact Or.inl rfl) | (intro _; exact Or.inr rfl) | (simp; done) | (simp; omega)) _ | (with_reducible refine Keeps.alloc ?_ _))))
            ((go_at_call 29; (with_reducible refine (HC2.out _ (by repeat (first | (with_reducible assumption) | (with_reducible exact Below.refl _ _) | (with_reducible refine Below.drewN ?_ _) | (with_reducible refine Below.drew ?_) | with_reducible refine Below.setCell ?_ (by first | exact Nat.le_refl _ | (simp; done) | (simp; omega)) _ | with_reducible refine Below.alloc ?_ (by first | exact Nat.le_refl _ | omega | (simp; done) | (simp; omega)) _))).mono ?_); rintro e w8 ⟨rfl, F3, sv3, g3, hN8⟩; have hk8 : Keeps (fun b => b = p ∨ b = g2) w4 w8 := Keeps.trans (by repeat (first | (with_reducible assumption) | (with_reducible exact Keeps.refl _ _) | (with_reducible refine Keeps.drewN ?_ _) | (with_reducible refine Keeps.drew ?_) | with_reducible refine Keeps.setCell ?_ (by first | (intro _; exact rfl) | (intro _; exact Or.inl rfl) | (intro _; exact Or.inr rfl) | (simp; done) | (simp; omega)) _ | (with_reducible refine Keeps.alloc ?_ _))) hN8.keeps (fun _ _ h => h)))
          all_goals
            go_wp2_with fail
            go_ret
            exact ⟨rfl, F3, sv3, g3, HN6.out.trans (UniNew.of_below (W := w4) hN8 (Below.refl _ _).drew)⟩
        · have hr2 := HR1.out
          rw [if_pos h2] at hr2
          simp only [Option.some.injEq, Prod.mk.injEq] at hr2
          have HR2 := Lib.hid hr2
          have he2b : (e2 != 0) = true := by rw [bne_iff_ne]; exact h2
          clear hr2 h2 hN6 hN5 hN4 hk4
          go_wp2_with fail
          go_ret
          exact ⟨by rw [← HR2.out.1]; rfl, F2, sv2, g2, by rw [← HR2.out.2]; exact HN6.out⟩
    · have hr1 := HR.out
      rw [if_pos he] at hr1
      simp only [Option.some.injEq, Prod.mk.injEq] at hr1
      have HR1 := Lib.hid hr1
      have he0b : (e0 != 0) = true := by rw [bne_iff_ne]; exact he
      clear hr1 he hTt hTr hb7 hb8 hNw hNz hne
      go_wp2_with fail
      go_ret
      exact ⟨by rw [← HR1.out.1]; rfl, F1, sv1, g1, by rw [← HR1.out.2]; exact HNz.out⟩
end Go.Proofs.YthchnabhbpdfgaaDoor
