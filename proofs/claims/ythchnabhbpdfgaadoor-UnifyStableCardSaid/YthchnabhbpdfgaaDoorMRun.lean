/- The functions of package unify as the laws call them: told of a world whose blocks hold all that is read. Two calls of Apply, two boxes laid, in whatever order: what is at hand on the way. -/
import Derived.Test.YthchnabhbpdfgaaDoorUCmpC
import Derived.Test.YthchnabhbpdfgaaDoorUnify
import Derived.Test.YthchnabhbpdfgaaDoorUApply
import Derived.Test.YthchnabhbpdfgaaDoorMRowL
section
namespace Go.Proofs.YthchnabhbpdfgaaDoor
open Go.RowKit Go.Shelf Go.Sort Stab

/-- The blocks of a world. -/
def All (w : World) (b : Nat) : Prop := b < w.heap.size
section
variable {W X : World}
theorem tyc_all {t : Ty} {av : Value} (h : TyC W (All W) t av) (hk : Keeps (fun _ => False) W X) : TyC X (All X) t av := (h.keeps hk (fun _ _ h => h)).mono fun _ hb => Nat.lt_of_lt_of_le hb hk.size
theorem sl_all {σ : List Ty} {sv : Value} (h : Sl W (All W) tyD σ sv) (hk : Keeps (fun _ => False) W X) : Sl X (All X) tyD σ sv := (h.keeps hk (fun _ _ h => h)).mono fun _ hb => Nat.lt_of_lt_of_le hb hk.size
def URun (W : World) (r : Int) (τ : List Ty) (e : Ending) (w' : World) : Prop :=
  Keeps (fun _ => False) W w' ∧ ((r ≠ 0 ∧ e = .returned (.tuple #[.slice none 0 0, .int .i64 r])) ∨ (r = 0 ∧ ∃ g cap, e = .returned (.tuple #[.slice (some ⟨g, 0, none⟩) τ.length cap, .int .i64 0]) ∧ Sl w' (All w') tyD τ (.slice (some ⟨g, 0, none⟩) τ.length cap)))
theorem unify_run {k q : Nat} {sv av bv : Value} {σ τ : List Ty} {a b : Ty} {r : Int} (hS : Sl W (All W) tyD σ sv) (hz : Szs W) (h0 : 0 < σ.length) (hA : TyC W (All W) a av) (hB : TyC W (All W) b bv) (hr : unifyS k q σ a b = some (r, τ)) :
    ∀ X, Keeps (fun _ => False) W X → Calls Tryd.prog 7 #[sv, tyV a av, tyV b bv] X (URun W r τ) := fun X hk => by
  refine (unify_any k q (All X) X sv σ (sl_all hS hk) (fun _ hb => hb) (hz.keeps hk (fun h => h)) h0 a b av bv (tyc_all hA hk) (tyc_all hB hk) r τ hr).mono ?_
  rintro e w' ⟨hb, h⟩
  have hk2 := Keeps.of_below (X := fun _ => False) hb
  refine ⟨hk.trans hk2 (fun _ _ h => h), h.imp id ?_⟩
  rintro ⟨h1, g, cap, he, hS⟩
  have hs := hb.size
  refine ⟨h1, g, cap, he, hS.mono fun b hb => ?_⟩
  rcases hb with h | h
  · exact Nat.lt_of_lt_of_le h hs
  · exact h.2
def ARun (W : World) (r : Ty) (e : Ending) (w' : World) : Prop := ∃ A c, e = .returned (.agg #[.int .i64 r.kind, .string r.name, .int .i64 r.var, .slice A r.args.length c]) ∧ TyC w' (All w') r (.slice A r.args.length c) ∧ Keeps (fun _ => False) W w'
theorem apply_run {σ : List Ty} {sv av : Value} {t : Ty} (hg : Gd σ) (hs : Szd σ) (hS : Sl W (All W) tyD σ sv) (hT : TyC W (All W) t av) (hw : t.Wf) (hv : VIn σ t) (hn : nodes t ≤ 33554432) :
    ∀ X, Keeps (fun _ => False) W X → Calls Tryd.prog 9 #[sv, tyV t av] X (ARun W (ap σ t)) := fun X hk => by
  obtain ⟨K, hK⟩ := hg.ends hw hv
  refine (apply_any σ (fun x hx => ⟨hg.wf x hx, by have := hs.ent hg x hx; omega⟩) K K X (All X) sv av t (ap σ t) (sl_all hS hk) (tyc_all hT hk) (fun _ hb => hb) hw hn (hK K (Nat.le_refl _) K (Nat.le_refl _))).mono ?_
  rintro e w' ⟨A, c, he, hT2, hk2⟩
  exact ⟨A, c, he, hT2.mono (fun _ hb => hb.2), hk.trans hk2 (fun _ _ h => h)⟩
theorem free_run {t : Ty} {av : Value} (hT : TyC W (All W) t av) (hn : nodes t ≤ 33554432) :
    ∀ X, Keeps (fun _ => False) W X → Calls Tryd.prog 10 #[tyV t av] X (fun e w' => (∃ B d, e = .returned (.slice B (freeP t).length d)) ∧ Keeps (fun _ => False) W w') := fun X hk => by
  refine (free_any t X _ _ (tyc_all hT hk) hn).mono ?_
  rintro e w' ⟨u, he, hb, hS⟩
  obtain ⟨B, d, rfl, _⟩ := hS.form
  exact ⟨⟨B, d, he⟩, hk.trans (Keeps.of_below (X := fun _ => False) hb) (fun _ _ h => h)⟩
theorem same_run {t u : Ty} {av bv : Value} (hT : TyC W (All W) t av) (hU : TyC W (All W) u bv) (wt : t.Wf) (wu : u.Wf) (nt : nodes t ≤ 33554432) (nu : nodes u ≤ 33554432) (he : normP t = normP u) :
    ∀ X, Keeps (fun _ => False) W X → Calls Tryd.prog 12 #[tyV t av, tyV u bv] X (fun e w' => e = .returned (.bool true) ∧ Keeps (fun _ => False) W w') := fun X hk => by
  refine (same_any t u X (All X) _ _ (tyc_all hT hk) (tyc_all hU hk) (fun _ hb => hb) wt.nok wu.nok nt nu).mono ?_
  rintro e w' ⟨h1, hb⟩
  exact ⟨by rw [h1, he, eqT_refl], hk.trans (Keeps.of_below (X := fun _ => False) hb) (fun _ _ h => h)⟩
end
/-! ### The laws' first calls -/
theorem gd_id : Gd (idS 12) := (subC_fine (subC_id 12 399 (by omega))).gd
/-- A variable and a type constructor: the variable is replaced. -/
theorem first_var {v : Nat} (hv : v < 12) : ∃ τ, unifyS 400 400 (idS 12) (varT (v : Int)) numT = some (0, τ) ∧ τ.length = 12 ∧ τ[v]? = some numT := by
  refine ⟨(idS 12).set v numT, ?_, by rw [List.length_set, idS_len], by rw [List.getElem?_set_self (by rw [idS_len]; exact hv)]⟩
  rw [unifyS, subC_id 12 399 (by omega)]
  dsimp only
  rw [if_neg (by simp), idS_len, tyErr_var (by omega) (by omega), if_neg (by simp), tyErr_num, if_neg (by simp), unifyP]
  have hs := smp_id 12
  rcases hs.walk 398 hv with e | e
  · rw [e]
    dsimp only
    rw [walk_not _ 399 numT_kind]
    dsimp only
    rw [if_pos (show (varT (v : Int)).kind = 0 from rfl), show (varT (v : Int)).var = (v : Int) from rfl, hs.bind 398 hv]
  · exfalso
    obtain ⟨h1, _, _⟩ := walk_ap gd_id 400 _ _ (varT_in ⟨by omega, by rw [idS_len]; omega⟩) e
    have h2 := gd_id.appV_self (v := v) (id_self hv)
    rw [ap_var (t := varT (v : Int)) rfl, show (varT (v : Int)).var = (v : Int) from rfl, h2, ap_not numT_kind] at h1
    have h3 : (1 : Int) = 0 := congrArg Ty.kind h1
    exact absurd h3 (by decide)
theorem first_num {v : Nat} (hv : v < 12) : ∃ τ, unifyS 400 400 (idS 12) numT (varT (v : Int)) = some (0, τ) ∧ τ.length = 12 ∧ τ[v]? = some numT := by
  refine ⟨(idS 12).set v numT, ?_, by rw [List.length_set, idS_len], by rw [List.getElem?_set_self (by rw [idS_len]; exact hv)]⟩
  rw [unifyS, subC_id 12 399 (by omega)]
  dsimp only
  rw [if_neg (by simp), idS_len, tyErr_num, if_neg (by simp), tyErr_var (by omega) (by omega), if_neg (by simp), unifyP]
  have hs := smp_id 12
  rw [walk_not _ 399 numT_kind]
  dsimp only
  rcases hs.walk 398 hv with e | e
  · rw [e]
    dsimp only
    rw [if_neg numT_kind, if_pos (show (varT (v : Int)).kind = 0 from rfl), show (varT (v : Int)).var = (v : Int) from rfl, hs.bind 398 hv]
  · exfalso
    obtain ⟨h1, _, _⟩ := walk_ap gd_id 400 _ _ (varT_in ⟨by omega, by rw [idS_len]; omega⟩) e
    have h2 := gd_id.appV_self (v := v) (id_self hv)
    rw [ap_var (t := varT (v : Int)) rfl, show (varT (v : Int)).var = (v : Int) from rfl, h2, ap_not numT_kind] at h1
    have h3 : (1 : Int) = 0 := congrArg Ty.kind h1
    exact absurd h3 (by decide)
end Go.Proofs.YthchnabhbpdfgaaDoor
end

section
namespace Go.Proofs.YthchnabhbpdfgaaDoor
open Go.RowKit Go.Shelf Go.Sort Stab

def Z4 : List Value := [.int .i64 0, .string ⟨#[]⟩, .int .i64 0, .slice none 0 0]
theorem drew_size (w : World) : w.drew.heap.size = w.heap.size := rfl
theorem name_world {K : Act → World → Prop} {a : Act} {w : World} (h : ∀ w', w' = w → K a w') : K a w := h w rfl
/-- The blocks of what Apply returned: those of the world w5, and its own. -/
def Fa (w5 X w' : World) (b : Nat) : Prop := b < w5.heap.size ∨ (X.heap.size ≤ b ∧ b < w'.heap.size)
def ARun5 (w5 X : World) (r : Ty) (e : Ending) (w' : World) : Prop := ∃ A c, e = .returned (.agg #[.int .i64 r.kind, .string r.name, .int .i64 r.var, .slice A r.args.length c]) ∧ TyC w' (Fa w5 X w') r (.slice A r.args.length c) ∧ Keeps (fun _ => False) X w'
theorem apply_run5 {w5 : World} {σ : List Ty} {sv av : Value} {t : Ty} (hg : Gd σ) (hs : Szd σ) (hS : Sl w5 (All w5) tyD σ sv) (hT : TyC w5 (All w5) t av) (hw : t.Wf) (hv : VIn σ t) (hn : nodes t ≤ 33554432) :
    ∀ X, Keeps (fun _ => False) w5 X → Calls Tryd.prog 9 #[sv, tyV t av] X (ARun5 w5 X (ap σ t)) := fun X hk => by
  obtain ⟨K, hK⟩ := hg.ends hw hv
  refine (apply_any σ (fun x hx => ⟨hg.wf x hx, by have := hs.ent hg x hx; omega⟩) K K X (All w5) sv av t (ap σ t) (hS.keeps hk (fun _ _ h => h)) (hT.keeps hk (fun _ _ h => h)) (fun _ hb => Nat.lt_of_lt_of_le hb hk.size) hw hn (hK K (Nat.le_refl _) K (Nat.le_refl _))).mono ?_
  rintro e w' ⟨A, c, he, hT2, hk2⟩
  exact ⟨A, c, he, hT2.mono (fun b hb => hb.1.imp id (fun h => ⟨h, hb.2⟩)), hk2⟩
/-- What is at hand: the boxes that are laid, the types that were returned. -/
structure R9 (w5 w : World) (n6 n7 : Option Nat) (x y : Option (Ty × Value)) : Prop where
  kp : Keeps (fun _ => False) w5 w
  b6 : ∀ n, n6 = some n → Blk w n 24 Z4 ∧ w5.heap.size ≤ n
  b7 : ∀ n, n7 = some n → Blk w n 24 Z4 ∧ w5.heap.size ≤ n
  ne : ∀ n k, n6 = some n → n7 = some k → n ≠ k
  x : ∀ p, x = some p → TyC w (fun b => b < w.heap.size ∧ n6 ≠ some b ∧ n7 ≠ some b) p.1 p.2
  y : ∀ p, y = some p → TyC w (fun b => b < w.heap.size ∧ n6 ≠ some b ∧ n7 ≠ some b) p.1 p.2
section
variable {w5 w w' : World} {n6 n7 : Option Nat} {x y : Option (Ty × Value)}
theorem R9.start (w5 : World) : R9 w5 w5 none none none none := ⟨Keeps.refl _ _, fun _ h => (by cases h), fun _ h => (by cases h), fun _ _ h => (by cases h), fun _ h => (by cases h), fun _ h => (by cases h)⟩
theorem R9.later (h : R9 w5 w n6 n7 x y) (hk : Keeps (fun _ => False) w w') : R9 w5 w' n6 n7 x y :=
  ⟨h.kp.trans hk (fun _ _ h => h), fun n hn => ⟨(h.b6 n hn).1.keeps hk (fun h => h), (h.b6 n hn).2⟩, fun n hn => ⟨(h.b7 n hn).1.keeps hk (fun h => h), (h.b7 n hn).2⟩, h.ne,
    fun p hp => ((h.x p hp).keeps hk (fun _ _ h => h)).mono (fun _ hb => ⟨Nat.lt_of_lt_of_le hb.1 hk.size, hb.2⟩), fun p hp => ((h.y p hp).keeps hk (fun _ _ h => h)).mono (fun _ hb => ⟨Nat.lt_of_lt_of_le hb.1 hk.size, hb.2⟩)⟩
theorem R9.drew (h : R9 w5 w n6 n7 x y) : R9 w5 w.drew n6 n7 x y := h.later (Keeps.refl _ _).drew
theorem R9.ret (h : R9 w5 w n6 n7 x y) {t : Ty} {v : Value} (hT : TyC w' (Fa w5 w w') t v) : TyC w' (fun b => b < w'.heap.size ∧ n6 ≠ some b ∧ n7 ≠ some b) t v ∨ ¬ Keeps (fun _ => False) w w' := by
  by_cases hk : Keeps (fun _ => False) w w'
  · refine .inl (hT.mono fun b hb => ?_)
    have hs := hk.size
    have hs5 := h.kp.size
    have q6 : ∀ n, n6 = some n → w5.heap.size ≤ n ∧ n < w.heap.size := fun n hn => ⟨(h.b6 n hn).2, (h.b6 n hn).1.lt⟩
    have q7 : ∀ n, n7 = some n → w5.heap.size ≤ n ∧ n < w.heap.size := fun n hn => ⟨(h.b7 n hn).2, (h.b7 n hn).1.lt⟩
    refine ⟨?_, fun e => ?_, fun e => ?_⟩
    · rcases hb with hb | hb <;> omega
    · have := q6 b e; rcases hb with hb | hb <;> omega
    · have := q7 b e; rcases hb with hb | hb <;> omega
  · exact .inr hk
theorem R9.callx (h : R9 w5 w n6 n7 x y) {t : Ty} {v : Value} (hT : TyC w' (Fa w5 w w') t v) (hk : Keeps (fun _ => False) w w') : R9 w5 w' n6 n7 (some (t, v)) y := by
  have h2 := h.later hk
  exact ⟨h2.kp, h2.b6, h2.b7, h2.ne, fun p hp => by
    obtain rfl := Option.some.inj hp
    exact (h.ret hT).resolve_right (fun hn => hn hk), h2.y⟩
theorem R9.cally (h : R9 w5 w n6 n7 x y) {t : Ty} {v : Value} (hT : TyC w' (Fa w5 w w') t v) (hk : Keeps (fun _ => False) w w') : R9 w5 w' n6 n7 x (some (t, v)) := by
  have h2 := h.later hk
  exact ⟨h2.kp, h2.b6, h2.b7, h2.ne, h2.x, fun p hp => by
    obtain rfl := Option.some.inj hp
    exact (h.ret hT).resolve_right (fun hn => hn hk)⟩
theorem R9.box6 (h : R9 w5 w none n7 x y) (e : w' = w.alloc (.cells Z4.toArray 24)) : R9 w5 w' (some w.heap.size) n7 x y := by
  subst e
  have h2 := h.later ((Keeps.refl (fun _ => False) w).alloc (.cells Z4.toArray 24))
  have up : ∀ p : Ty × Value, TyC w (fun b => b < w.heap.size ∧ (none : Option Nat) ≠ some b ∧ n7 ≠ some b) p.1 p.2 → TyC (w.alloc (.cells Z4.toArray 24)) (fun b => b < (w.alloc (.cells Z4.toArray 24)).heap.size ∧ some w.heap.size ≠ some b ∧ n7 ≠ some b) p.1 p.2 := fun p hp => (hp.keeps ((Keeps.refl (fun _ => False) w).alloc _) (fun _ _ h => h)).mono fun b hb => ⟨by have := hb.1; simp; omega, fun e => by have := Option.some.inj e; have := hb.1; omega, hb.2.2⟩
  exact ⟨h2.kp, fun n hn => by
    obtain rfl := Option.some.inj hn
    exact ⟨Blk.new w _ Z4, h.kp.size⟩, h2.b7, fun n k hn hk => by
    have := Option.some.inj hn
    have := (h.b7 k hk).1.lt
    omega, fun p hp => up p (h.x p hp), fun p hp => up p (h.y p hp)⟩
theorem R9.box7 (h : R9 w5 w n6 none x y) (e : w' = w.alloc (.cells Z4.toArray 24)) : R9 w5 w' n6 (some w.heap.size) x y := by
  subst e
  have h2 := h.later ((Keeps.refl (fun _ => False) w).alloc (.cells Z4.toArray 24))
  have up : ∀ p : Ty × Value, TyC w (fun b => b < w.heap.size ∧ n6 ≠ some b ∧ (none : Option Nat) ≠ some b) p.1 p.2 → TyC (w.alloc (.cells Z4.toArray 24)) (fun b => b < (w.alloc (.cells Z4.toArray 24)).heap.size ∧ n6 ≠ some b ∧ some w.heap.size ≠ some b) p.1 p.2 := fun p hp => (hp.keeps ((Keeps.refl (fun _ => False) w).alloc _) (fun _ _ h => h)).mono fun b hb => ⟨by have := hb.1; simp; omega, hb.2.1, fun e => by have := Option.some.inj e; have := hb.1; omega⟩
  exact ⟨h2.kp, h2.b6, fun n hn => by
    obtain rfl := Option.some.inj hn
    exact ⟨Blk.new w _ Z4, h.kp.size⟩, fun n k hn hk => by
    have := Option.some.inj hk
    have := (h.b6 n hn).1.lt
    omega, fun p hp => up p (h.x p hp), fun p hp => up p (h.y p hp)⟩
theorem R9.box6d (h : R9 w5 w none n7 x y) (e : w' = (w.alloc (.cells Z4.toArray 24)).drew) : R9 w5 w' (some w.heap.size) n7 x y := by
  subst e
  exact (h.box6 rfl).drew
theorem R9.box7d (h : R9 w5 w n6 none x y) (e : w' = (w.alloc (.cells Z4.toArray 24)).drew) : R9 w5 w' n6 (some w.heap.size) x y := by
  subst e
  exact (h.box7 rfl).drew
/-- Both types stored. -/
theorem R9.fin {a6 a7 : Nat} {tx ty : Ty} {vx vy : Value} (h : R9 w5 w (some a6) (some a7) (some (tx, vx)) (some (ty, vy))) {x0 x1 x2 x3 y0 y1 y2 y3 : Value}
    (e : w' = ((((((((w.setCell ⟨a6, 0, none⟩ x0).setCell ⟨a6, 1, none⟩ x1).setCell ⟨a6, 2, none⟩ x2).setCell ⟨a6, 3, none⟩ x3).setCell ⟨a7, 0, none⟩ y0).setCell ⟨a7, 1, none⟩ y1).setCell ⟨a7, 2, none⟩ y2).setCell ⟨a7, 3, none⟩ y3)) :
    Blk w' a6 24 [x0, x1, x2, x3] ∧ Blk w' a7 24 [y0, y1, y2, y3] ∧ TyC w' (All w') tx vx ∧ TyC w' (All w') ty vy ∧ Keeps (fun _ => False) w5 w' := by
  subst e
  obtain ⟨h6, g6⟩ := h.b6 a6 rfl
  obtain ⟨h7, g7⟩ := h.b7 a7 rfl
  have hne := h.ne a6 a7 rfl rfl
  obtain ⟨k6, q6⟩ := four h6 x0 x1 x2 x3
  obtain ⟨k7, q7⟩ := four (h7.keeps q6 (fun e => hne e.symm)) y0 y1 y2 y3
  have hall := (q6.mono (Y := fun i => i = a6 ∨ i = a7) (fun i _ h => .inl h)).trans (q7.mono (Y := fun i => i = a6 ∨ i = a7) (fun i _ h => .inr h)) (fun _ _ h => h)
  have hsz := hall.size
  refine ⟨k6.keeps q7 hne, k7, ((h.x _ rfl).keeps hall (fun b hb hc => ?_)).mono (fun b hb => Nat.lt_of_lt_of_le hb.1 hsz), ((h.y _ rfl).keeps hall (fun b hb hc => ?_)).mono (fun b hb => Nat.lt_of_lt_of_le hb.1 hsz), h.kp.trans hall (fun i hi hc => by rcases hc with hc | hc <;> omega)⟩
  · rcases hc with hc | hc
    · exact hb.2.1 (by rw [hc])
    · exact hb.2.2 (by rw [hc])
  · rcases hc with hc | hc
    · exact hb.2.1 (by rw [hc])
    · exact hb.2.2 (by rw [hc])
end
end Go.Proofs.YthchnabhbpdfgaaDoor
end
