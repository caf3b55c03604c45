/- What the evaluator's values and memory say of the model's. No conditions. -/
import Derived.Test.YtdoddlkppkegnaaGreatDoorEvT
import Derived.Test.YtdoddlkppkegnaaGreatDoorBase
namespace Go.Proofs.YtdoddlkppkegnaaGreatDoor.Ev
set_option linter.unusedVariables false
set_option linter.unusedSimpArgs false
open Go Go.RowKit

/-- Where a block lies: its number, its first cell, how many cells. -/
abbrev Env := Nat → Option (Nat × Nat × Nat)
def Env.le (e e' : Env) : Prop := ∀ p x, e p = some x → e' p = some x
theorem Env.le_refl (e : Env) : e.le e := fun _ _ h => h
theorem Env.le_trans {a b c : Env} (h : a.le b) (h' : b.le c) : a.le c := fun p x hx => h' p x (h p x hx)

mutual
inductive RV (sy : Nat → Value) (e : Env) : AV → Value → Prop
  | int (k : IntKind) (n : Int) : RV sy e (.int k n) (.int k n)
  | bool (b : Bool) : RV sy e (.bool b) (.bool b)
  | str {s : List Nat} {b : ByteArray} (h : b.data.toList.map UInt8.toNat = s) : RV sy e (.str s) (.string b)
  | ref {p : Nat} {o r base sz : Nat} (h : e p = some (r, base, sz)) : RV sy e (.ref p o) (.pointer (some ⟨r, base + o, none⟩))
  | slc {p : Nat} {o es n r base sz cap : Nat} {c : Option Nat} (h : e p = some (r, base, sz)) (hn : n ≤ cap) (hs : o + cap * es ≤ sz) (hc : ∀ k, c = some k → cap = k) :
      RV sy e (.slc p o es n c) (.slice (some ⟨r, base + o, none⟩) n cap)
  | nilp : RV sy e (.nil .p) (.pointer none)
  | nils : RV sy e (.nil .s) (.slice none 0 0)
  | nilf : RV sy e (.nil .f) .nilFunc
  | nili : RV sy e (.nil .i) .nilIface
  | fn {f : FuncId} {x c : AV} {xs cs : List Value} (hx : RL sy e x xs) (hc : RL sy e c cs) : RV sy e (.fn f x c) (.func (.func f) xs.toArray cs.toArray)
  | ifc {t : Nat} {v : AV} {w : Value} (h : RV sy e v w) : RV sy e (.ifc t v) (.iface t w)
  | agg {l : AV} {vs : List Value} (h : RL sy e l vs) : RV sy e (.agg l) (.agg vs.toArray)
  | tup {l : AV} {vs : List Value} (h : RL sy e l vs) : RV sy e (.tup l) (.tuple vs.toArray)
  | sym (i : Nat) (hi : i < 2000) (h : (sy i).oneCell' = true) : RV sy e (.sym i) (sy i)
  | symc {j : Nat} {n : Int} (hj : 2000 ≤ j) (hb : -9223372036854775808 ≤ n ∧ n ≤ 9223372036854775807) (h : n.tmod (symM j : Nat) = symR j) : RV sy e (.sym j) (.int .i64 n)
  | junk (v : Value) : RV sy e .eol v
inductive RL (sy : Nat → Value) (e : Env) : AV → List Value → Prop
  | eol : RL sy e .eol []
  | cons {x l : AV} {v : Value} {vs : List Value} (h : RV sy e x v) (hl : RL sy e l vs) : RL sy e (.cons x l) (v :: vs)
end
section
variable {sy : Nat → Value} {e e' : Env}
mutual
theorem RV.mono (he : e.le e') : ∀ {v : AV} {w : Value}, RV sy e v w → RV sy e' v w
  | _, _, .int k n => .int k n
  | _, _, .bool b => .bool b
  | _, _, .str h => .str h
  | _, _, .ref h => .ref (he _ _ h)
  | _, _, .slc h hn hs hc => .slc (he _ _ h) hn hs hc
  | _, _, .nilp => .nilp
  | _, _, .nils => .nils
  | _, _, .nilf => .nilf
  | _, _, .nili => .nili
  | _, _, .fn hx hc => .fn (RL.mono he hx) (RL.mono he hc)
  | _, _, .ifc h => .ifc (RV.mono he h)
  | _, _, .agg h => .agg (RL.mono he h)
  | _, _, .tup h => .tup (RL.mono he h)
  | _, _, .sym i hi h => .sym i hi h
  | _, _, .symc hj hb h => .symc hj hb h
  | _, _, .junk v => .junk v
theorem RL.mono (he : e.le e') : ∀ {v : AV} {w : List Value}, RL sy e v w → RL sy e' v w
  | _, _, .eol => .eol
  | _, _, .cons h hl => .cons (RV.mono he h) (RL.mono he hl)
end
theorem RV.und : RV sy e und undef := .tup .eol
theorem RV.one {v : AV} {w : Value} (h : RV sy e v w) (hc : v.cell = true) : w.oneCell' = true := by cases h <;> first | rfl | assumption | cases hc
theorem RL.cntA {l : AV} {vs : List Value} (h : RL sy e l vs) : cntA l = vs.length := by
  induction vs generalizing l with
  | nil => cases h; rfl
  | cons v vs ih => cases h with | cons h hl => exact congrArg Nat.succ (ih hl)

/-! ### Memory -/
noncomputable def M.at (m : M) (p : Nat) : Option AB := T.get none m p
noncomputable def AB.cell (B : AB) (i : Nat) : AV := T.get und B.c i
/-- What is kept: the blocks below a number; names that are spoken for, and what they hold. -/
structure Par where
  n : Nat
  res : Nat → Option AB
/-- What is known of a block that is in use. -/
structure Holds (sy : Nat → Value) (N0 : Par) (e : Env) (W : World) (B : AB) (r base sz : Nat) : Prop where
  n : B.n ≤ sz
  top : B.n ≤ Ev.top
  there : ∀ i, i < sz → ∃ v, W.cell? ⟨r, base + i, none⟩ = some v
  cells : ∀ i, i < B.n → ∃ v, W.cell? ⟨r, base + i, none⟩ = some v ∧ RV sy e (B.cell i) v ∧ (B.cell i).cell = true
  own : B.ro = false → N0.n ≤ r
  free : B.ro = false → ∀ i, B.fz ≤ i → i < sz → W.frozen? ⟨r, base + i, none⟩ = false
structure RM (sy : Nat → Value) (N0 : Par) (e : Env) (m : M) (nx : Nat) (W : World) : Prop where
  blk : ∀ p B r base sz, m.at p = some B → e p = some (r, base, sz) → Holds sy N0 e W B r base sz
  inj : ∀ p p' B B' x x', m.at p = some B → m.at p' = some B' → e p = some x → e p' = some x' → x.1 = x'.1 → p = p'
  nm : ∀ p x, e p = some x → ∃ k, k < nx ∧ p = k
  lt : ∀ p x, e p = some x → x.1 < W.heap.size
  nb : nx ≤ top + 1
  res : ∀ p B, N0.res p = some B → e p = none ∧ m.at p = some B ∧ ∃ k, k < nx ∧ p = k
variable {N0 : Par} {m : M} {nx : Nat} {W W' : World}
theorem Holds.mono {B : AB} {r base sz : Nat} (h : Holds sy N0 e W B r base sz) (he : e.le e') : Holds sy N0 e' W B r base sz :=
  ⟨h.n, h.top, h.there, fun i hi => let ⟨v, h1, h2, h3⟩ := h.cells i hi; ⟨v, h1, h2.mono he, h3⟩, h.own, h.free⟩
theorem Holds.world {B : AB} {r base sz : Nat} (h : Holds sy N0 e W B r base sz) (hc : ∀ o, W'.cell? ⟨r, o, none⟩ = W.cell? ⟨r, o, none⟩) (hf : ∀ o, W'.frozen? ⟨r, o, none⟩ = W.frozen? ⟨r, o, none⟩) : Holds sy N0 e W' B r base sz :=
  ⟨h.n, h.top, fun i hi => let ⟨v, h1⟩ := h.there i hi; ⟨v, (hc _).trans h1⟩, fun i hi => let ⟨v, h1, h2, h3⟩ := h.cells i hi; ⟨v, (hc _).trans h1, h2, h3⟩, h.own, fun hr i h1 h2 => (hf _).trans (h.free hr i h1 h2)⟩
/-- Behind what turns no memory. -/
theorem RM.world (h : RM sy N0 e m nx W) (hc : ∀ a, W'.cell? a = W.cell? a) (hf : ∀ a, W'.frozen? a = W.frozen? a) (hs : W'.heap.size = W.heap.size) : RM sy N0 e m nx W' :=
  ⟨fun p B r base sz h1 h2 => (h.blk p B r base sz h1 h2).world (fun _ => hc _) (fun _ => hf _), h.inj, h.nm, fun p x hp => by rw [hs]; exact h.lt p x hp, h.nb, h.res⟩
theorem RM.drew (h : RM sy N0 e m nx W) : RM sy N0 e m nx W.drew := h.world (fun _ => rfl) (fun _ => rfl) rfl
theorem M.at_set {m : M} {p q : Nat} {B : Option AB} (h : p ≠ q) : M.at (T.set none B p m) q = m.at q := T.get_set_ne none B p q m h
theorem M.at_same {m : M} {p : Nat} {B : Option AB} : M.at (T.set none B p m) p = B := T.get_set none B p m
/-- A block is given up. -/
theorem RM.kill (h : RM sy N0 e m nx W) (p : Nat) (hp : e p ≠ none) : RM sy N0 e (T.set none none p m) nx W := by
  have hk : ∀ q B, M.at (T.set none none p m) q = some B → m.at q = some B := fun q B hq => by
    by_cases e : p = q
    · subst e; rw [M.at_same] at hq; cases hq
    · rwa [M.at_set e] at hq
  exact ⟨fun q B r base sz h1 h2 => h.blk q B r base sz (hk q B h1) h2, fun q q' B B' x x' h1 h2 => h.inj q q' B B' x x' (hk q B h1) (hk q' B' h2), h.nm, h.lt, h.nb, fun q B hq => by
    obtain ⟨h1, h2, h3⟩ := h.res q B hq
    have hne : p ≠ q := fun e => hp (e ▸ h1)
    exact ⟨h1, by rw [M.at_set hne]; exact h2, h3⟩⟩
/-- The name that comes next. -/
def Env.new (e : Env) (p : Nat) (x : Nat × Nat × Nat) : Env := fun q => if q = p then some x else e q
theorem Env.new_same {p : Nat} {x : Nat × Nat × Nat} : e.new p x p = some x := if_pos rfl
theorem Env.new_other {p q : Nat} {x : Nat × Nat × Nat} (h : q ≠ p) : e.new p x q = e q := if_neg h
theorem RM.fresh (h : RM sy N0 e m nx W) (hn : nx ≤ top) : e nx = none := by
  cases hx : e nx with
  | none => rfl
  | some x =>
    obtain ⟨k, hk, he⟩ := h.nm _ _ hx
    have := bitsOf_inj (i := nx) (j := k) (by unfold top at hn; omega) (by unfold top at hn; omega) he
    omega
theorem Env.le_new {p : Nat} {x : Nat × Nat × Nat} (h : e p = none) : e.le (e.new p x) := fun q y hq => by
  by_cases hqp : q = p
  · subst hqp; rw [h] at hq; cases hq
  · rw [Env.new_other hqp]; exact hq
/-- A block gets its name: 'r' is the number of no block that is in use. -/
theorem RM.name (h : RM sy N0 e m nx W) (hn : nx ≤ top) {B : AB} {r base sz : Nat} (hB : Holds sy N0 e W B r base sz) (hr : r < W.heap.size)
    (hfree : ∀ p B x, m.at p = some B → e p = some x → x.1 ≠ r) : RM sy N0 (e.new nx (r, base, sz)) (T.set none (some B) nx m) (nx + 1) W := by
  have h0 := h.fresh hn
  have hle : e.le (e.new nx (r, base, sz)) := Env.le_new h0
  refine ⟨fun p C r' base' sz' h1 h2 => ?_, fun p p' C C' x x' h1 h2 h3 h4 h5 => ?_, fun p x hp => ?_, fun p x hp => ?_, by omega, fun p B hB => ?_⟩
  · by_cases hp : p = nx
    · subst hp
      rw [M.at_same] at h1
      rw [Env.new_same] at h2
      obtain rfl := Option.some.inj h1
      cases h2
      exact hB.mono hle
    · rw [M.at_set (Ne.symm hp)] at h1
      rw [Env.new_other hp] at h2
      exact (h.blk p C r' base' sz' h1 h2).mono hle
  · by_cases hp : p = nx <;> by_cases hp' : p' = nx
    · rw [hp, hp']
    · subst hp
      rw [Env.new_same] at h3
      obtain rfl := Option.some.inj h3
      rw [M.at_set (Ne.symm hp')] at h2
      rw [Env.new_other hp'] at h4
      exact absurd h5.symm (hfree _ _ _ h2 h4)
    · subst hp'
      rw [Env.new_same] at h4
      obtain rfl := Option.some.inj h4
      rw [M.at_set (Ne.symm hp)] at h1
      rw [Env.new_other hp] at h3
      exact absurd h5 (hfree _ _ _ h1 h3)
    · rw [M.at_set (Ne.symm hp)] at h1
      rw [M.at_set (Ne.symm hp')] at h2
      rw [Env.new_other hp] at h3
      rw [Env.new_other hp'] at h4
      exact h.inj p p' C C' x x' h1 h2 h3 h4 h5
  · by_cases hq : p = nx
    · exact ⟨nx, by omega, hq⟩
    · rw [Env.new_other hq] at hp
      obtain ⟨k, h1, h2⟩ := h.nm p x hp
      exact ⟨k, by omega, h2⟩
  · by_cases hq : p = nx
    · subst hq
      rw [Env.new_same] at hp
      obtain rfl := Option.some.inj hp
      exact hr
    · rw [Env.new_other hq] at hp
      exact h.lt p x hp
  · obtain ⟨h1, h2, k, h3, h4⟩ := h.res p B hB
    have hne : p ≠ nx := fun e => by
      have := bitsOf_inj (i := k) (j := nx) (by unfold top at hn; omega) (by unfold top at hn; omega) (h4.symm.trans e)
      omega
    exact ⟨by rw [Env.new_other hne]; exact h1, by rw [M.at_set (Ne.symm hne)]; exact h2, k, by omega, h4⟩
theorem size_alloc (W : World) (o : Obj) : W.heap.size < (W.alloc o).heap.size := by
  show W.heap.size < (W.heap.push o).size
  rw [Array.size_push]; exact Nat.lt_succ_self _
theorem heap_alloc (W : World) (o : Obj) : (W.alloc o).heap[W.heap.size]? = some o := by
  show (W.heap.push o)[W.heap.size]? = some o
  rw [Array.getElem?_push_size]
/-- The world has a block more. -/
theorem RM.alloc (h : RM sy N0 e m nx W) (o : Obj) : RM sy N0 e m nx (W.alloc o) :=
  ⟨fun p B r base sz h1 h2 => by
    have hlt : r < W.heap.size := h.lt p _ h2
    refine (h.blk p B r base sz h1 h2).world (fun o' => ?_) (fun o' => ?_)
    · exact World.cell?_of_block (Below.heap_alloc W o r hlt)
    · simp only [World.frozen?, Below.heap_alloc W o r hlt], h.inj, h.nm, fun p x hp => Nat.lt_of_lt_of_le (h.lt p x hp) (Nat.le_of_lt (size_alloc W o)), h.nb, h.res⟩
/-- A new block in the world, and its name. -/
theorem RM.make (h : RM sy N0 e m nx W) (hn : nx ≤ top) (hN : N0.n ≤ W.heap.size) {c : T AV} {n fz : Nat} {cs : Array Value} {el : TypeId} (hle : n ≤ cs.size) (ht : n ≤ top)
    (hc : ∀ i, i < n → ∃ v, cs[i]? = some v ∧ RV sy e (T.get und c i) v ∧ (T.get und c i).cell = true) :
    RM sy N0 (e.new nx (W.heap.size, 0, cs.size)) (T.set none (some ⟨c, n, fz, false⟩) nx m) (nx + 1) (W.alloc (.cells cs el)) := by
  have hat : ∀ i, (W.alloc (.cells cs el)).cell? ⟨W.heap.size, 0 + i, none⟩ = cs[i]? := fun i => by
    simp only [World.cell?, heap_alloc, Nat.zero_add, Option.isSome_none, Bool.false_eq_true, if_false]
  refine (h.alloc _).name hn (B := ⟨c, n, fz, false⟩) ⟨hle, ht, fun i hi => ⟨cs[i], ?_⟩, fun i hi => ?_, fun _ => hN, fun _ i _ hi => ?_⟩ (size_alloc W _) (fun p B x _ h2 => Nat.ne_of_lt (h.lt p x h2))
  · rw [hat, Array.getElem?_eq_getElem hi]
  · obtain ⟨v, h1, h2, h3⟩ := hc i hi
    exact ⟨v, (hat i).trans h1, h2, h3⟩
  · simp only [World.frozen?, heap_alloc]
    simp
/-- A cell is stored. -/
theorem RM.put (h : RM sy N0 e m nx W) {p : Nat} {B : AB} {r base sz o : Nat} (hp : m.at p = some B) (he : e p = some (r, base, sz)) (ho : o ≤ B.n) (hsz : o < sz) (htop : o + 1 ≤ top)
    {x : AV} {v : Value} (hx : RV sy e x v) (hcell : x.cell = true) :
    RM sy N0 e (T.set none (some ⟨T.set und x o B.c, max B.n (o + 1), B.fz, B.ro⟩) p m) nx (W.setCell ⟨r, base + o, none⟩ v) := by
  have hH := h.blk p B r base sz hp he
  have hk : ∀ q C, M.at (T.set none (some ⟨T.set und x o B.c, max B.n (o + 1), B.fz, B.ro⟩) p m) q = some C → ∃ C', m.at q = some C' := fun q C hq => by
    by_cases e : p = q
    · subst e; exact ⟨B, hp⟩
    · rw [M.at_set e] at hq; exact ⟨C, hq⟩
  refine ⟨fun q C r' base' sz' h1 h2 => ?_, fun q q' C C' y y' h1 h2 => ?_, h.nm, fun q y hq => by rw [World.size_setCell]; exact h.lt q y hq, h.nb, fun q C hq => ?_⟩
  · by_cases hq : p = q
    · subst hq
      rw [M.at_same] at h1
      obtain rfl := Option.some.inj h1
      rw [he] at h2
      cases h2
      refine ⟨by show max B.n (o + 1) ≤ sz; have := hH.n; omega, by show max B.n (o + 1) ≤ top; have := hH.top; omega, fun i hi => ?_, fun i hi => ?_, hH.own, fun hr i h1 h2 => ?_⟩
      · obtain ⟨u, hu⟩ := hH.there i hi
        by_cases hio : i = o
        · subst hio; exact ⟨v, World.cell?_setCell_same _ _ _ hu⟩
        · exact ⟨u, (World.cell?_setCell_other _ _ _ _ (fun eq => by injection eq with _ eq _; omega)).trans hu⟩
      · by_cases hio : i = o
        · subst hio
          obtain ⟨u, hu⟩ := hH.there i hsz
          refine ⟨v, World.cell?_setCell_same _ _ _ hu, ?_, ?_⟩
          · show RV sy e (T.get und (T.set und x i B.c) i) v
            rw [T.get_set]; exact hx
          · show (T.get und (T.set und x i B.c) i).cell = true
            rw [T.get_set]; exact hcell
        · have hin : i < B.n := by
            have : i < max B.n (o + 1) := hi
            omega
          obtain ⟨u, hu, h3, h4⟩ := hH.cells i hin
          have hne : o ≠ i := fun eb => hio (bitsOf_inj (by unfold top at htop; omega) (by have := hH.top; unfold top at this; omega) eb).symm
          refine ⟨u, (World.cell?_setCell_other _ _ _ _ (fun eq => by injection eq with _ eq _; omega)).trans hu, ?_, ?_⟩
          · show RV sy e (T.get und (T.set und x o B.c) i) u
            rw [T.get_set_ne _ _ _ _ _ hne]; exact h3
          · show (T.get und (T.set und x o B.c) i).cell = true
            rw [T.get_set_ne _ _ _ _ _ hne]; exact h4
      · rw [World.frozen?_setCell]; exact hH.free hr i h1 h2
    · rw [M.at_set hq] at h1
      have hrr : r' ≠ r := fun eq => hq (h.inj p q B C _ _ hp h1 he h2 eq.symm)
      refine (h.blk q C r' base' sz' h1 h2).world (fun o' => World.cell?_setCell_other _ _ _ _ (fun eq => by injection eq with eq _ _; exact hrr eq.symm)) (fun o' => World.frozen?_setCell _ _ _ _)
  · obtain ⟨D, hD⟩ := hk q C h1
    obtain ⟨D', hD'⟩ := hk q' C' h2
    exact h.inj q q' D D' y y' hD hD'
  · obtain ⟨h1, h2, h3⟩ := h.res q C hq
    have hne : p ≠ q := fun eq => by rw [← eq, he] at h1; cases h1
    exact ⟨h1, by rw [M.at_set hne]; exact h2, h3⟩
end
end Go.Proofs.YtdoddlkppkegnaaGreatDoor.Ev
