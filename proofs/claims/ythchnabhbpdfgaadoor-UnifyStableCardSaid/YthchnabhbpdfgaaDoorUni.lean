/- The unifier in memory: its substitution is a row of its own, at whose types nobody writes; bind, tail, extract, rows and unify in plain words. -/
import Derived.Test.YthchnabhbpdfgaaDoorUSub
import Derived.Test.YthchnabhbpdfgaaDoorMOcc
namespace Go.Proofs.YthchnabhbpdfgaaDoor
open Go.RowKit Go.Shelf

/-- A function with two structs, each in a block of its own, and a number as results. -/
theorem ret_rows2 {P : Program} {fn : Func} {R : Ending → World → Prop} {a : Act} {w : World} {p q r : Tmp} {ty : TypeId} {g h : Nat} {t1 t2 : TypeId} {cs ds : List Value} {fs : Array Field} {z : Value}
    (hr : fn.results = #[.cell p ty, .cell q ty, .tmp r]) (hp : a.tmps.getD p undef = .pointer (some ⟨g, 0, none⟩)) (hq : a.tmps.getD q undef = .pointer (some ⟨h, 0, none⟩)) (hz : a.tmps.getD r undef = z)
    (hb : Blk w g t1 cs) (hc : Blk w h t2 ds) (hu : P.underlying ty = some (.struct fs))
    (hi : (P.info? ty).map (·.size) = some cs.length) (hj : (P.info? ty).map (·.size) = some ds.length) (hd : a.defers = []) (hR : R (.returned (.tuple #[.agg cs.toArray, .agg ds.toArray, z])) w) : bodyPost P fn R .ret a w := by
  refine bodyPost_ret (v := .tuple #[.agg cs.toArray, .agg ds.toArray, z]) ?_ hd hR
  have hp' : a.tmps[p]?.getD undef = .pointer (some ⟨g, 0, none⟩) := by simpa using hp
  have hq' : a.tmps[q]?.getD undef = .pointer (some ⟨h, 0, none⟩) := by simpa using hq
  have hz' : a.tmps[r]?.getD undef = z := by simpa using hz
  simp [results, hr, hp', hq', hz', asAddr, run_loadVar_row w g t1 ty cs.toArray (0, 0) _ hb hu rfl (by simpa using hi), run_loadVar_row w h t2 ty ds.toArray (0, 0) _ hc hu rfl (by simpa using hj)]

theorem Blk.new_at {w : World} {n : Nat} (h : n = w.heap.size) (t : TypeId) (cs : List Value) : Blk (w.alloc (.cells cs.toArray t)) n t cs := by subst h; exact Blk.new w t cs
theorem lay {P Q : Prop} (h : P) (k : P → Q) : Q := k h
/-- Blocks at which nobody writes: all but the unifier and its own row. -/
def Im (W : World) (p g : Nat) (b : Nat) : Prop := b < W.heap.size ∧ b ≠ p ∧ b ≠ g
structure Uni (F : Nat → Prop) (W : World) (p : Nat) (sv : Value) (g : Nat) (σ : List Ty) : Prop where
  blk : Blk W p 56 [sv]
  row : ∃ (cap : Nat) (cur : List Value), sv = .slice (some ⟨g, 0, none⟩) σ.length cap ∧ Blk W g 24 cur ∧ σ.length ≤ cap ∧ cap ≤ maxLen ∧ cur.length = cap * 4 ∧ RpAll W F (σ.map tyD) (cur.take (σ.length * 4))
  ne : g ≠ p
  inn : SubIn σ
  im : ∀ b, F b → Im W p g b

theorem set4 {α : Type} (a b c d : α) : ∀ (i : Nat) (l : List α), i + 4 ≤ l.length → (((l.set i a).set (i + 1) b).set (i + 2) c).set (i + 3) d = l.take i ++ [a, b, c, d] ++ l.drop (i + 4)
  | 0, l, h => by
    match l, h with
    | x0 :: x1 :: x2 :: x3 :: r, _ => simp
  | i + 1, [], h => by simp at h
  | i + 1, x :: r, h => by
    have := set4 a b c d i r (by simp at h; omega)
    simp only [List.set_cons_succ, show i + 1 + 1 = (i + 1) + 1 from rfl, show i + 1 + 2 = (i + 2) + 1 from rfl, show i + 1 + 3 = (i + 3) + 1 from rfl, show i + 1 + 4 = (i + 4) + 1 from rfl, List.take_succ_cons, List.drop_succ_cons, List.cons_append]
    rw [this]
theorem RpAll.set_at {α : Type} {f : α → D} {k : Nat} {w : World} {F : Nat → Prop} (hk : Wide f k) (y : α) (cs : List Value) (hy : Rp w F (f y) cs) : ∀ (l : List α) (xs : List Value) (i : Nat), i < l.length → RpAll w F (l.map f) xs → RpAll w F ((l.set i y).map f) (xs.take (i * k) ++ cs ++ xs.drop (i * k + k))
  | [], _, i, hi, _ => absurd hi (by simp)
  | x :: l, xs, i, hi, h => by
    simp only [List.map_cons, RpAll] at h
    obtain ⟨a, b, rfl, h1, h2⟩ := h
    have ha := hk _ _ _ _ h1
    cases i with
    | zero =>
      simp only [List.set_cons_zero, List.map_cons, RpAll, Nat.zero_mul, List.take_zero, List.nil_append, Nat.zero_add]
      refine ⟨cs, b, ?_, hy, h2⟩
      rw [← ha, List.drop_left]
    | succ i =>
      have ih := RpAll.set_at hk y cs hy l b i (by simpa using hi) h2
      simp only [List.set_cons_succ, List.map_cons, RpAll]
      refine ⟨a, _, ?_, h1, ih⟩
      have e1 : (i + 1) * k = a.length + i * k := by rw [ha, Nat.succ_mul]; omega
      rw [e1, List.take_length_add_append, Nat.add_assoc, List.drop_length_add_append]
      simp

section
variable {F F' : Nat → Prop} {W W' : World} {p g : Nat} {sv : Value} {σ : List Ty}
theorem Uni.sle (h : Uni F W p sv g σ) : SlE W (· = g) F tyD σ sv := by
  obtain ⟨cap, cur, e, hb, h1, h2, h3, h4⟩ := h.row
  refine ⟨_, cap, e, h1, h2, (fun h => nomatch h), fun _ => ⟨g, 0, _, rfl, rfl, h4, fun j u hj => ?_⟩⟩
  rw [Nat.zero_add]
  have hj' := hj
  rw [List.getElem?_take] at hj'
  split at hj'
  · exact hb.cell hj'
  · cases hj'
theorem Uni.sl (h : Uni F W p sv g σ) : Sl W (· < W.heap.size) tyD σ sv := by
  obtain ⟨cap, cur, e, hb, h1, h2, h3, h4⟩ := h.row
  exact h.sle.sl (fun b hb' => by rw [hb']; exact hb.lt) (fun b hb => (h.im b hb).1)
theorem Uni.cells (h : Uni F W p sv g σ) {v : Nat} (hv : v < σ.length) : ∃ (x : Ty) (xv : Value), x = σ[v] ∧ TyC W F x xv ∧ W.cell? ⟨g, v * 4, none⟩ = some (.int .i64 x.kind) ∧ W.cell? ⟨g, v * 4 + 1, none⟩ = some (.string x.name) ∧ W.cell? ⟨g, v * 4 + 2, none⟩ = some (.int .i64 x.var) ∧ W.cell? ⟨g, v * 4 + 3, none⟩ = some xv := by
  obtain ⟨cap, cur, e, hb, h1, h2, h3, h4⟩ := h.row
  have hs := h.sle
  rw [e] at hs
  obtain ⟨g2, off, xv, hadr, hg, e0, e1, e2, e3, hTx⟩ := tyD.getE hs hv
  simp only [Option.some.injEq, Addr.mk.injEq] at hadr
  obtain ⟨rfl, rfl, _⟩ := hadr
  rw [Nat.zero_add] at e0 e1 e2 e3
  exact ⟨σ[v], xv, rfl, hTx, e0, e1, e2, e3⟩
theorem Uni.free (h : Uni F W p sv g σ) (i : Nat) : W.frozen? ⟨g, i, none⟩ = false := by
  obtain ⟨cap, cur, e, hb, h1, h2, h3, h4⟩ := h.row
  exact hb.free i
theorem Uni.glt (h : Uni F W p sv g σ) : g < W.heap.size := by
  obtain ⟨cap, cur, e, hb, _⟩ := h.row
  exact hb.lt
theorem Uni.form (h : Uni F W p sv g σ) : ∃ cap, sv = .slice (some ⟨g, 0, none⟩) σ.length cap ∧ σ.length ≤ cap ∧ cap ≤ maxLen := by
  obtain ⟨cap, cur, e, hb, h1, h2, h3, h4⟩ := h.row
  exact ⟨cap, e, h1, h2⟩
theorem Im.up {X : Nat → Prop} {g' : Nat} (hk : Keeps X W W') (hg : g' = g ∨ W.heap.size ≤ g') {b : Nat} (h : Im W p g b) : Im W' p g' b := by
  obtain ⟨h1, h2, h3⟩ := h
  refine ⟨Nat.lt_of_lt_of_le h1 hk.size, h2, ?_⟩
  rcases hg with rfl | hg
  · exact h3
  · omega
theorem Uni.keeps {X : Nat → Prop} (h : Uni F W p sv g σ) (hk : Keeps X W W') (hp : ¬ X p) (hg : ¬ X g) (hX : ∀ i, F i → ¬ X i) : Uni F W' p sv g σ := by
  obtain ⟨cap, cur, e, hbl, h1, h2, h3, h4⟩ := h.row
  exact ⟨h.blk.keeps hk hp, ⟨cap, cur, e, hbl.keeps hk hg, h1, h2, h3, h4.frame (fun _ h => h) (fun b off u hb hc => hk.cell hc (hX b hb))⟩, h.ne, h.inn, fun b hb => Im.up hk (.inl rfl) (h.im b hb)⟩
theorem Uni.later (h : Uni F W p sv g σ) (hb : Below W.heap.size W W') : Uni F W' p sv g σ := h.keeps (Keeps.of_below (X := fun _ => False) hb) (fun h => h) (fun h => h) (fun _ _ h => h)
theorem Uni.mono (h : Uni F W p sv g σ) (hF : ∀ b, F b → F' b) (hF' : ∀ b, F' b → Im W p g b) : Uni F' W p sv g σ := by
  obtain ⟨cap, cur, e, hbl, h1, h2, h3, h4⟩ := h.row
  exact ⟨h.blk, ⟨cap, cur, e, hbl, h1, h2, h3, h4.mono hF⟩, h.ne, h.inn, hF'⟩
theorem SubIn.set {σ : List Ty} (h : SubIn σ) (v : Nat) {t : Ty} (ht : VIn σ t) : SubIn (σ.set v t) := fun x hx u hu => by
  rw [List.length_set]
  rcases List.mem_or_eq_of_mem_set hx with hx | rfl
  · exact h x hx u hu
  · exact ht u hu
/-- What a store at a variable does. -/
theorem Uni.set {t : Ty} {av : Value} {v : Nat} (h : Uni F W p sv g σ) (ht : TyC W F t av) (hv : v < σ.length) (hin : VIn σ t) :
    Uni F ((((W.setCell ⟨g, v * 4, none⟩ (.int .i64 t.kind)).setCell ⟨g, v * 4 + 1, none⟩ (.string t.name)).setCell ⟨g, v * 4 + 2, none⟩ (.int .i64 t.var)).setCell ⟨g, v * 4 + 3, none⟩ av) p sv g (σ.set v t) ∧
      Keeps (· = g) W ((((W.setCell ⟨g, v * 4, none⟩ (.int .i64 t.kind)).setCell ⟨g, v * 4 + 1, none⟩ (.string t.name)).setCell ⟨g, v * 4 + 2, none⟩ (.int .i64 t.var)).setCell ⟨g, v * 4 + 3, none⟩ av) := by
  obtain ⟨cap, cur, e, hb, h1, h2, h3, h4⟩ := h.row
  have hk : Keeps (· = g) W ((((W.setCell ⟨g, v * 4, none⟩ (.int .i64 t.kind)).setCell ⟨g, v * 4 + 1, none⟩ (.string t.name)).setCell ⟨g, v * 4 + 2, none⟩ (.int .i64 t.var)).setCell ⟨g, v * 4 + 3, none⟩ av) :=
    ((((Keeps.refl (· = g) W).setCell (p := ⟨g, v * 4, none⟩) (fun _ => rfl) _).setCell (p := ⟨g, v * 4 + 1, none⟩) (fun _ => rfl) _).setCell (p := ⟨g, v * 4 + 2, none⟩) (fun _ => rfl) _).setCell (p := ⟨g, v * 4 + 3, none⟩) (fun _ => rfl) _
  refine ⟨⟨h.blk.keeps hk (fun e => h.ne e.symm), ?_, h.ne, h.inn.set v hin, fun b hb => Im.up hk (.inl rfl) (h.im b hb)⟩, hk⟩
  refine ⟨cap, _, by rw [List.length_set]; exact e, (((hb.set_ (v * 4) _).set_ (v * 4 + 1) _).set_ (v * 4 + 2) _).set_ (v * 4 + 3) _, by rwa [List.length_set], h2, by simp only [List.length_set]; exact h3, ?_⟩
  have hv4 : v * 4 + 4 ≤ σ.length * 4 := by omega
  rw [List.length_set, List.take_set, List.take_set, List.take_set, List.take_set, set4 _ _ _ _ _ _ (by rw [List.length_take]; omega)]
  have h5 : RpAll W F ((σ.set v t).map tyD) _ := RpAll.set_at tyD.wide t (t.cells av) (tyD.rp.2 ⟨av, rfl, ht⟩) σ _ v hv h4
  exact h5.frame (fun b hb' => hb') (fun b off u hb' hc => hk.cell hc (h.im b hb').2.2)
end

/-! ### In plain words -/
def extT (label : ByteArray) (t rest : Ty) : Ty := .mk 5 label 0 [t, rest]
def zeroT : Ty := .mk 0 ⟨#[]⟩ 0 []
def bindP (k : Nat) (σ : List Ty) (v : Int) (t : Ty) : Option (Int × List Ty) :=
  if t.kind = 0 ∧ t.var = v then some (0, σ)
  else match occP σ v k (List.replicate σ.length false) t with
    | none => none
    | some (true, _) => some (8, σ)
    | some (false, _) => match sizedP (σ.set v.toNat t) k with
      | none => none
      | some r => some (r, σ.set v.toNat t)
def tailL (σ : List Ty) (k : Nat) : Nat → Ty → Option Int
  | 0, _ => none
  | q + 1, t => if t.kind = 5 then
      match t.args with
      | _ :: y :: _ => match walkP σ k y with
        | none => none
        | some y' => tailL σ k q y'
      | _ => none
    else some (if t.kind = 0 then t.var else -1)
def tailP (σ : List Ty) (k : Nat) (t : Ty) : Option Int := match walkP σ k t with
  | none => none
  | some t' => tailL σ k k t'
/-- The type of a label, and the row without it; where the row ends in a variable it gets two fresh ones. -/
def extractP (k : Nat) (label : ByteArray) (not : Int) : Nat → List Ty → Ty → Option (Ty × Ty × Int × List Ty)
  | 0, _, _ => none
  | q + 1, σ, row => match walkP σ k row with
    | none => none
    | some r =>
      if r.kind = 0 then if r.var = not then some (zeroT, zeroT, 8, σ) else
          if 4096 < σ.length + 2 then some (zeroT, zeroT, 2, σ ++ [varT (σ.length : Int), varT ((σ.length : Int) + 1)])
          else match sizedP ((σ ++ [varT (σ.length : Int), varT ((σ.length : Int) + 1)]).set r.var.toNat (extT label (varT (σ.length : Int)) (varT ((σ.length : Int) + 1)))) k with
            | none => none
            | some e => some (varT (σ.length : Int), varT ((σ.length : Int) + 1), e, (σ ++ [varT (σ.length : Int), varT ((σ.length : Int) + 1)]).set r.var.toNat (extT label (varT (σ.length : Int)) (varT ((σ.length : Int) + 1))))
      else if r.kind ≠ 5 then some (zeroT, zeroT, 10, σ)
      else match r.args with
        | x :: y :: _ => if r.name = label then some (x, y, 0, σ) else match extractP k label not q σ y with
          | none => none
          | some (t, rest, e, σ') => some (t, extT r.name x rest, e, σ')
        | _ => none
def unifyL (f : List Ty → Ty → Ty → Option (Int × List Ty)) : List Ty → List Ty → List Ty → Option (Int × List Ty)
  | a :: l, b :: m, σ => match f σ a b with
    | none => none
    | some (e, σ') => if e ≠ 0 then some (e, σ') else unifyL f l m σ'
  | _, _, σ => some (0, σ)
def rowsP (k : Nat) (f : List Ty → Ty → Ty → Option (Int × List Ty)) (σ : List Ty) (a b : Ty) : Option (Int × List Ty) := match tailP σ k a with
  | none => none
  | some n => match extractP k a.name n k σ b with
    | none => none
    | some (t, rest, e, σ1) => if e ≠ 0 then some (e, σ1) else match a.args with
      | x :: y :: _ => match f σ1 x t with
        | none => none
        | some (e, σ2) => if e ≠ 0 then some (e, σ2) else f σ2 y rest
      | _ => none
def unifyP (k : Nat) : Nat → List Ty → Ty → Ty → Option (Int × List Ty)
  | 0, _, _, _ => none
  | q + 1, σ, a, b => match walkP σ k a with
    | none => none
    | some a => match walkP σ k b with
      | none => none
      | some b =>
        if a.kind = 0 then bindP k σ a.var b
        else if b.kind = 0 then bindP k σ b.var a
        else if a.kind = 5 ∧ 4 ≤ b.kind then rowsP k (unifyP k q) σ a b
        else if a.kind ≠ b.kind ∨ a.name ≠ b.name ∨ a.args.length ≠ b.args.length then some (10, σ)
        else unifyL (unifyP k q) a.args b.args σ

def unifyS (k q : Nat) (σ : List Ty) (a b : Ty) : Option (Int × List Ty) := match subC σ k with
  | none => none
  | some e => if e ≠ 0 then some (e, σ) else if tyErr σ.length a ≠ 0 then some (tyErr σ.length a, σ) else if tyErr σ.length b ≠ 0 then some (tyErr σ.length b, σ) else unifyP k q σ a b

/-- The substitution in memory behind a call: its types lie in blocks F' that were in F, or that are new. -/
structure UniNew (F F' : Nat → Prop) (W : World) (p g : Nat) (w' : World) (sv' : Value) (g' : Nat) (σ' : List Ty) : Prop where
  uni : Uni F' w' p sv' g' σ'
  keeps : Keeps (fun b => b = p ∨ b = g) W w'
  at_ : g' = g ∨ W.heap.size ≤ g'
  up : ∀ b, F b → F' b
  new : ∀ b, F' b → F b ∨ W.heap.size ≤ b
/-- What a function of the unifier leaves. -/
def UniPost (F : Nat → Prop) (W : World) (p g : Nat) (r : Int) (σ' : List Ty) (e : Ending) (w' : World) : Prop :=
  e = .returned (.int .i64 r) ∧ ∃ F' sv' g', UniNew F F' W p g w' sv' g' σ'
theorem UniNew.of_below {F F' : Nat → Prop} {W wc w' : World} {p g : Nat} {sv' : Value} {g' : Nat} {σ' : List Ty} (h : UniNew F F' wc p g w' sv' g' σ') (hb : Below W.heap.size W wc) : UniNew F F' W p g w' sv' g' σ' :=
  ⟨h.uni, (Keeps.of_below (X := fun b => b = p ∨ b = g) hb).trans h.keeps (fun _ _ h => h), h.at_.imp id (fun h => Nat.le_trans hb.size h), h.up, fun b hb' => (h.new b hb').imp id (fun h => Nat.le_trans hb.size h)⟩
theorem UniNew.trans {F F' F'' : Nat → Prop} {W w' w'' : World} {p g : Nat} {sv' sv'' : Value} {g' g'' : Nat} {σ' σ'' : List Ty} (h : UniNew F F' W p g w' sv' g' σ') (k : UniNew F' F'' w' p g' w'' sv'' g'' σ'') : UniNew F F'' W p g w'' sv'' g'' σ'' := by
  refine ⟨k.uni, h.keeps.trans k.keeps (fun i hi hx => ?_), ?_, fun b hb => k.up b (h.up b hb), fun b hb => ?_⟩
  · rcases hx with hx | hx
    · exact .inl hx
    · rcases h.at_ with h | h
      · exact .inr (hx.trans h)
      · omega
  · rcases k.at_ with k | k
    · rw [k]; exact h.at_
    · exact .inr (Nat.le_trans h.keeps.size k)
  · rcases k.new b hb with k | k
    · exact h.new b k
    · exact .inr (Nat.le_trans h.keeps.size k)
theorem UniNew.self {F : Nat → Prop} {W : World} {p g : Nat} {sv : Value} {σ : List Ty} (h : Uni F W p sv g σ) : UniNew F F W p g W sv g σ := ⟨h, Keeps.refl _ _, .inl rfl, fun _ h => h, fun _ h => .inl h⟩
theorem UniNew.later {F F' : Nat → Prop} {W w' w'' : World} {p g : Nat} {sv' : Value} {g' : Nat} {σ' : List Ty} (h : UniNew F F' W p g w' sv' g' σ') (hb : Below w'.heap.size w' w'') : UniNew F F' W p g w'' sv' g' σ' :=
  ⟨h.uni.later hb, h.keeps.trans (Keeps.of_below (X := fun _ => False) hb) (fun _ _ h => h.elim), h.at_, h.up, h.new⟩
/-- A type of old, in the world that a function of the unifier left. -/
theorem UniNew.old {F F' : Nat → Prop} {W w' : World} {p g : Nat} {sv sv' : Value} {g' : Nat} {σ σ' : List Ty} (h : UniNew F F' W p g w' sv' g' σ') (hU : Uni F W p sv g σ) {t : Ty} {av : Value} (ht : TyC W F t av) : TyC w' F' t av :=
  (ht.keeps h.keeps (fun i hi hx => by have := (hU.im i hi).2; omega)).mono h.up
/-! ### Lengths -/
theorem bindP_len {k : Nat} {σ : List Ty} {v : Int} {t : Ty} {r : Int} {σ' : List Ty} (h : bindP k σ v t = some (r, σ')) : σ'.length = σ.length := by
  rw [bindP] at h
  split at h
  · simp only [Option.some.injEq, Prod.mk.injEq] at h; rw [h.2]
  · split at h
    · cases h
    · simp only [Option.some.injEq, Prod.mk.injEq] at h; rw [h.2]
    · split at h
      · cases h
      · simp only [Option.some.injEq, Prod.mk.injEq] at h; rw [← h.2, List.length_set]
/-- Longer, and where there is no error no longer than allowed. -/
def Len (σ σ' : List Ty) (e : Int) : Prop := σ.length ≤ σ'.length ∧ (σ.length ≤ 4096 → e = 0 → σ'.length ≤ 4096)
theorem Len.self (σ : List Ty) (e : Int) : Len σ σ e := ⟨Nat.le_refl _, fun h _ => h⟩
theorem Len.eq {σ σ' : List Ty} (h : σ'.length = σ.length) (e : Int) : Len σ σ' e := ⟨by omega, fun h2 _ => by omega⟩
theorem Len.trans {σ σ' σ'' : List Ty} {e : Int} (h : Len σ σ' 0) (k : Len σ' σ'' e) : Len σ σ'' e := ⟨Nat.le_trans h.1 k.1, fun hl he => k.2 (h.2 hl rfl) he⟩
theorem extractP_len (k : Nat) (label : ByteArray) (not : Int) : ∀ (q : Nat) (σ : List Ty) (t u rest : Ty) (e : Int) (σ' : List Ty), extractP k label not q σ t = some (u, rest, e, σ') → Len σ σ' e
  | 0, _, _, _, _, _, _, h => by cases h
  | q + 1, σ, t, u, rest, e, σ', h => by
    rw [extractP] at h
    split at h
    · cases h
    · rename_i r hr
      split at h
      · split at h
        · simp only [Option.some.injEq, Prod.mk.injEq] at h; rw [← h.2.2.2]; exact Len.self _ _
        · split at h
          · simp only [Option.some.injEq, Prod.mk.injEq] at h
            obtain ⟨_, _, rfl, rfl⟩ := h
            exact ⟨by simp, fun _ h => absurd h (by decide)⟩
          · rename_i hl
            split at h
            · cases h
            · simp only [Option.some.injEq, Prod.mk.injEq] at h
              obtain ⟨_, _, rfl, rfl⟩ := h
              exact ⟨by simp, fun _ _ => by simp; omega⟩
      · split at h
        · simp only [Option.some.injEq, Prod.mk.injEq] at h; rw [← h.2.2.2]; exact Len.self _ _
        · split at h
          · split at h
            · simp only [Option.some.injEq, Prod.mk.injEq] at h; rw [← h.2.2.2]; exact Len.self _ _
            · split at h
              · cases h
              · rename_i hx
                simp only [Option.some.injEq, Prod.mk.injEq] at h
                rw [← h.2.2.2, ← h.2.2.1]; exact extractP_len k label not q _ _ _ _ _ _ hx
          · cases h
theorem unifyL_len {f : List Ty → Ty → Ty → Option (Int × List Ty)} (hf : ∀ σ a b r σ', f σ a b = some (r, σ') → Len σ σ' r) : ∀ (l m : List Ty) (σ : List Ty) (r : Int) (σ' : List Ty), unifyL f l m σ = some (r, σ') → Len σ σ' r
  | a :: l, b :: m, σ, r, σ', h => by
    rw [unifyL] at h
    split at h
    · cases h
    · rename_i e σ1 h1
      split at h
      · simp only [Option.some.injEq, Prod.mk.injEq] at h; rw [← h.2, ← h.1]; exact hf _ _ _ _ _ h1
      · rename_i he
        obtain rfl : e = 0 := by omega
        exact (hf _ _ _ _ _ h1).trans (unifyL_len hf l m σ1 r σ' h)
  | [], _, σ, r, σ', h => by simp only [unifyL, Option.some.injEq, Prod.mk.injEq] at h; rw [h.2]; exact Len.self _ _
  | _ :: _, [], σ, r, σ', h => by simp only [unifyL, Option.some.injEq, Prod.mk.injEq] at h; rw [h.2]; exact Len.self _ _
theorem rowsP_len {k : Nat} {f : List Ty → Ty → Ty → Option (Int × List Ty)} (hf : ∀ σ a b r σ', f σ a b = some (r, σ') → Len σ σ' r) {σ : List Ty} {a b : Ty} {r : Int} {σ' : List Ty} (h : rowsP k f σ a b = some (r, σ')) : Len σ σ' r := by
  rw [rowsP] at h
  split at h
  · cases h
  · split at h
    · cases h
    · rename_i t rest e σ1 h1
      have h2 := extractP_len _ _ _ _ _ _ _ _ _ _ h1
      split at h
      · simp only [Option.some.injEq, Prod.mk.injEq] at h; rw [← h.2, ← h.1]; exact h2
      · rename_i he
        obtain rfl : e = 0 := by omega
        split at h
        · split at h
          · cases h
          · rename_i e2 σ2 h3
            split at h
            · simp only [Option.some.injEq, Prod.mk.injEq] at h; rw [← h.2, ← h.1]; exact h2.trans (hf _ _ _ _ _ h3)
            · rename_i he2
              obtain rfl : e2 = 0 := by omega
              exact h2.trans ((hf _ _ _ _ _ h3).trans (hf _ _ _ _ _ h))
        · cases h
theorem unifyP_len (k : Nat) : ∀ (q : Nat) (σ : List Ty) (a b : Ty) (r : Int) (σ' : List Ty), unifyP k q σ a b = some (r, σ') → Len σ σ' r
  | 0, _, _, _, _, _, h => by cases h
  | q + 1, σ, a, b, r, σ', h => by
    rw [unifyP] at h
    split at h
    · cases h
    · split at h
      · cases h
      · split at h
        · exact Len.eq (bindP_len h) _
        · split at h
          · exact Len.eq (bindP_len h) _
          · split at h
            · exact rowsP_len (unifyP_len k q) h
            · split at h
              · simp only [Option.some.injEq, Prod.mk.injEq] at h; rw [h.2]; exact Len.self _ _
              · exact unifyL_len (unifyP_len k q) _ _ _ _ _ h
theorem walkP_in (σ : List Ty) (hσ : SubIn σ) : ∀ (n : Nat) (t r : Ty), VIn σ t → walkP σ n t = some r → VIn σ r
  | 0, _, _, _, h => by cases h
  | n + 1, t, r, ht, h => by
    rw [walkP] at h
    split at h
    · split at h
      · cases h
      · rename_i x hx
        split at h
        · rw [← Option.some.inj h]; exact ht
        · exact walkP_in σ hσ n x r (fun v hv => hσ x (List.mem_of_getElem? hx) v hv) h
    · rw [← Option.some.inj h]; exact ht
theorem VIn.varOk {σ : List Ty} {t : Ty} (h : VIn σ t) : VarOk t := fun h0 => (h t.var (by rw [freeP_var h0]; simp)).1
theorem VIn.arg {σ : List Ty} {t a : Ty} (h : VIn σ t) (h0 : t.kind ≠ 0) (ha : a ∈ t.args) : VIn σ a := fun v hv => h v ((freeP_args h0).2 ⟨a, ha, hv⟩)
theorem VIn.mono {σ τ : List Ty} {t : Ty} (h : VIn σ t) (hl : σ.length ≤ τ.length) : VIn τ t := fun v hv => ⟨(h v hv).1, by have := (h v hv).2; omega⟩
theorem varT_in {σ : List Ty} {v : Int} (h : 0 ≤ v ∧ v < (σ.length : Int)) : VIn σ (varT v) := fun u hu => by
  rw [freeP_var rfl, List.mem_singleton] at hu
  have hu : u = v := hu
  subst hu
  exact ⟨h.1, by omega⟩
/-- Two fresh variables. -/
theorem SubIn.two {σ : List Ty} (h : SubIn σ) : SubIn (σ ++ [varT (σ.length : Int), varT ((σ.length : Int) + 1)]) := fun x hx => by
  rcases List.mem_append.1 hx with hx | hx
  · exact VIn.mono (fun v hv => h x hx v hv) (by simp)
  · simp only [List.mem_cons, List.not_mem_nil, or_false] at hx
    rcases hx with rfl | rfl
    · exact varT_in ⟨by omega, by simp only [List.length_append, List.length_cons, List.length_nil]; omega⟩
    · exact varT_in ⟨by omega, by simp only [List.length_append, List.length_cons, List.length_nil]; omega⟩
/-- What extract gives has variables of the substitution alone. -/
theorem extractP_in (k : Nat) (label : ByteArray) (not : Int) : ∀ (q : Nat) (σ : List Ty) (t u rest : Ty) (e : Int) (σ' : List Ty), SubIn σ → VIn σ t → extractP k label not q σ t = some (u, rest, e, σ') → e = 0 → VIn σ' u ∧ VIn σ' rest
  | 0, _, _, _, _, _, _, _, _, h, _ => by cases h
  | q + 1, σ, t, u, rest, e, σ', hσ, ht, h, he => by
    rw [extractP] at h
    split at h
    · cases h
    · rename_i r hr
      have hvr := walkP_in σ hσ k t r ht hr
      split at h
      · split at h
        · simp only [Option.some.injEq, Prod.mk.injEq] at h
          rw [he] at h; exact absurd h.2.2.1 (by decide)
        · split at h
          · simp only [Option.some.injEq, Prod.mk.injEq] at h
            rw [he] at h; exact absurd h.2.2.1 (by decide)
          · split at h
            · cases h
            · simp only [Option.some.injEq, Prod.mk.injEq] at h
              obtain ⟨rfl, rfl, _, rfl⟩ := h
              exact ⟨varT_in (by simp; omega), varT_in (by simp; omega)⟩
      · rename_i h0
        split at h
        · simp only [Option.some.injEq, Prod.mk.injEq] at h
          rw [he] at h; exact absurd h.2.2.1 (by decide)
        · split at h
          · rename_i x y more hargs
            split at h
            · simp only [Option.some.injEq, Prod.mk.injEq] at h
              obtain ⟨rfl, rfl, _, rfl⟩ := h
              exact ⟨hvr.arg h0 (by rw [hargs]; simp), hvr.arg h0 (by rw [hargs]; simp)⟩
            · split at h
              · cases h
              · rename_i t1 rest1 e1 σ1 hx
                simp only [Option.some.injEq, Prod.mk.injEq] at h
                obtain ⟨rfl, rfl, rfl, rfl⟩ := h
                have hσ1 := extractP_len k label not q _ _ _ _ _ _ hx
                obtain ⟨h1, h2⟩ := extractP_in k label not q _ _ _ _ _ _ hσ (hvr.arg h0 (by rw [hargs]; simp)) hx he
                refine ⟨h1, fun v hv => ?_⟩
                rcases (freeP_args (t := extT r.name x rest1) (show (5 : Int) ≠ 0 by decide)).1 hv with ⟨a, ha, hva⟩
                have ha' : a = x ∨ a = rest1 := by simpa [extT, Ty.args] using ha
                rcases ha' with rfl | rfl
                · exact (VIn.mono (hvr.arg h0 (by rw [hargs]; simp)) hσ1.1) v hva
                · exact h2 v hva
          · cases h
theorem SlE.below {α : Type} {w w' : World} {H F : Nat → Prop} {f : α → D} {l : List α} {v : Value} {B : Nat} (h : SlE w H F f l v) (hb : Below B w w') (hH : ∀ i, H i → i < B) (hF : ∀ i, F i → i < B) : SlE w' H F f l v := by
  obtain ⟨A, c, e, h1, h2, h3, h4⟩ := h
  refine ⟨A, c, e, h1, h2, h3, fun hne => ?_⟩
  obtain ⟨g, off, xs, ha, hg, hx, hc⟩ := h4 hne
  exact ⟨g, off, xs, ha, hg, hx.below hF hb, fun j u hj => (hb.cell (p := ⟨g, off + j, none⟩) (hH g hg)).trans (hc j u hj)⟩
/-- Walk, at the unifier's substitution, later. -/
theorem Uni.walk {F : Nat → Prop} {W X : World} {p g : Nat} {sv : Value} {σ : List Ty} (h : Uni F W p sv g σ) (hb : Below W.heap.size W X) (n : Nat) (t r : Ty) (av : Value) (ht : TyC X F t av) (hv : VIn σ t) (hr : walkP σ n t = some r) :
    Calls Tryd.prog 19 #[sv, tyV t av] X (TyRet r F X) :=
  walk_any σ sv _ _ X (h.sle.below hb (fun b hb => by rw [hb]; exact h.glt) (fun b hb => (h.im b hb).1)) (fun b hb' => by rw [hb']; exact Nat.lt_of_lt_of_le h.glt hb.size) (fun b hb' => Nat.lt_of_lt_of_le (h.im b hb').1 hb.size) (fun x hx h0 => (h.inn x hx x.var (by rw [freeP_var h0]; simp)).1) n t r av ht hv.varOk hr
end Go.Proofs.YthchnabhbpdfgaaDoor
