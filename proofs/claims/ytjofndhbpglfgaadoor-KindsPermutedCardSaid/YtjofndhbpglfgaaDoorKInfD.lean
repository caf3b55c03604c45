/- kinds: Infer in plain words, where no kinds are known. -/
import Derived.Test.YtjofndhbpglfgaaDoorKTwice
import Derived.Test.YtjofndhbpglfgaaDoorKFuel
import Derived.Test.YtjofndhbpglfgaaDoorKRange
import Derived.Test.YtjofndhbpglfgaaDoorUChk
namespace Go.Proofs.YtjofndhbpglfgaaDoor
open Go.RowKit Go.Shelf

set_option maxHeartbeats 400000 in
/-- unify.Check of one type. -/
theorem kCheck1 (t : Ty) (W : World) (F : Nat → Prop) (av : Value) (hT : TyC W F t av) (hF : ∀ b, F b → b < W.heap.size) (hz : Szs W) :
    Calls Tryd.prog 23 #[tyV t av] W fun e w' => e = .returned (.int .i64 (chk t 4096 false 1).1) ∧ Below W.heap.size W w' := by
  obtain ⟨A, c, rfl, _⟩ := hT.form
  obtain ⟨tb, htb⟩ : ∃ tb, W.heap.size = tb := ⟨_, rfl⟩
  obtain ⟨W2, hW2⟩ : ∃ W2, (W.alloc (.cells #[.int .i64 t.kind, .string t.name, .int .i64 t.var, .slice A t.args.length c] 45)).alloc (.cells #[.int .i64 4096] 92) = W2 := ⟨_, rfl⟩
  have hk2 : Keeps (fun _ => False) W W2 := by rw [← hW2]; exact ((Keeps.refl _ _).alloc _).alloc _
  have hc2 : Blk W2 (tb + 1) 92 [.int .i64 4096] := by
    have := Blk.new (W.alloc (.cells #[.int .i64 t.kind, .string t.name, .int .i64 t.var, .slice A t.args.length c] 45)) 92 [.int .i64 4096]
    rw [hW2] at this
    simpa [htb] using this
  have hzl := block_lt_of_cell hz.c0
  have HCk := Lib.hid (chk_all t W2 tb (tb + 1) _ 4096 1 false ((hT.keeps hk2 (fun _ _ h => h)).mono (fun b hb => by have := hF b hb; omega)) hc2 (by dsimp at hzl; omega) (by omega) (hz.keeps hk2 (fun h => h)) (by omega) (by omega) (by omega) (by omega))
  have HW2 := Lib.hid hW2
  have HK2 := Lib.hid hk2
  have HTb := Lib.hid htb
  unfold tyV
  clear hT hF hz hW2 hk2 hc2 htb hzl
  go_enter Tryd.func23, Tryd.ntmps23
  go_wp2_with fail
  rw [HW2.out, HTb.out]
  with_reducible refine HCk.out.mono ?_
  rintro e w3 ⟨rfl, _, hk3⟩
  have hb3 : Below W.heap.size W w3 := (HK2.out.trans hk3 (fun i hi h => by have := HTb.out; omega)).below (fun _ h => h.elim) (Nat.le_refl _)
  have HB3 := Lib.hid hb3
  clear hk3 hb3
  go_wp2_with fail
  go_ret
  exact ⟨rfl, HB3.out⟩

theorem own_low {w : World} {b c : Nat} {e : TypeId} {k n : Nat} {v : Value} {xs : List Value} (h : w.ownsRow b e k v n xs) (hc : c ≤ b) : w.ownsRow c e k v n xs := by
  refine ⟨h.1, h.2.imp id ?_⟩
  rintro ⟨g, cap, cur, h1, h2, h3⟩
  exact ⟨g, cap, cur, h1, Nat.le_trans hc h2, h3⟩
/-! ### The first loop -/
def twiceAt (datas : List DataSig) (j : Nat) (x : ByteArray) : Bool := (datas.take j).any (fun y => y.name.toList == x.toList)
def PreTo (datas : List DataSig) (j : Nat) : Prop := ∀ i d, i < j → datas[i]? = some d → twiceAt datas i d.name = false ∧ 0 ≤ d.params ∧ d.params ≤ 16
theorem PreTo.succ {datas : List DataSig} {j : Nat} {d : DataSig} (h : PreTo datas j) (hd : datas[j]? = some d) (h1 : twiceAt datas j d.name = false) (h2 : 0 ≤ d.params) (h3 : d.params ≤ 16) : PreTo datas (j + 1) := fun i e hi he => by
  rcases Nat.lt_or_ge i j with h' | h'
  · exact h i e h' he
  · obtain rfl : i = j := by omega
    rw [hd] at he
    obtain rfl := Option.some.inj he
    exact ⟨h1, h2, h3⟩
theorem PreTo.par {datas : List DataSig} (h : PreTo datas datas.length) : ∀ d ∈ datas, 0 ≤ d.params ∧ d.params ≤ 16 := fun d hd => by
  obtain ⟨i, hi, rfl⟩ := List.getElem_of_mem hd
  exact (h i _ hi (List.getElem?_eq_getElem hi)).2
def firstsOf : List DataSig → Nat → List Nat
  | [], _ => []
  | d :: r, n => n :: firstsOf r (n + d.params.toNat)
def total : List DataSig → Nat
  | [] => 0
  | d :: r => d.params.toNat + total r
@[simp] theorem firstsOf_length : ∀ (l : List DataSig) (n : Nat), (firstsOf l n).length = l.length
  | [], _ => rfl
  | d :: r, n => by simp [firstsOf, firstsOf_length r]
theorem total_append : ∀ (l r : List DataSig), total (l ++ r) = total l + total r
  | [], r => by simp [total]
  | d :: l, r => by simp [total, total_append l r, Nat.add_assoc]
theorem firstsOf_append : ∀ (l r : List DataSig) (n : Nat), firstsOf (l ++ r) n = firstsOf l n ++ firstsOf r (n + total l)
  | [], r, n => by simp [total, firstsOf]
  | d :: l, r, n => by simp [total, firstsOf, firstsOf_append l r, Nat.add_assoc]
theorem total_le : ∀ (l : List DataSig), (∀ d ∈ l, d.params ≤ 16) → total l ≤ 16 * l.length
  | [], _ => by simp [total]
  | d :: r, h => by
    have := total_le r (fun e he => h e (by simp [he]))
    have := h d (by simp)
    simp only [total, List.length_cons]
    omega
theorem total_take_succ {l : List DataSig} {j : Nat} {d : DataSig} (h : l[j]? = some d) : total (l.take (j + 1)) = total (l.take j) + d.params.toNat := by
  obtain ⟨hj, rfl⟩ := List.getElem?_eq_some_iff.1 h
  rw [List.take_succ_eq_append_getElem hj, total_append]; simp [total]
theorem firstsOf_take_succ {l : List DataSig} {j n : Nat} {d : DataSig} (h : l[j]? = some d) : firstsOf (l.take (j + 1)) n = firstsOf (l.take j) n ++ [n + total (l.take j)] := by
  obtain ⟨hj, rfl⟩ := List.getElem?_eq_some_iff.1 h
  rw [List.take_succ_eq_append_getElem hj, firstsOf_append]; simp [firstsOf]
theorem PreTo.total {datas : List DataSig} {j : Nat} (h : PreTo datas j) (hl : datas.length ≤ 4096) : total (datas.take j) ≤ 65536 := by
  have := total_le (datas.take j) (fun d hd => by
    obtain ⟨i, hi, rfl⟩ := List.getElem_of_mem hd
    rw [List.length_take] at hi
    refine (h i _ (by omega) (List.getElem?_eq_getElem (by omega))).2.2 |> (by rw [List.getElem_take]; exact ·))
  rw [List.length_take] at this
  omega
theorem firstsOf_fits : ∀ (l : List DataSig) (n i : Nat) (d : DataSig) (f : Nat), l[i]? = some d → (firstsOf l n)[i]? = some f → n ≤ f ∧ f + d.params.toNat ≤ n + total l
  | e :: r, n, 0, d, f, h1, h2 => by
    simp only [firstsOf, List.getElem?_cons_zero, Option.some.injEq] at h1 h2
    subst h1 h2
    simp only [total]; omega
  | e :: r, n, i + 1, d, f, h1, h2 => by
    simp only [firstsOf, List.getElem?_cons_succ] at h1 h2
    have := firstsOf_fits r _ i d f h1 h2
    simp only [total]; omega
def up0 (m : Nat) : List Nat := List.range (3 + m)
def kind0 (m : Nat) : List Int := [0, 1, 2] ++ List.replicate m (-1)
@[simp] theorem up0_length (m : Nat) : (up0 m).length = 3 + m := by simp [up0]
@[simp] theorem kind0_length (m : Nat) : (kind0 m).length = 3 + m := by simp [kind0]; omega
theorem up0_succ (m : Nat) : up0 m ++ [(up0 m).length] = up0 (m + 1) := by rw [up0_length]; simp only [up0]; rw [← List.range_succ]; rfl
theorem kind0_succ (m : Nat) : kind0 m ++ [-1] = kind0 (m + 1) := by simp [kind0, List.replicate_succ']
theorem inv0 (m : Nat) : Kinv (up0 m, kind0 m) := ⟨fun i hi => ⟨0, i, rfl, by
  have hi' : i < 3 + m := by simpa using hi
  show (List.range (3 + m))[i]? = some i
  rw [List.getElem?_eq_getElem (by simpa using hi'), List.getElem_range]⟩, by simp⟩
theorem slots0 {datas : List DataSig} (h : PreTo datas datas.length) : Slots datas (firstsOf datas 3) (3 + total datas) := ⟨by simp, fun i d f h1 h2 => by
  have := (firstsOf_fits datas 3 i d f h1 h2).2
  have := (h i d (List.getElem?_eq_some_iff.1 h1).1 h1).2
  exact ⟨this.1, this.2, by omega⟩⟩
theorem ran0 (m : Nat) : Ran (kind0 m) := fun x hx => by
  simp only [kind0, List.mem_append, List.mem_cons, List.mem_replicate, List.not_mem_nil, or_false] at hx
  omega

/-! ### What the constructors ask -/
abbrev Task := List Nat × Ty
def varsOf (datas : List DataSig) (first : List Nat) (x : ByteArray) : List Nat := (findD datas first x).getD []
def tasksC (vars : List Nat) (c : ConSig) : List Task := c.args.map fun t => (vars, t)
def tasksD (datas : List DataSig) (first : List Nat) (d : DataSig) : List Task := d.cons.flatMap (tasksC (varsOf datas first d.name))
def tasks (datas : List DataSig) (first : List Nat) (l : List DataSig) : List Task := l.flatMap (tasksD datas first)
noncomputable def runT (datas : List DataSig) (first : List Nat) : List Task → St → Option St
  | [], s => some s
  | x :: r, s => if (chk x.2 4096 false 1).1 ≠ 0 then none else match wantP datas first x.1 (SizeOf.sizeOf x.2) x.2 0 s with
    | none => none
    | some (e, s') => if e ≠ 0 then none else runT datas first r s'
def InfOK (datas : List DataSig) (s : St) : Prop := datas.length ≤ 4096 ∧ PreTo datas datas.length ∧ runT datas (firstsOf datas 3) (tasks datas (firstsOf datas 3) datas) (up0 (total datas), kind0 (total datas)) = some s
noncomputable def kindRow (s : St) (f n : Nat) : List Int := (List.range n).map fun p => max 0 (kOf s.2 (rt s.1 (f + p)))
noncomputable def kindSig (s : St) (x : DataSig × Nat) : KindSig := ⟨x.1.name, kindRow s x.2 x.1.params.toNat⟩
noncomputable def kindsOf (datas : List DataSig) (first : List Nat) (s : St) : List KindSig := (datas.zip first).map (kindSig s)
def InfPost (datas : List DataSig) (W : World) (e : Ending) (w' : World) : Prop := Below W.heap.size W w' ∧
  ((∃ s v, InfOK datas s ∧ e = .returned (.tuple #[v, .int .i64 0]) ∧ Sl w' (· < w'.heap.size) KindSig.d (kindsOf datas (firstsOf datas 3) s) v) ∨
    ((∀ s, ¬ InfOK datas s) ∧ ∃ r : Int, r ≠ 0 ∧ e = .returned (.tuple #[.slice none 0 0, .int .i64 r])))

theorem varsOf_lt {datas : List DataSig} {first : List Nat} {n : Nat} (h : Slots datas first n) (x : ByteArray) : ∀ v ∈ varsOf datas first x, v < n := fun v hv => by
  unfold varsOf at hv
  cases hq : findD datas first x with
  | none => rw [hq] at hv; simp at hv
  | some l => rw [hq] at hv; exact findD_lt datas first h.2 x l hq v hv
/-- One task: what becomes of the run. -/
theorem runT_cons {datas : List DataSig} {first : List Nat} {v : List Nat} {t : Ty} {r : List Task} {s s' : St} {e : Int} (h0 : (chk t 4096 false 1).1 = 0) (h : wantP datas first v (SizeOf.sizeOf t) t 0 s = some (e, s')) :
    runT datas first ((v, t) :: r) s = if e ≠ 0 then none else runT datas first r s' := by
  rw [runT, if_neg (fun h => h h0)]
  dsimp only
  rw [h]
theorem runT_bad {datas : List DataSig} {first : List Nat} {v : List Nat} {t : Ty} {r : List Task} {s : St} (h0 : (chk t 4096 false 1).1 ≠ 0) : runT datas first ((v, t) :: r) s = none := by
  rw [runT, if_pos h0]
theorem want_def (datas : List DataSig) (first vars : List Nat) {t : Ty} (h : (chk t 4096 false 1).1 = 0) (s : St) : ∃ e s', wantP datas first vars (SizeOf.sizeOf t) t 0 s = some (e, s') :=
  wantP_some datas first vars _ t 0 s ⟨_, _, _, h⟩ (Nat.le_refl _)
theorem tasksC_drop {vars : List Nat} {c : ConSig} {q : Nat} {t : Ty} (h : c.args[q]? = some t) : (tasksC vars c).drop q = (vars, t) :: (tasksC vars c).drop (q + 1) := by
  obtain ⟨hq, rfl⟩ := List.getElem?_eq_some_iff.1 h
  rw [List.drop_eq_getElem_cons (by simpa [tasksC] using hq)]
  simp [tasksC]
theorem flatMap_drop {α β : Type} (f : α → List β) {l : List α} {j : Nat} {x : α} (h : l[j]? = some x) : (l.drop j).flatMap f = f x ++ (l.drop (j + 1)).flatMap f := by
  obtain ⟨hq, rfl⟩ := List.getElem?_eq_some_iff.1 h
  rw [List.drop_eq_getElem_cons hq, List.flatMap_cons]
theorem Szs.below {B : Nat} {w w' : World} (h : Szs w) (hb : Below B w w') (h0 : 0 < B) : Szs w' := h.keeps (Keeps.mk hb.os hb.tape hb.output hb.size (fun i _ hi => hb.block i (Nat.lt_of_not_le hi)) : Keeps (fun i => B ≤ i) w w') (by omega)
/-- params' answer as a row, whatever it finds. -/
theorem params_vars {W : World} {B p : Nat} {datas : List DataSig} {first up : List Nat} {kind : List Int} {kv dv fv uv cv : Value} (hS : Sv W B p [] datas first up kind kv dv fv uv cv) (hB : B ≤ W.heap.size) (hf : first.length = datas.length) (hp : ∀ d ∈ datas, 0 ≤ d.params ∧ d.params ≤ 16) (hm : ∀ i ∈ first, i ≤ 1000000) (x : ByteArray) :
    Calls Tryd.prog 43 #[.pointer (some ⟨p, 0, none⟩), .string x] W fun e w' => Below W.heap.size W w' ∧ ∃ (vv : Value) (bb : Bool), e = .returned (.tuple #[vv, .bool bb]) ∧ w'.ownsRow W.heap.size 3 1 vv (varsOf datas first x).length (ints (varsOf datas first x)) := by
  refine (params_any hS hB hf hp hm x).mono ?_
  rintro e w' ⟨hb, (⟨l, v, hl, rfl, ho⟩ | ⟨hn, rfl⟩)⟩
  · refine ⟨hb, v, true, rfl, ?_⟩
    rw [show varsOf datas first x = l by unfold varsOf; rw [hl]; rfl]
    exact ho
  · refine ⟨hb, .slice none 0 0, false, rfl, ?_⟩
    rw [show varsOf datas first x = [] by unfold varsOf; rw [hn]; rfl]
    exact World.ownsRow_nil _ _ _ _
theorem kindRow_succ (s : St) (f q : Nat) : kindRow s f (q + 1) = kindRow s f q ++ [max 0 (kOf s.2 (rt s.1 (f + q)))] := by simp [kindRow, List.range_succ]
@[simp] theorem kindRow_length (s : St) (f q : Nat) : (kindRow s f q).length = q := by simp [kindRow]
theorem kindsOf_take_succ {datas : List DataSig} {fs : List Nat} {s : St} {j f : Nat} {d : DataSig} (hd : datas[j]? = some d) (hf : fs[j]? = some f) : (kindsOf datas fs s).take (j + 1) = (kindsOf datas fs s).take j ++ [⟨d.name, kindRow s f d.params.toNat⟩] := by
  obtain ⟨h1, rfl⟩ := List.getElem?_eq_some_iff.1 hd
  obtain ⟨h2, rfl⟩ := List.getElem?_eq_some_iff.1 hf
  have h3 : j < (kindsOf datas fs s).length := by simp [kindsOf]; omega
  rw [List.take_succ_eq_append_getElem h3]
  simp [kindsOf, kindSig]
theorem kindsOf_length {datas : List DataSig} {fs : List Nat} {s : St} (h : fs.length = datas.length) : (kindsOf datas fs s).length = datas.length := by simp [kindsOf, h]
theorem infoKind : (Tryd.prog.info? 29).map (fun i => (i.zero, i.size, i.bytes)) = some (some (.agg #[.string ⟨#[]⟩, .slice none 0 0]), 2, 40) := by kernel_rfl
theorem kintz_rp {w : World} {F : Nat → Prop} : ∀ (l : List Int), (∀ x ∈ l, 0 ≤ x ∧ x ≤ 2) → RpAll w F (l.map dInt) (kintz l)
  | [], _ => rpAll_nil.2 rfl
  | x :: r, h => by
    have hx := h x (by simp)
    exact rpAll_cons.2 ⟨[.int .i64 x], kintz r, rfl, rp_int.2 ⟨rfl, WalkArith.wf_i64 (by omega)⟩, kintz_rp r (fun y hy => h y (by simp [hy]))⟩
theorem kindRow_ran {s : St} (h : Ran s.2) (f n : Nat) : ∀ x ∈ kindRow s f n, 0 ≤ x ∧ x ≤ 2 := fun x hx => by
  unfold kindRow at hx
  obtain ⟨q, _, rfl⟩ := List.mem_map.1 hx
  have := h.kOf (rt s.1 (f + q))
  omega
theorem kind_snoc {w : World} {F G : Nat → Prop} {l : List KindSig} {cs : List Value} {x : KindSig} {pv : Value} (h : RpAll w F (l.map KindSig.d) cs) (hF : ∀ b, F b → G b) (hn : x.name.size ≤ maxLen) (hx : Sl w G dInt x.params pv) : RpAll w G ((l ++ [x]).map KindSig.d) (cs ++ [.string x.name, pv]) := by
  rw [List.map_append]
  exact RpAll.append (h.mono hF) (RpAll.one (KindSig.rp.2 ⟨pv, rfl, hn, hx⟩))
theorem RpAll.keeps {X F : Nat → Prop} {a b : World} {l : List D} {cs : List Value} (h : RpAll a F l cs) (hk : Keeps X a b) (hF : ∀ i, F i → ¬ X i) : RpAll b F l cs := rp_agg.1 (Rp.keeps (rp_agg.2 h) hk hF)
theorem own_some {i n c g : Nat} (h : (Value.slice (some ⟨g, 0, none⟩) n c).ownBlock = some i) : g = i := by simpa [Value.ownBlock] using h
end Go.Proofs.YtjofndhbpglfgaaDoor
