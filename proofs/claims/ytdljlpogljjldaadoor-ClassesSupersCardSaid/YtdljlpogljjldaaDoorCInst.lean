/- classes.Instance. -/
import Derived.Test.YtdljlpogljjldaaDoorCHof
import Derived.Test.YtdljlpogljjldaaDoorTill
import Derived.Test.YtdljlpogljjldaaDoorNorm
namespace Go.Proofs.YtdljlpogljjldaaDoor
open Go.RowKit Go.Shelf Go.Sort

theorem infoPred : (Tryd.prog.info? 35).map (fun i => (i.zero, i.size, i.bytes)) = some (some (.agg #[.string ⟨#[]⟩, .int .i64 0, .string ⟨#[]⟩, .int .i64 0, .slice none 0 0]), 5, 72) := by kernel_rfl
theorem needK_nil (p : Pred) : needK p [] [] = [] := rfl
theorem needK_step (p : Pred) : ∀ (l m : List Ty) (k : Nat) (h : k < l.length) (h2 : k < m.length), needK p (l.take (k + 1)) (m.take (k + 1)) = needK p (l.take k) (m.take k) ++ if l[k].var = p.ty.var then [⟨p.cls, m[k]⟩] else []
  | a :: l, t :: m, 0, _, _ => by
    show needK p [a] [t] = _
    rw [needK]
    by_cases h : a.var = p.ty.var
    · simp [h, needK]
    · simp [h, needK]
  | a :: l, t :: m, k + 1, h, h2 => by
    have ih := needK_step p l m k (by simpa using h) (by simpa using h2)
    simp only [List.take_succ_cons, needK, List.getElem_cons_succ]
    rw [ih]
    split <;> simp
  | [], _, _, h, _ => by simp at h
  | _ :: _, [], _, _, h => by simp at h
theorem needK_mono (p : Pred) (l m : List Ty) (h : l.length = m.length) : ∀ k, k ≤ l.length → (needK p (l.take k) (m.take k)).length ≤ (needK p l m).length := by
  intro k hk
  have key : ∀ d k, k + d = l.length → (needK p (l.take k) (m.take k)).length ≤ (needK p l m).length := by
    intro d
    induction d with
    | zero => intro k e; rw [List.take_of_length_le (by omega), List.take_of_length_le (by omega)]; exact Nat.le_refl _
    | succ d ih =>
      intro k e
      have h1 := ih (k + 1) (by omega)
      rw [needK_step p l m k (by omega) (by omega), List.length_append] at h1
      omega
  exact key (l.length - k) k (by omega)
/-- What has been collected at requirement j, argument k. -/
def needsAt (x : InstSig) (want : Pred) (j k : Nat) : List Pred := ((x.preds.take j).flatMap fun p => needK p x.head.args want.ty.args) ++ match x.preds[j]? with
  | none => []
  | some p => needK p (x.head.args.take k) (want.ty.args.take k)
theorem needsAt_zero (x : InstSig) (want : Pred) : needsAt x want 0 0 = [] := by
  unfold needsAt
  cases x.preds[0]? <;> rfl
theorem needsAt_end (x : InstSig) (want : Pred) (hl : x.head.args.length = want.ty.args.length) (j : Nat) (hj : j < x.preds.length) : needsAt x want j x.head.args.length = needsAt x want (j + 1) 0 := by
  unfold needsAt
  rw [List.getElem?_eq_getElem hj, List.take_succ_eq_append_getElem hj, List.flatMap_append]
  dsimp only
  rw [List.take_of_length_le (l := x.head.args) (Nat.le_refl _), List.take_of_length_le (l := want.ty.args) (i := x.head.args.length) (by omega)]
  have : (match x.preds[j + 1]? with | none => [] | some p => needK p (x.head.args.take 0) (want.ty.args.take 0)) = [] := by cases x.preds[j + 1]? <;> rfl
  rw [this]
  simp
theorem needsAt_all (x : InstSig) (want : Pred) : needsAt x want x.preds.length 0 = needsOf x want := by
  unfold needsAt needsOf
  rw [List.take_of_length_le (Nat.le_refl _), List.getElem?_eq_none (Nat.le_refl _), List.append_nil]
theorem needsAt_step (x : InstSig) (want : Pred) (j k : Nat) (hj : j < x.preds.length) (h : k < x.head.args.length) (h2 : k < want.ty.args.length) : needsAt x want j (k + 1) = needsAt x want j k ++ if x.head.args[k].var = x.preds[j].ty.var then [⟨x.preds[j].cls, want.ty.args[k]⟩] else [] := by
  unfold needsAt
  rw [List.getElem?_eq_getElem hj]
  dsimp only
  rw [needK_step _ _ _ k h h2, List.append_assoc]
theorem needsAt_len (x : InstSig) (want : Pred) (hl : x.head.args.length = want.ty.args.length) (j k : Nat) (hj : j < x.preds.length) (hk : k ≤ x.head.args.length) : (needsAt x want j k).length ≤ (needsOf x want).length := by
  have h1 : (needsAt x want j k).length ≤ (needsAt x want j x.head.args.length).length := by
    unfold needsAt
    rw [List.getElem?_eq_getElem hj]
    dsimp only
    rw [List.length_append, List.length_append, List.take_of_length_le (l := x.head.args) (Nat.le_refl _), List.take_of_length_le (l := want.ty.args) (i := x.head.args.length) (by omega)]
    have := needK_mono x.preds[j] x.head.args want.ty.args hl k hk
    omega
  rw [needsAt_end x want hl j hj] at h1
  have h2 : ∀ d i, i + d = x.preds.length → (needsAt x want i 0).length ≤ (needsOf x want).length := by
    intro d
    induction d with
    | zero => intro i e; rw [show i = x.preds.length from by omega, needsAt_all]; exact Nat.le_refl _
    | succ d ih =>
      intro i e
      have h3 := ih (i + 1) (by omega)
      rw [← needsAt_end x want hl i (by omega)] at h3
      unfold needsAt at h3 ⊢
      rw [List.getElem?_eq_getElem (show i < x.preds.length by omega)] at h3 ⊢
      dsimp only at h3 ⊢
      rw [List.length_append] at h3 ⊢
      have : needK x.preds[i] (x.head.args.take 0) (want.ty.args.take 0) = [] := rfl
      rw [this]
      simp only [List.length_nil]
      omega
  have := h2 (x.preds.length - (j + 1)) (j + 1) (by omega)
  omega
theorem headR_distinct : ∀ (r pre : List Ty), headR pre r = true → ∀ v : Int, (r.countP fun a => decide (a.var = v)) + (pre.countP fun a => decide (a.var = v)) ≤ max 1 (pre.countP fun a => decide (a.var = v))
  | [], pre, _, v => by simp; omega
  | a :: r, pre, h, v => by
    rw [headR] at h
    split at h
    · cases h
    · rename_i hn
      have hn2 : pre.any (fun b => decide (b.var = a.var)) = false := by
        cases hb : pre.any (fun b => decide (b.var = a.var)) with
        | false => rfl
        | true => exact absurd (.inr hb) hn
      have ih := headR_distinct r (pre ++ [a]) h v
      rw [List.countP_append, List.countP_cons, List.countP_nil] at ih
      rw [List.countP_cons]
      by_cases hv : a.var = v
      · have h0 : (pre.countP fun a => decide (a.var = v)) = 0 := by
          rw [List.countP_eq_zero]
          intro b hb hbv
          rw [List.any_eq_false] at hn2
          exact hn2 b hb (by rw [hv]; exact hbv)
        simp only [hv, decide_true, if_true] at ih ⊢
        omega
      · simp only [hv, decide_false, Bool.false_eq_true, if_false] at ih ⊢
        omega
theorem needK_len (p : Pred) : ∀ (l m : List Ty), (needK p l m).length ≤ l.countP fun a => decide (a.var = p.ty.var)
  | [], _ => by simp [needK]
  | _ :: _, [] => by simp [needK]
  | a :: l, t :: m => by
    have ih := needK_len p l m
    rw [needK, List.countP_cons]
    split
    · rename_i h
      simp only [h, decide_true, if_true, List.length_cons]
      omega
    · rename_i h
      simp only [h, decide_false, Bool.false_eq_true, if_false]
      omega
theorem needs_len {x : InstSig} (h : headed x.head = true) (want : Pred) : (needsOf x want).length ≤ x.preds.length := by
  have h1 : ∀ p : Pred, (needK p x.head.args want.ty.args).length ≤ 1 := fun p => by
    have h2 : headR [] x.head.args = true := by
      unfold headed at h
      split at h
      · cases h
      · exact h
    have := headR_distinct x.head.args [] h2 p.ty.var
    have h3 := needK_len p x.head.args want.ty.args
    simp only [List.countP_nil] at this
    omega
  unfold needsOf
  have h2 : ∀ l : List Pred, (l.flatMap fun p => needK p x.head.args want.ty.args).length ≤ l.length := by
    intro l
    induction l with
    | nil => simp
    | cons p l ih =>
      rw [List.flatMap_cons, List.length_append, List.length_cons]
      have := h1 p
      omega
  exact h2 _
theorem instanceP_step (want : Pred) (s : List InstSig) (k : Nat) (h : k < s.length) : instanceP want k (s.drop k) = if instHit s[k] want = true then some (k, needsOf s[k] want) else instanceP want (k + 1) (s.drop (k + 1)) := by
  rw [List.drop_eq_getElem_cons h, instanceP]
def prCells (u : Pred × Value) : List Value := [.string u.1.cls, .int .i64 u.1.ty.kind, .string u.1.ty.name, .int .i64 u.1.ty.var, u.2]
/-- What has been collected, in memory. -/
structure In (G : Nat → Prop) (W8 : World) (bs2 : Nat) (nd : List Pred) (ov : Value) (U : List (Pred × Value)) (wr : World) : Prop where
  own : wr.ownsRow bs2 35 5 ov U.length (U.flatMap prCells)
  each : ∀ u ∈ U, u.1.cls.size ≤ maxLen ∧ TyC wr G u.1.ty u.2
  keeps : Keeps (fun i => bs2 ≤ i) W8 wr
  eq : U.map Prod.fst = nd
theorem in_next {G : Nat → Prop} {W8 : World} {bs2 : Nat} {nd nd' : List Pred} {ov : Value} {U : List (Pred × Value)} {wx W13 w6 : World} {g1 cap1 : Nat} {p : Pred} {t : Ty} {At : Option Addr} {ct : Nat}
    (h : In G W8 bs2 nd ov U wx) (hk : Keeps (fun _ => False) wx W13) (hk1 : Keeps (fun i => bs2 ≤ i) W13 w6) (hown : w6.ownsRow bs2 35 5 (.slice (some ⟨g1, 0, none⟩) (U.length + 1) cap1) (U.length + 1) (U.flatMap prCells ++ [.string p.cls, .int .i64 t.kind, .string t.name, .int .i64 t.var, .slice At t.args.length ct]))
    (ht : (∀ i, G i → i < bs2) ∧ TyC W13 G t (.slice At t.args.length ct)) (hp : p.cls.size ≤ maxLen) (hnd : nd' = nd ++ [⟨p.cls, t⟩]) :
    In G W8 bs2 nd' (.slice (some ⟨g1, 0, none⟩) (U.length + 1) cap1) (U ++ [(⟨p.cls, t⟩, .slice At t.args.length ct)]) w6 := by
  have hG : ∀ i, G i → ¬ bs2 ≤ i := fun i hi h => by have := ht.1 i hi; omega
  have hk6 := (hk.mono (Y := fun i => bs2 ≤ i) (fun _ _ h => h.elim)).trans hk1 (fun _ _ h => h)
  refine ⟨?_, fun u hu => ?_, h.keeps.trans hk6 (fun _ _ h => h), by rw [List.map_append, h.eq, hnd]; rfl⟩
  · rw [List.length_append, List.flatMap_append]
    simpa [prCells] using hown
  · rcases List.mem_append.1 hu with hu | hu
    · exact ⟨(h.each u hu).1, (h.each u hu).2.keeps hk6 hG⟩
    · rw [List.mem_singleton.1 hu]
      exact ⟨hp, ht.2.keeps hk1 hG⟩
theorem In.keeps0 {G : Nat → Prop} {W8 : World} {bs2 : Nat} {nd : List Pred} {ov : Value} {U : List (Pred × Value)} {wx w' : World} (h : In G W8 bs2 nd ov U wx) (hk : Keeps (fun _ => False) wx w') : In G W8 bs2 nd ov U w' :=
  ⟨own_keeps h.own hk (fun _ _ h => h), fun u hu => ⟨(h.each u hu).1, (h.each u hu).2.keeps hk (fun _ _ h => h)⟩, h.keeps.trans hk (fun _ _ h => h.elim), h.eq⟩
theorem pr_rp {w : World} {F : Nat → Prop} : ∀ {U : List (Pred × Value)}, (∀ u ∈ U, u.1.cls.size ≤ maxLen ∧ TyC w F u.1.ty u.2) → RpAll w F ((U.map Prod.fst).map Pred.d) (U.flatMap prCells)
  | [], _ => by simp [RpAll]
  | u :: U, h => by
    simp only [List.map_cons, rpAll_cons, List.flatMap_cons]
    exact ⟨_, _, rfl, Pred.rp.2 ⟨u.2, rfl, h u List.mem_cons_self⟩, pr_rp (fun q hq => h q (List.mem_cons_of_mem _ hq))⟩
/-- What Instance answers. -/
def InstRet (want : Pred) (s : List InstSig) (G : Nat → Prop) (W : World) (e : Ending) (w' : World) : Prop := Keeps (fun _ => False) W w' ∧
  ((∃ (i : Nat) (needs : List Pred) (A : Option Addr) (c : Nat), instanceP want 0 s = some (i, needs) ∧ e = .returned (.tuple #[.int .i64 (i : Int), .slice A needs.length c, .bool true]) ∧ Sl w' (fun b => (G b ∨ W.heap.size ≤ b) ∧ b < w'.heap.size) Pred.d needs (.slice A needs.length c)) ∨
   (instanceP want 0 s = none ∧ e = .returned (.tuple #[.int .i64 0, .slice none 0 0, .bool false])))
/-- Instances that are read: their heads are as Instances asks, their requirements fit into memory. -/
def InstOk (s : List InstSig) : Prop := ∀ x ∈ s, headed x.head = true ∧ x.preds.length * 72 ≤ 140737488351232
set_option maxRecDepth 100000 in
set_option maxHeartbeats 16000000 in
theorem instance_any (s : List InstSig) (hok : InstOk s) (want : Pred) (u : Value) (F G : Nat → Prop) (W : World) (A : Option Addr) (c : Nat) (hu : Sl W F InstSig.d s u) (hF : ∀ b, F b → b < W.heap.size) (hT : TyC W G want.ty (.slice A want.ty.args.length c)) (hG : ∀ b, G b → b < W.heap.size) :
    Calls Tryd.prog 34 #[u, .agg #[.string want.cls, .int .i64 want.ty.kind, .string want.ty.name, .int .i64 want.ty.var, .slice A want.ty.args.length c]] W (InstRet want s G W) := by
  obtain ⟨i0, hi0, hz0, hz1, hz2⟩ := info_parts infoPred
  obtain ⟨B, d, rfl, hld, hdm, _⟩ := hu.form
  obtain ⟨_, _, he, _, hcm, _⟩ := hT.form
  simp only [Value.slice.injEq, true_and] at he
  obtain ⟨rfl, rfl⟩ := he
  have hl : s.length ≤ 9223372036854775807 := by unfold maxLen at hdm; omega
  obtain ⟨b3, hb3⟩ : ∃ b3, W.heap.size = b3 := ⟨_, rfl⟩
  obtain ⟨W0, hW0⟩ : ∃ W0, W.alloc (.cells #[.string want.cls, .int .i64 want.ty.kind, .string want.ty.name, .int .i64 want.ty.var, .slice A want.ty.args.length c] 35) = W0 := ⟨_, rfl⟩
  have hk0 : Keeps (fun _ => False) W W0 := by rw [← hW0]; exact (Keeps.refl _ _).alloc _
  have hB3 : Blk W0 b3 35 [.string want.cls, .int .i64 want.ty.kind, .string want.ty.name, .int .i64 want.ty.var, .slice A want.ty.args.length c] := by rw [← hW0, ← hb3]; exact Blk.new W _ [_, _, _, _, _]
  have HU := Lib.hid (hu.keeps hk0 (fun _ _ h => h))
  have HT := Lib.hid (hT.keeps hk0 (fun _ _ h => h))
  have HF := Lib.hid hF
  have HG := Lib.hid hG
  have HOk := Lib.hid hok
  have HB3 := Lib.hid hB3
  have HK0 := Lib.hid hk0
  have HW0 := Lib.hid hW0
  have HBn := Lib.hid hb3
  clear hu hT hF hG hok hB3 hk0 hW0 hb3 hdm hcm
  go_enter Tryd.func34, Tryd.ntmps34
  go_upto_region 1 with (fail)
  rw [HW0.out, HBn.out]
  go_wp2_with fail
  go_loopw [16] (fun i wr => ∃ k : Nat, k ≤ s.length ∧ .int .i64 (k : Int) = i ∧ Keeps (fun _ => False) W0 wr ∧ Hid (instanceP want 0 s = instanceP want k (s.drop k))) (fun i _ => s.length - (intOf i).toNat)
  case atStart => exact ⟨0, Nat.zero_le _, rfl, Keeps.refl _ _, rfl⟩
  case round =>
    obtain ⟨i, hi, rfl, hkr, hno⟩ := hrel
    obtain ⟨wx, hwx⟩ : ∃ wx, wx = wr := ⟨_, rfl⟩
    rw [← hwx] at hkr ⊢
    clear hwx
    have HKR := Lib.hid hkr
    by_cases hlt : i < s.length
    · have hst := instanceP_step want s i hlt
      obtain ⟨g, off, v1, v2, hadr, hg, c0, c1, c2, c3, c4, c5, _, hTh, hPs⟩ := InstSig.get (HU.out.keeps hkr (fun _ _ h => h)) hlt
      obtain rfl := hadr
      obtain ⟨A1, q1, rfl, hq1, hq2, _⟩ := hTh.form
      obtain ⟨A2, q2, rfl, hp1, hp2, _⟩ := hPs.form
      have hokx := HOk.out _ (List.getElem_mem hlt)
      obtain ⟨x, hx⟩ : ∃ x, s[i] = x := ⟨_, rfl⟩
      rw [hx] at hst c0 c1 c2 c3 c4 c5 hTh hPs hp1 hokx hq1
      have hpl63 : (x.preds.length : Int) ≤ 9223372036854775807 := by unfold maxLen at hp2; omega
      have hal63 : (x.head.args.length : Int) ≤ 9223372036854775807 := by unfold maxLen at hq2; omega
      obtain ⟨b8, hb8⟩ : ∃ b8, wx.heap.size = b8 := ⟨_, rfl⟩
      obtain ⟨W8, hW8⟩ : ∃ W8, wx.alloc (.cells #[.string x.cls, .int .i64 x.head.kind, .string x.head.name, .int .i64 x.head.var, .slice A1 x.head.args.length q1, .slice A2 x.preds.length q2] 71) = W8 := ⟨_, rfl⟩
      have hk8 : Keeps (fun _ => False) wx W8 := by rw [← hW8]; exact (Keeps.refl _ _).alloc _
      have hB8 : Blk W8 b8 71 [.string x.cls, .int .i64 x.head.kind, .string x.head.name, .int .i64 x.head.var, .slice A1 x.head.args.length q1, .slice A2 x.preds.length q2] := by rw [← hW8, ← hb8]; exact Blk.new wx _ [_, _, _, _, _, _]
      have hkW8 := hkr.trans hk8 (fun _ _ h => h)
      have hb38 := HB3.out.keeps hkW8 (fun h => h)
      have a0 := hB8.cell (i := 0) rfl
      have a1 := hB8.cell (i := 1) rfl
      have a2 := hB8.cell (i := 2) rfl
      have a4 := hB8.cell (i := 4) rfl
      have a5 := hB8.cell (i := 5) rfl
      have w0 := hb38.cell (i := 0) rfl
      have w1 := hb38.cell (i := 1) rfl
      have w2 := hb38.cell (i := 2) rfl
      have w4 := hb38.cell (i := 4) rfl
      have hbl8 := hB8.lt
      have hbl3 := hb38.lt
      have HNO := Lib.hid (hno.out.trans hst)
      have HX := Lib.hid hTh
      have HPs := Lib.hid (hPs.keeps hk8 (fun _ _ h => h))
      have HHd := Lib.hid (hTh.args.keeps hk8 (fun _ _ h => h))
      have HB8 := Lib.hid hB8
      have HB38 := Lib.hid hb38
      have HW8 := Lib.hid hW8
      have HBn8 := Lib.hid hb8
      have HKW := Lib.hid hkW8
      have HT8 := Lib.hid (HT.out.keeps hkW8 (fun _ _ h => h))
      have HOx := Lib.hid hokx
      have hil : (i : Int) < (s.length : Int) := by omega
      have hi0' : (0 : Int) ≤ (i : Int) := by omega
      clear hst hno hkr hx hTh hPs hB8 hb38 hkW8 hk8 hW8 hb8 hokx hq2 hp2 HKR
      by_cases h1 : x.cls = want.cls
      rotate_left
      · have e1 := str_no h1
        have HE : Hid (instanceP want 0 s = instanceP want (i + 1) (s.drop (i + 1))) := HNO.out.trans (by rw [if_neg (by simp [instHit, h1])])
        clear h1
        go_upto_region 4 with (fail)
        rw [HW8.out, HBn8.out]
        go_wp2_with fail
        go_roundw
        case rel => exact ⟨i + 1, by omega, by go_num, HKW.out, HE.out⟩
        case measure => simp [intOf]; omega
      have e1 := str_yes h1
      by_cases h2 : want.ty.kind = 1
      rotate_left
      · have e2 : (want.ty.kind != 1) = true := by rw [bne_iff_ne]; exact h2
        have HE : Hid (instanceP want 0 s = instanceP want (i + 1) (s.drop (i + 1))) := HNO.out.trans (by rw [if_neg (by simp [instHit, h2])])
        clear h1 h2
        go_upto_region 4 with (fail)
        rw [HW8.out, HBn8.out]
        go_wp2_with fail
        go_roundw
        case rel => exact ⟨i + 1, by omega, by go_num, HKW.out, HE.out⟩
        case measure => simp [intOf]; omega
      have e2 : (want.ty.kind != 1) = false := by rw [h2]; rfl
      by_cases h3 : x.head.name = want.ty.name
      rotate_left
      · have e3 := str_no h3
        have HE : Hid (instanceP want 0 s = instanceP want (i + 1) (s.drop (i + 1))) := HNO.out.trans (by rw [if_neg (by simp [instHit, h3])])
        clear h1 h2 h3
        go_upto_region 4 with (fail)
        rw [HW8.out, HBn8.out]
        go_wp2_with fail
        go_roundw
        case rel => exact ⟨i + 1, by omega, by go_num, HKW.out, HE.out⟩
        case measure => simp [intOf]; omega
      have e3 := str_yes h3
      by_cases h4 : x.head.args.length = want.ty.args.length
      rotate_left
      · have e4 : (x.head.args.length == want.ty.args.length) = false := by rw [beq_eq_false_iff_ne]; exact h4
        have e4' : (x.head.args.length != want.ty.args.length) = true := by rw [bne_iff_ne]; exact h4
        have e4b : ((x.head.args.length : Int) != (want.ty.args.length : Int)) = true := by rw [bne_iff_ne]; omega
        have HE : Hid (instanceP want 0 s = instanceP want (i + 1) (s.drop (i + 1))) := HNO.out.trans (by rw [if_neg (by simp [instHit, h4])])
        clear h1 h2 h3 h4
        go_upto_region 4 with (fail)
        rw [HW8.out, HBn8.out]
        go_wp2_with fail
        go_roundw
        case rel => exact ⟨i + 1, by omega, by go_num, HKW.out, HE.out⟩
        case measure => simp [intOf]; omega
      have e4' : (x.head.args.length != want.ty.args.length) = false := by rw [h4]; simp
      have e4b : ((x.head.args.length : Int) != (want.ty.args.length : Int)) = false := by rw [h4]; simp
      have HE : Hid (instanceP want 0 s = some (i, needsOf x want)) := HNO.out.trans (by rw [if_pos (by simp [instHit, h1, h2, h3, h4])])
      have H4 := Lib.hid h4
      clear h1 h2 h3 h4 HNO
      go_upto_region 4 with (fail)
      rw [HW8.out, HBn8.out]
      go_wp2_with fail
      obtain ⟨bs2, hbs2⟩ : ∃ bs2, W8.heap.size = bs2 := ⟨_, rfl⟩
      have HBS := Lib.hid hbs2
      have hGb : ∀ i, G i → i < bs2 := fun i hi => by have := HG.out i hi; have := HK0.out.size; have := HKW.out.size; omega
      have HGb := Lib.hid hGb
      have hFb : ∀ i, F i → i < bs2 := fun i hi => by have := HF.out i hi; have := HK0.out.size; have := HKW.out.size; omega
      have HFb := Lib.hid hFb
      have hb8s : b8 < bs2 := by omega
      have hb3s : b3 < bs2 := by omega
      clear a0 a1 a2 a4 a5 w0 w1 w2 w4 hbl8 hbl3 hbs2 hGb hFb
      go_loopw [9, 55] (fun ov jv wr => ∃ (j : Nat) (oo : Value) (U : List (Pred × Value)), oo = ov ∧ j ≤ x.preds.length ∧ .int .i64 (j : Int) = jv ∧ In G W8 bs2 (needsAt x want j 0) oo U wr) (fun _ jv _ => x.preds.length - (intOf jv).toNat)
      case atStart => exact ⟨0, _, [], rfl, Nat.zero_le _, rfl, ⟨World.ownsRow_nil _ _ _ _, (fun u hu => by cases hu), Keeps.refl _ _, (needsAt_zero x want).symm⟩⟩
      case round =>
        obtain ⟨j, oo, U, rfl, hj, rfl, hin⟩ := hrel
        obtain ⟨wy, hwy⟩ : ∃ wy, wy = wr := ⟨_, rfl⟩
        rw [← hwy] at hin ⊢
        clear hwy
        by_cases hltj : j < x.preds.length
        · obtain ⟨gp, offp, vp, hadr, hgp, p0, p1, p2, p3, p4, hpc, hTp⟩ := Pred.get (HPs.out.keeps hin.keeps (fun i hi h => by have := HFb.out i hi; omega)) hltj
          obtain rfl := hadr
          obtain ⟨Ap, cp, rfl, _⟩ := hTp.form
          obtain ⟨p, hp⟩ : ∃ p, x.preds[j] = p := ⟨_, rfl⟩
          rw [hp] at p0 p1 p2 p3 p4 hpc
          obtain ⟨b11, hb11⟩ : ∃ b11, wy.heap.size = b11 := ⟨_, rfl⟩
          obtain ⟨W11, hW11⟩ : ∃ W11, wy.alloc (.cells #[.string p.cls, .int .i64 p.ty.kind, .string p.ty.name, .int .i64 p.ty.var, .slice Ap p.ty.args.length cp] 35) = W11 := ⟨_, rfl⟩
          have hk11 : Keeps (fun _ => False) wy W11 := by rw [← hW11]; exact (Keeps.refl _ _).alloc _
          have hB11 : Blk W11 b11 35 [.string p.cls, .int .i64 p.ty.kind, .string p.ty.name, .int .i64 p.ty.var, .slice Ap p.ty.args.length cp] := by rw [← hW11, ← hb11]; exact Blk.new wy _ [_, _, _, _, _]
          have hb8y := HB8.out.keeps hin.keeps (by omega)
          have hb8w := hb8y.keeps hk11 (fun h => h)
          have a4 := hb8w.cell (i := 4) rfl
          have hsz := hin.keeps.size
          have hnb : ¬ oo.ownBlock = some b11 := fun h => by have := (hin.own.lt _ h).2; omega
          have HB11 := Lib.hid hB11
          have HIn := Lib.hid (hin.keeps0 hk11)
          have HW11 := Lib.hid hW11
          have HBn11 := Lib.hid hb11
          have H11L := Lib.hid hB11.lt
          have HPc := Lib.hid hpc
          have HPJ := Lib.hid hp
          have HB8w := Lib.hid hb8w
          have hjl : (j : Int) < (x.preds.length : Int) := by omega
          have hj0 : (0 : Int) ≤ (j : Int) := by omega
          have hbb11 : bs2 ≤ b11 := by have := HBS.out; omega
          have HNB := Lib.hid hnb
          clear hp hin hTp hB11 hk11 hW11 hb11 hb8y hb8w hnb hpc
          go_upto_region 9 with (fail)
          rw [HW11.out, HBn11.out]
          go_wp2_with fail
          clear a4
          go_loopw [9, 63] (fun ov kv wr => ∃ (k : Nat) (oo : Value) (U : List (Pred × Value)), oo = ov ∧ k ≤ x.head.args.length ∧ .int .i64 (k : Int) = kv ∧ In G W8 bs2 (needsAt x want j k) oo U wr ∧ ¬ oo.ownBlock = some b11 ∧ Keeps (fun i => bs2 ≤ i ∧ i ≠ b11) W11 wr) (fun _ kv _ => x.head.args.length - (intOf kv).toNat)
          case atStart => exact ⟨0, _, U, rfl, Nat.zero_le _, rfl, HIn.out, HNB.out, Keeps.refl _ _⟩
          case round =>
            clear HIn HNB
            obtain ⟨k, oo, U, rfl, hk, rfl, hin, hnb, hkw⟩ := hrel
            obtain ⟨wz, hwz⟩ : ∃ wz, wz = wr := ⟨_, rfl⟩
            rw [← hwz] at hin hkw ⊢
            clear hwz
            by_cases hltk : k < x.head.args.length
            · have hltk2 : k < want.ty.args.length := by have := H4.out; omega
              have hst := needsAt_step x want j k hltj hltk hltk2
              rw [HPJ.out] at hst
              obtain ⟨ga, offa, va, hadr, hga, y0, y1, y2, y3, hTy⟩ := tyD.get (HHd.out.keeps hin.keeps (fun i hi h => by have := HFb.out i hi; omega)) hltk
              obtain rfl := hadr
              obtain ⟨Ay, cy, rfl, _⟩ := hTy.form
              obtain ⟨y, hy⟩ : ∃ y, x.head.args[k] = y := ⟨_, rfl⟩
              rw [hy] at hst y0 y1 y2 y3
              obtain ⟨b13, hb13⟩ : ∃ b13, wz.heap.size = b13 := ⟨_, rfl⟩
              obtain ⟨W13, hW13⟩ : ∃ W13, wz.alloc (.cells #[.int .i64 y.kind, .string y.name, .int .i64 y.var, .slice Ay y.args.length cy] 24) = W13 := ⟨_, rfl⟩
              have hk13 : Keeps (fun _ => False) wz W13 := by rw [← hW13]; exact (Keeps.refl _ _).alloc _
              have hB13 : Blk W13 b13 24 [.int .i64 y.kind, .string y.name, .int .i64 y.var, .slice Ay y.args.length cy] := by rw [← hW13, ← hb13]; exact Blk.new wz _ [_, _, _, _]
              have hk113 := hkw.trans hk13 (fun _ _ h => h.elim)
              have hB11w := HB11.out.keeps hk113 (fun h => h.2 rfl)
              have hB3w := (HB38.out.keeps hin.keeps (by omega)).keeps hk13 (fun h => h)
              have hTz := (HT8.out.keeps hin.keeps (fun i hi h => by have := HGb.out i hi; omega))
              obtain ⟨gt, offt, vt, hadrt, hgt, t0, t1, t2, t3, hTt⟩ := tyD.get (hTz.keeps hk13 (fun _ _ h => h)).args hltk2
              obtain rfl := hadrt
              obtain ⟨At, ct, rfl, _⟩ := hTt.form
              have x13 := hB13.cell (i := 2) rfl
              have z0 := hB11w.cell (i := 0) rfl
              have z3 := hB11w.cell (i := 3) rfl
              have z4 := hB3w.cell (i := 4) rfl
              have hl13 := hB13.lt
              have hkl : (k : Int) < (x.head.args.length : Int) := by omega
              have hkl2 : (k : Int) < (want.ty.args.length : Int) := by omega
              have hk0 : (0 : Int) ≤ (k : Int) := by omega
              have HW13 := Lib.hid hW13
              have HBn13 := Lib.hid hb13
              obtain ⟨t, htt⟩ : ∃ t, want.ty.args[k] = t := ⟨_, rfl⟩
              rw [htt] at hst t0 t1 t2 t3 hTt
              obtain ⟨Ao, co, rfl⟩ := own_slform hin.own
              have hgt' : gt < bs2 := HGb.out gt hgt
              have hlen : U.length = (needsAt x want j k).length := by rw [← hin.eq, List.length_map]
              have hnl := needsAt_len x want H4.out j (k + 1) hltj (by omega)
              have hnl2 := needs_len HOx.out.1 want
              have hnl3 := HOx.out.2
              have HIN := Lib.hid hin
              have HK13 := Lib.hid hk13
              have HK113 := Lib.hid hk113
              have HTt := Lib.hid (show (∀ i, G i → i < bs2) ∧ TyC W13 G t (.slice At t.args.length ct) from ⟨HGb.out, hTt⟩)
              by_cases hyp : y.var = p.ty.var
              · have ey : (y.var == p.ty.var) = true := by rw [beq_iff_eq]; exact hyp
                rw [if_pos hyp] at hst
                have hls : (needsAt x want j (k + 1)).length = U.length + 1 := by rw [hst, List.length_append, hlen]; rfl
                have HST := Lib.hid hst
                have hul : ∀ i, (Value.slice Ao U.length co).ownBlock = some i → bs2 ≤ i ∧ i ≠ b11 := fun i hi => ⟨(hin.own.lt i hi).1, fun e => hnb (by rw [← e]; exact hi)⟩
                have HUL : Hid (∀ i, (Value.slice Ao U.length co).ownBlock = some i → bs2 ≤ i ∧ i ≠ b11) := hul
                have hQ : Hid (∀ X, Keeps (fun i => bs2 ≤ i ∧ i ≠ b11) W13 X → (X.cell? ⟨b11, 0, none⟩ = some (.string p.cls) ∧ X.cell? ⟨b3, 4, none⟩ = some (.slice (some ⟨gt, offt, none⟩) want.ty.args.length c) ∧ X.cell? ⟨gt, offt + k * 4, none⟩ = some (.int .i64 t.kind) ∧ X.cell? ⟨gt, offt + k * 4 + 1, none⟩ = some (.string t.name) ∧ X.cell? ⟨gt, offt + k * 4 + 2, none⟩ = some (.int .i64 t.var) ∧ X.cell? ⟨gt, offt + k * 4 + 3, none⟩ = some (.slice At t.args.length ct))) := fun X hb =>
                  ⟨hb.cell z0 (fun h => h.2 rfl), hb.cell z4 (fun h => by have h1 : bs2 ≤ b3 := h.1; omega), hb.cell t0 (fun h => by have h1 : bs2 ≤ gt := h.1; omega), hb.cell t1 (fun h => by have h1 : bs2 ≤ gt := h.1; omega), hb.cell t2 (fun h => by have h1 : bs2 ≤ gt := h.1; omega), hb.cell t3 (fun h => by have h1 : bs2 ≤ gt := h.1; omega)⟩
                have HUOwn := Lib.hid (own_keeps hin.own hk13 (fun _ _ h => h))
                have HMq : Hid (U.length + 1 ≤ maxLen) := by show _ ≤ _; unfold maxLen; omega
                have HBq : Hid ((U.length + 1) * 72 ≤ 140737488355328) := by show _ ≤ _; omega
                have HBZ : Hid (bs2 ≤ W13.heap.size) := by show _ ≤ _; have := hin.keeps.size; have := hk13.size; have := HBS.out; omega
                clear hst hls hlen hnl hnl2 hnl3 htt hTt hTz hTy hy hin hk13 hk113 hB13 hB11w hB3w hb13 hW13 hul hkw hyp t0 t1 t2 t3 hnb
                go_upto_region 12 with (fail)
                rw [HW13.out, HBn13.out]
                go_wp2_with fail
                refine wp_region_noPanic ?_
                refine wp_region_till [] (fun X => X.cell? ⟨b11, 0, none⟩ = some (.string p.cls) ∧ X.cell? ⟨b3, 4, none⟩ = some (.slice (some ⟨gt, offt, none⟩) want.ty.args.length c) ∧ X.cell? ⟨gt, offt + k * 4, none⟩ = some (.int .i64 t.kind) ∧ X.cell? ⟨gt, offt + k * 4 + 1, none⟩ = some (.string t.name) ∧ X.cell? ⟨gt, offt + k * 4 + 2, none⟩ = some (.int .i64 t.var) ∧ X.cell? ⟨gt, offt + k * 4 + 3, none⟩ = some (.slice At t.args.length ct)) (by kernel_rfl) ?_ (fun hE => ?_)
                · first | exact hQ.out _ (hk1.mono (fun i _ h => HUL.out i h)) | exact hQ.out _ (Keeps.mono (show Keeps (fun _ => False) W13 _ from (by repeat (first | (with_reducible assumption) | (with_reducible exact Keeps.refl _ _) | (with_reducible refine Keeps.drewN ?_ _) | (with_reducible refine Keeps.drew ?_) | with_reducible refine Keeps.setCell ?_ (by first | (intro _; exact rfl) | (intro _; exact Or.inl rfl) | (intro _; exact Or.inr rfl) | (simp; done) | (simp; omega)) _ | (with_reducible refine Keeps.alloc ?_ _)))) (fun _ _ h => h.elim))
                have hS := hE (by kernel_rfl)
                refine wpAnyT_pure (i := 0) (oi := { dst := some 74, op := Op.move (Operand.tmp 9), type := 36, pos := "classes.go:129", after := #[], guard := none }) (v := ?v13_0_1) rfl (by kernel_rfl) (fun _ _ _ h => h) (Or.inl ⟨by rfl, ?y13_0_1⟩) (fun _ => hS) ?_
                case y13_0_1 => (intro w hSw; go_simp; try with_reducible rfl)
                try simp only [Act.put, List.setIfInBounds_toArray, List.set_cons_zero, List.set_cons_succ]
                refine wpAnyT_pure (i := 1) (oi := { dst := some 75, op := Op.fieldAddr 35 (Operand.tmp 11) 0, type := 0, pos := "classes.go:129", after := #[], guard := none }) (v := ?v13_1_2) rfl (by kernel_rfl) (fun _ _ _ h => h) (Or.inl ⟨by rfl, ?y13_1_2⟩) (fun _ => hS) ?_
                case y13_1_2 => (intro w hSw; go_simp; try with_reducible rfl)
                try simp only [Act.put, List.setIfInBounds_toArray, List.set_cons_zero, List.set_cons_succ]
                refine wpAnyT_take (i := 2) (oi := { dst := some 76, op := Op.load 9 (Operand.tmp 75), type := 9, pos := "classes.go:129", after := #[⟨1, .data⟩], guard := none }) (v := ?v13_2_3) rfl (by kernel_rfl) (fun _ _ _ h => h) (Or.inl ⟨by rfl, ?y13_2_3⟩) hS ?_
                case y13_2_3 => (intro w hSw; (try dsimp only at hSw); go_simp; try with_reducible rfl)
                try simp only [Act.put, List.setIfInBounds_toArray, List.set_cons_zero, List.set_cons_succ]
                refine wpAnyT_pure (i := 3) (oi := { dst := some 77, op := Op.fieldAddr 35 (Operand.tmp 3) 1, type := 0, pos := "classes.go:129", after := #[], guard := none }) (v := ?v13_3_4) rfl (by kernel_rfl) (fun _ _ _ h => h) (Or.inl ⟨by rfl, ?y13_3_4⟩) (fun _ => hS) ?_
                case y13_3_4 => (intro w hSw; go_simp; try with_reducible rfl)
                try simp only [Act.put, List.setIfInBounds_toArray, List.set_cons_zero, List.set_cons_succ]
                refine wpAnyT_pure (i := 4) (oi := { dst := some 78, op := Op.fieldAddr 24 (Operand.tmp 77) 3, type := 0, pos := "classes.go:129", after := #[⟨3, .data⟩], guard := none }) (v := ?v13_4_5) rfl (by kernel_rfl) (fun _ _ _ h => h) (Or.inl ⟨by rfl, ?y13_4_5⟩) (fun _ => hS) ?_
                case y13_4_5 => (intro w hSw; go_simp; try with_reducible rfl)
                try simp only [Act.put, List.setIfInBounds_toArray, List.set_cons_zero, List.set_cons_succ]
                refine wpAnyT_take (i := 5) (oi := { dst := some 79, op := Op.load 22 (Operand.tmp 78), type := 22, pos := "classes.go:129", after := #[⟨4, .data⟩], guard := none }) (v := ?v13_5_6) rfl (by kernel_rfl) (fun _ _ _ h => h) (Or.inl ⟨by rfl, ?y13_5_6⟩) hS ?_
                case y13_5_6 => (intro w hSw; (try dsimp only at hSw); go_simp; try with_reducible rfl)
                try simp only [Act.put, List.setIfInBounds_toArray, List.set_cons_zero, List.set_cons_succ]
                refine wpAnyT_pure (i := 6) (oi := { dst := some 80, op := Op.move (Operand.tmp 12), type := 3, pos := "classes.go:129", after := #[], guard := none }) (v := ?v13_6_7) rfl (by kernel_rfl) (fun _ _ _ h => h) (Or.inl ⟨by rfl, ?y13_6_7⟩) (fun _ => hS) ?_
                case y13_6_7 => (intro w hSw; go_simp; try with_reducible rfl)
                try simp only [Act.put, List.setIfInBounds_toArray, List.set_cons_zero, List.set_cons_succ]
                refine wpAnyT_pure (i := 7) (oi := { dst := some 81, op := Op.indexAddr 22 (Operand.tmp 79) (Operand.tmp 80), type := 0, pos := "classes.go:129", after := #[⟨5, .data⟩, ⟨6, .data⟩], guard := none }) (v := ?v13_7_8) rfl (by kernel_rfl) (fun _ _ _ h => h) (Or.inl ⟨by rfl, ?y13_7_8⟩) (fun _ => hS) ?_
                case y13_7_8 => (intro w hSw; go_simp; try with_reducible rfl)
                try simp only [Act.put, List.setIfInBounds_toArray, List.set_cons_zero, List.set_cons_succ]
                refine wpAnyT_take (i := 8) (oi := { dst := some 82, op := Op.load 24 (Operand.tmp 81), type := 24, pos := "classes.go:129", after := #[⟨7, .data⟩], guard := none }) (v := ?v13_8_9) rfl (by kernel_rfl) (fun _ _ _ h => h) (Or.inl ⟨by rfl, ?y13_8_9⟩) hS ?_
                case y13_8_9 => (intro w hSw; (try dsimp only at hSw); go_simp; try with_reducible rfl)
                try simp only [Act.put, List.setIfInBounds_toArray, List.set_cons_zero, List.set_cons_succ]
                refine wpAnyT_pure (i := 9) (oi := { dst := some 83, op := Op.build 35 #[(0, Operand.tmp 76), (1, Operand.tmp 82)], type := 35, pos := "classes.go:129", after := #[⟨2, .data⟩, ⟨8, .data⟩], guard := none }) (v := ?v13_9_10) rfl (by kernel_rfl) (fun _ _ _ h => h) (Or.inl ⟨by rfl, ?y13_9_10⟩) (fun _ => hS) ?_
                case y13_9_10 => (intro w hSw; go_simp; try with_reducible rfl)
                try simp only [Act.put, List.setIfInBounds_toArray, List.set_cons_zero, List.set_cons_succ]
                refine wpAnyT_ready (rs := [10]) (by kernel_rfl) rfl ?_
                refine AllT.cons (o := { dst := some 84, op := Op.buildSlice 36 1 #[(0, Operand.tmp 83)], type := 36, pos := "classes.go:129", after := #[⟨9, .data⟩], guard := none }) rfl (fun K hK => ?_) ?_
                · go_simp
                  refine hK.out _ _ (fun _ => ?_) (fun hE => ?_)
                  · first | exact hQ.out _ (hk1.mono (fun i _ h => HUL.out i h)) | exact hQ.out _ (Keeps.mono (show Keeps (fun _ => False) W13 _ from (by repeat (first | (with_reducible assumption) | (with_reducible exact Keeps.refl _ _) | (with_reducible refine Keeps.drewN ?_ _) | (with_reducible refine Keeps.drew ?_) | with_reducible refine Keeps.setCell ?_ (by first | (intro _; exact rfl) | (intro _; exact Or.inl rfl) | (intro _; exact Or.inr rfl) | (simp; done) | (simp; omega)) _ | (with_reducible refine Keeps.alloc ?_ _)))) (fun _ _ h => h.elim))
                  have hS := hE (by kernel_rfl)
                  clear hK K hE
                  try simp only [Act.put, List.setIfInBounds_toArray, List.set_cons_zero, List.set_cons_succ]
                  refine wpAnyT_ready (rs := [11]) (by kernel_rfl) rfl ?_
                  refine AllT.cons (o := { dst := some 85, op := Op.call { callee := Callee.builtin Builtin.append, args := #[Operand.tmp 74, Operand.tmp 84], argTypes := #[36, 36] }, type := 36, pos := "classes.go:129", after := #[⟨0, .data⟩, ⟨10, .data⟩], guard := none }) rfl (fun K hK => ?_) ?_
                  · (refine step_append_kept2 (W0 := W13) rfl (.tmp 74) (.tmp 84) 36 rfl bs2 35 i0 _ 5 72 Tryd.underlying36 hi0 hz0 hz1 hz2 rfl (by decide) (.slice Ao U.length co) U.length (U.flatMap prCells) rfl HUOwn.out (by repeat (first | (with_reducible assumption) | with_reducible exact Keeps.refl _ _ | with_reducible refine Keeps.drew ?_ | with_reducible refine Keeps.alloc ?_ _)) _ _ #[.string p.cls, .int .i64 t.kind, .string t.name, .int .i64 t.var, .slice At t.args.length ct] rfl rfl (by first | exact heap_new_at (by simp) | exact heap_up (heap_new_at (by simp)) _) (by simp [Value.oneCell']) HMq.out HBq.out HBZ.out ?_; intro g1 cap1 w6 hown1 hk1 hkp1 hat1)
                    refine hK.out _ _ (fun _ => ?_) (fun hE => ?_)
                    · first | exact hQ.out _ (hk1.mono (fun i _ h => HUL.out i h)) | exact hQ.out _ (Keeps.mono (show Keeps (fun _ => False) W13 _ from (by repeat (first | (with_reducible assumption) | (with_reducible exact Keeps.refl _ _) | (with_reducible refine Keeps.drewN ?_ _) | (with_reducible refine Keeps.drew ?_) | with_reducible refine Keeps.setCell ?_ (by first | (intro _; exact rfl) | (intro _; exact Or.inl rfl) | (intro _; exact Or.inr rfl) | (simp; done) | (simp; omega)) _ | (with_reducible refine Keeps.alloc ?_ _)))) (fun _ _ h => h.elim))
                    have hS := hE (by kernel_rfl)
                    clear hK K hE
                    try simp only [Act.put, List.setIfInBounds_toArray, List.set_cons_zero, List.set_cons_succ]
                    refine wpAnyT_ready (rs := [12]) (by kernel_rfl) rfl ?_
                    refine AllT.cons (o := { dst := some 9, op := Op.assign (Operand.tmp 85), type := 36, pos := "classes.go:129", after := #[⟨11, .data⟩, ⟨11, .chain⟩, ⟨0, .phase⟩, ⟨1, .phase⟩, ⟨2, .phase⟩, ⟨3, .phase⟩, ⟨4, .phase⟩, ⟨5, .phase⟩, ⟨6, .phase⟩, ⟨7, .phase⟩, ⟨8, .phase⟩, ⟨9, .phase⟩, ⟨10, .phase⟩, ⟨11, .phase⟩], guard := none }) rfl (fun K hK => ?_) ?_
                    · go_simp
                      refine hK.out _ _ (fun _ => ?_) (fun hE => ?_)
                      · first | exact hQ.out _ (hk1.mono (fun i _ h => HUL.out i h)) | exact hQ.out _ (Keeps.mono (show Keeps (fun _ => False) W13 _ from (by repeat (first | (with_reducible assumption) | (with_reducible exact Keeps.refl _ _) | (with_reducible refine Keeps.drewN ?_ _) | (with_reducible refine Keeps.drew ?_) | with_reducible refine Keeps.setCell ?_ (by first | (intro _; exact rfl) | (intro _; exact Or.inl rfl) | (intro _; exact Or.inr rfl) | (simp; done) | (simp; omega)) _ | (with_reducible refine Keeps.alloc ?_ _)))) (fun _ _ h => h.elim))
                      have hS := hE (by kernel_rfl)
                      clear hK K hE
                      try simp only [Act.put, List.setIfInBounds_toArray, List.set_cons_zero, List.set_cons_succ]
                      refine wpAnyT_done (by kernel_rfl) ?_ _
                      refine NoPanic.normal ?_
                      have hK1 : Keeps (fun i => bs2 ≤ i) W13 w6 := hk1.mono (fun i _ h => (HUL.out i h).1)
                      have HK2 : Hid (Keeps (fun i => bs2 ≤ i ∧ i ≠ b11) W11 w6) := HK113.out.trans (hk1.mono (Y := fun i => bs2 ≤ i ∧ i ≠ b11) (fun i _ h => HUL.out i h)) (fun _ _ h => h)
                      have HG1 : Hid (¬ (Value.slice (some ⟨g1, 0, none⟩) (U.length + 1) cap1).ownBlock = some b11) := fun h => by
                        have e : g1 = b11 := by simpa [Value.ownBlock] using h
                        rcases hat1 with h2 | h2
                        · exact (HUL.out g1 h2).2 e
                        · have := H11L.out; have := HK113.out.size; (try simp at h2); omega
                      have HNX := Lib.hid (in_next HIN.out HK13.out hK1 (by exact hown1) HTt.out HPc.out HST.out)
                      clear hk1 hkp1 hat1 hown1 hK1 hS
                      go_wp2_with fail
                      go_roundw
                      case rel => exact ⟨k + 1, _, U ++ [(⟨p.cls, t⟩, .slice At t.args.length ct)], rfl, by omega, by go_num, HNX.out, HG1.out, HK2.out⟩
                      case measure => simp [intOf]; omega
                    exact AllT.nil
                  exact AllT.nil
                exact AllT.nil
              · have ey : (y.var == p.ty.var) = false := by rw [beq_eq_false_iff_ne]; exact hyp
                rw [if_neg hyp, List.append_nil] at hst
                have HST := Lib.hid hst
                have HKW2 := Lib.hid hk113
                have HNB := Lib.hid hnb
                have HIN2 := Lib.hid (hin.keeps0 hk13)
                clear hst hlen hnl hnl2 hnl3 htt hTt hTz hTy hy hin hk13 hk113 hB13 hB11w hB3w hb13 hW13 hkw hyp t0 t1 t2 t3 hnb
                go_upto_region 12 with (fail)
                rw [HW13.out, HBn13.out]
                go_wp2_with fail
                go_roundw
                case rel => exact ⟨k + 1, _, U, rfl, by omega, by go_num, by rw [HST.out]; exact HIN2.out, HNB.out, HKW2.out⟩
                case measure => simp [intOf]; omega
            · obtain rfl : k = x.head.args.length := by omega
              have hkl : ¬ (x.head.args.length : Int) < (x.head.args.length : Int) := by omega
              have HEQ := Lib.hid (needsAt_end x want H4.out j hltj)
              have HIN := Lib.hid hin
              clear hin hkw
              go_wp2_with fail
              go_roundw
              case rel => exact ⟨j + 1, _, U, rfl, by omega, by go_num, by rw [← HEQ.out]; exact HIN.out⟩
              case measure => simp [intOf]; omega
        · obtain rfl : j = x.preds.length := by omega
          have hjl : ¬ (x.preds.length : Int) < (x.preds.length : Int) := by omega
          obtain ⟨Ao, co, rfl⟩ := own_slform hin.own
          have HIn := Lib.hid hin
          clear hin
          go_wp2_with fail
          go_ret3
          have hu : U.length = (needsOf x want).length := by rw [← needsAt_all, ← HIn.out.eq, List.length_map]
          refine ⟨(HK0.out.trans HKW.out (fun _ _ h => h)).trans (Keeps.of_below (X := fun _ => False) (HIn.out.keeps.below (B := W8.heap.size) (fun i h => by have := HBS.out; omega) (Nat.le_refl _))) (fun _ _ h => h), .inl ⟨i, needsOf x want, Ao, co, HE.out, by rw [hu]; rfl, ?_⟩⟩
          have h1 := Sl.of_own (f := Pred.d) (l := U.map Prod.fst) (F := G) (G := fun b => (G b ∨ W.heap.size ≤ b) ∧ b < wy.heap.size) HIn.out.own (List.length_map _).symm (pr_rp HIn.out.each) (fun b hb => ⟨.inl hb, by have := HGb.out b hb; have := HIn.out.keeps.size; have := HBS.out; omega⟩) (fun b hb => by have hq := HIn.out.own.lt b hb; have := HK0.out.size; have := HKW.out.size; have := HBS.out; exact ⟨.inr (by omega), hq.2⟩)
          rw [HIn.out.eq, needsAt_all, hu] at h1
          exact h1
    · have hd : s.drop i = [] := List.drop_eq_nil_of_le (by omega)
      have HE : Hid (instanceP want 0 s = none) := by show _ = _; rw [hno.out, hd, instanceP]
      have hil : ¬ (i : Int) < (s.length : Int) := by omega
      clear hd hno hkr
      go_wp2_with fail
      go_ret3
      exact ⟨HK0.out.trans HKR.out (fun _ _ h => h), .inr ⟨HE.out, rfl⟩⟩
end Go.Proofs.YtdljlpogljjldaaDoor
