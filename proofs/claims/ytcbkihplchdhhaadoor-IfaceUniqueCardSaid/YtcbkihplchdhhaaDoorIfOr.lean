/- iface.ordered and iface.ranges. -/
import Derived.Test.YtcbkihplchdhhaaDoorIfO
namespace Go.Proofs.YtcbkihplchdhhaaDoor
open Go.RowKit Go.Shelf


set_option maxHeartbeats 400000 in
theorem fixSigIndexFunc (l : List FixSig) (v : Value) (F : Nat → Prop) (w : World) (hv : Sl w F FixSig.d l v) (m : FuncId) (cap : Array Value) (p : FixSig → Bool)
    (eg : Enters Tryd.prog m) (hc : ∀ i (h : i < l.length) cs w1, Below w.heap.size w w1 → Rp w1 F (FixSig.d l[i]) cs → Calls Tryd.prog m (#[.agg cs.toArray] ++ cap) w1 fun e w' => e = .returned (.bool (p l[i])) ∧ Below w1.heap.size w1 w') :
    Calls Tryd.prog 87 #[v, .func (.func m) #[] cap] w fun e w' => e = .returned (.int .i64 (idxInt p l)) ∧ Below w.heap.size w w' := by
  obtain ⟨A, c, rfl, hlc, hcm, _⟩ := hv.form
  have hl : l.length ≤ 9223372036854775807 := by unfold maxLen at hcm; omega
  have HC := Lib.hid hc
  clear hc
  unfold Enters at eg
  go_enter Tryd.func87, Tryd.ntmps87
  go_wp2
  go_loopw [5, 8] (fun _ i wr => ∃ k : Nat, k ≤ l.length ∧ i = .int .i64 k ∧ Below w.heap.size w wr ∧ Hid (idxInt p l = idxFrom p (l.drop k) k)) (fun _ i _ => l.length - (intOf i).toNat)
  case atStart => exact ⟨0, Nat.zero_le _, rfl, Below.refl _ _, rfl⟩
  case round =>
    obtain ⟨k, hk, rfl, hb, hno⟩ := hrel
    by_cases hlt : k < l.length
    · have hv' := hv.later hb
      obtain ⟨g, off, rfl, hF, c0, c1, c2, s0, s1, s2⟩ := FixSig.get hv' hlt
      have HN := Lib.hid (HC.out k hlt [.string l[k].op, .int .i64 l[k].side, .int .i64 l[k].level] _ hb (FixSig.rp.2 ⟨rfl, s0, s1, s2⟩))
      have hst := idxFrom_step p l k hlt
      cases hp : p l[k]
      · have HE := Lib.hid (hno.out.trans (hst.1 hp))
        rw [hp] at HN
        clear hst hp
        go_wp2_with fail
        refine HN.out.mono ?_
        rintro e w1 ⟨rfl, hb1⟩
        go_wp2
        go_roundw
        case rel => exact ⟨k + 1, by omega, by go_num, hb.trans (hb1.mono hb.size), HE.out⟩
        case measure => simp [intOf]; omega
      · have HE := Lib.hid (hno.out.trans (hst.2 hp))
        rw [hp] at HN
        clear hst hp
        go_wp2_with fail
        refine HN.out.mono ?_
        rintro e w1 ⟨rfl, hb1⟩
        go_wp2
        go_ret
        exact ⟨ret_int HE.out.symm, hb.trans (hb1.mono hb.size)⟩
    · have HE := Lib.hid (hno.out.trans (idxFrom_end p l k (by omega)))
      go_wp2
      go_ret
      exact ⟨ret_int HE.out.symm, hb⟩

set_option maxHeartbeats 400000 in
theorem fixSigContainsFunc (l : List FixSig) (v : Value) (F : Nat → Prop) (w : World) (hv : Sl w F FixSig.d l v) (m : FuncId) (cap : Array Value) (p : FixSig → Bool)
    (eg : Enters Tryd.prog m) (hc : ∀ i (h : i < l.length) cs w1, Below w.heap.size w w1 → Rp w1 F (FixSig.d l[i]) cs → Calls Tryd.prog m (#[.agg cs.toArray] ++ cap) w1 fun e w' => e = .returned (.bool (p l[i])) ∧ Below w1.heap.size w1 w') :
    Calls Tryd.prog 59 #[v, .func (.func m) #[] cap] w fun e w' => e = .returned (.bool (l.any p)) ∧ Below w.heap.size w w' := by
  have HN := Lib.hid (fixSigIndexFunc l v F w hv m cap p eg hc)
  clear hc hv
  have HE := Lib.hid (idxInt_any p l)
  clear eg
  go_enter Tryd.func59, Tryd.ntmps59
  go_wp2_with fail
  refine HN.out.mono ?_
  rintro e w1 ⟨rfl, hb1⟩
  go_wp2
  go_ret
  exact ⟨ret_bool (by rw [HE.out]), hb1⟩


set_option maxHeartbeats 400000 in
theorem dataSigIndexFunc (l : List DataSig) (v : Value) (F : Nat → Prop) (w : World) (hv : Sl w F DataSig.d l v) (m : FuncId) (cap : Array Value) (p : DataSig → Bool)
    (eg : Enters Tryd.prog m) (hc : ∀ i (h : i < l.length) cs w1, Below w.heap.size w w1 → Rp w1 F (DataSig.d l[i]) cs → Calls Tryd.prog m (#[.agg cs.toArray] ++ cap) w1 fun e w' => e = .returned (.bool (p l[i])) ∧ Below w1.heap.size w1 w') :
    Calls Tryd.prog 88 #[v, .func (.func m) #[] cap] w fun e w' => e = .returned (.int .i64 (idxInt p l)) ∧ Below w.heap.size w w' := by
  obtain ⟨A, c, rfl, hlc, hcm, _⟩ := hv.form
  have hl : l.length ≤ 9223372036854775807 := by unfold maxLen at hcm; omega
  have HC := Lib.hid hc
  clear hc
  unfold Enters at eg
  go_enter Tryd.func88, Tryd.ntmps88
  go_wp2
  go_loopw [5, 8] (fun _ i wr => ∃ k : Nat, k ≤ l.length ∧ i = .int .i64 k ∧ Below w.heap.size w wr ∧ Hid (idxInt p l = idxFrom p (l.drop k) k)) (fun _ i _ => l.length - (intOf i).toNat)
  case atStart => exact ⟨0, Nat.zero_le _, rfl, Below.refl _ _, rfl⟩
  case round =>
    obtain ⟨k, hk, rfl, hb, hno⟩ := hrel
    by_cases hlt : k < l.length
    · have hv' := hv.later hb
      obtain ⟨g, off, v2, rfl, hF, c0, c1, c2, s0, s1, s2⟩ := DataSig.get hv' hlt
      have HN := Lib.hid (HC.out k hlt [.string l[k].name, .int .i64 l[k].params, v2] _ hb (DataSig.rp.2 ⟨_, rfl, s0, s1, s2⟩))
      have hst := idxFrom_step p l k hlt
      cases hp : p l[k]
      · have HE := Lib.hid (hno.out.trans (hst.1 hp))
        rw [hp] at HN
        clear hst hp
        go_wp2_with fail
        refine HN.out.mono ?_
        rintro e w1 ⟨rfl, hb1⟩
        go_wp2
        go_roundw
        case rel => exact ⟨k + 1, by omega, by go_num, hb.trans (hb1.mono hb.size), HE.out⟩
        case measure => simp [intOf]; omega
      · have HE := Lib.hid (hno.out.trans (hst.2 hp))
        rw [hp] at HN
        clear hst hp
        go_wp2_with fail
        refine HN.out.mono ?_
        rintro e w1 ⟨rfl, hb1⟩
        go_wp2
        go_ret
        exact ⟨ret_int HE.out.symm, hb.trans (hb1.mono hb.size)⟩
    · have HE := Lib.hid (hno.out.trans (idxFrom_end p l k (by omega)))
      go_wp2
      go_ret
      exact ⟨ret_int HE.out.symm, hb⟩

set_option maxHeartbeats 400000 in
theorem dataSigContainsFunc (l : List DataSig) (v : Value) (F : Nat → Prop) (w : World) (hv : Sl w F DataSig.d l v) (m : FuncId) (cap : Array Value) (p : DataSig → Bool)
    (eg : Enters Tryd.prog m) (hc : ∀ i (h : i < l.length) cs w1, Below w.heap.size w w1 → Rp w1 F (DataSig.d l[i]) cs → Calls Tryd.prog m (#[.agg cs.toArray] ++ cap) w1 fun e w' => e = .returned (.bool (p l[i])) ∧ Below w1.heap.size w1 w') :
    Calls Tryd.prog 61 #[v, .func (.func m) #[] cap] w fun e w' => e = .returned (.bool (l.any p)) ∧ Below w.heap.size w w' := by
  have HN := Lib.hid (dataSigIndexFunc l v F w hv m cap p eg hc)
  clear hc hv
  have HE := Lib.hid (idxInt_any p l)
  clear eg
  go_enter Tryd.func61, Tryd.ntmps61
  go_wp2_with fail
  refine HN.out.mono ?_
  rintro e w1 ⟨rfl, hb1⟩
  go_wp2
  go_ret
  exact ⟨ret_bool (by rw [HE.out]), hb1⟩


set_option maxHeartbeats 400000 in
theorem valSigIndexFunc (l : List ValSig) (v : Value) (F : Nat → Prop) (w : World) (hv : Sl w F ValSig.d l v) (m : FuncId) (cap : Array Value) (p : ValSig → Bool)
    (eg : Enters Tryd.prog m) (hc : ∀ i (h : i < l.length) cs w1, Below w.heap.size w w1 → Rp w1 F (ValSig.d l[i]) cs → Calls Tryd.prog m (#[.agg cs.toArray] ++ cap) w1 fun e w' => e = .returned (.bool (p l[i])) ∧ Below w1.heap.size w1 w') :
    Calls Tryd.prog 89 #[v, .func (.func m) #[] cap] w fun e w' => e = .returned (.int .i64 (idxInt p l)) ∧ Below w.heap.size w w' := by
  obtain ⟨A, c, rfl, hlc, hcm, _⟩ := hv.form
  have hl : l.length ≤ 9223372036854775807 := by unfold maxLen at hcm; omega
  have HC := Lib.hid hc
  clear hc
  unfold Enters at eg
  go_enter Tryd.func89, Tryd.ntmps89
  go_wp2
  go_loopw [5, 8] (fun _ i wr => ∃ k : Nat, k ≤ l.length ∧ i = .int .i64 k ∧ Below w.heap.size w wr ∧ Hid (idxInt p l = idxFrom p (l.drop k) k)) (fun _ i _ => l.length - (intOf i).toNat)
  case atStart => exact ⟨0, Nat.zero_le _, rfl, Below.refl _ _, rfl⟩
  case round =>
    obtain ⟨k, hk, rfl, hb, hno⟩ := hrel
    by_cases hlt : k < l.length
    · have hv' := hv.later hb
      obtain ⟨g, off, v2, v3, rfl, hF, c0, c1, c2, c3, c4, c5, c6, s0, s1, s2, s3⟩ := ValSig.get hv' hlt
      have HN := Lib.hid (HC.out k hlt [.string l[k].name, .int .i64 l[k].vars, v2, .int .i64 l[k].ty.kind, .string l[k].ty.name, .int .i64 l[k].ty.var, v3] _ hb (ValSig.rp.2 ⟨_, _, rfl, s0, s1, s2, s3⟩))
      have hst := idxFrom_step p l k hlt
      cases hp : p l[k]
      · have HE := Lib.hid (hno.out.trans (hst.1 hp))
        rw [hp] at HN
        clear hst hp
        go_wp2_with fail
        refine HN.out.mono ?_
        rintro e w1 ⟨rfl, hb1⟩
        go_wp2
        go_roundw
        case rel => exact ⟨k + 1, by omega, by go_num, hb.trans (hb1.mono hb.size), HE.out⟩
        case measure => simp [intOf]; omega
      · have HE := Lib.hid (hno.out.trans (hst.2 hp))
        rw [hp] at HN
        clear hst hp
        go_wp2_with fail
        refine HN.out.mono ?_
        rintro e w1 ⟨rfl, hb1⟩
        go_wp2
        go_ret
        exact ⟨ret_int HE.out.symm, hb.trans (hb1.mono hb.size)⟩
    · have HE := Lib.hid (hno.out.trans (idxFrom_end p l k (by omega)))
      go_wp2
      go_ret
      exact ⟨ret_int HE.out.symm, hb⟩

set_option maxHeartbeats 400000 in
theorem valSigContainsFunc (l : List ValSig) (v : Value) (F : Nat → Prop) (w : World) (hv : Sl w F ValSig.d l v) (m : FuncId) (cap : Array Value) (p : ValSig → Bool)
    (eg : Enters Tryd.prog m) (hc : ∀ i (h : i < l.length) cs w1, Below w.heap.size w w1 → Rp w1 F (ValSig.d l[i]) cs → Calls Tryd.prog m (#[.agg cs.toArray] ++ cap) w1 fun e w' => e = .returned (.bool (p l[i])) ∧ Below w1.heap.size w1 w') :
    Calls Tryd.prog 63 #[v, .func (.func m) #[] cap] w fun e w' => e = .returned (.bool (l.any p)) ∧ Below w.heap.size w w' := by
  have HN := Lib.hid (valSigIndexFunc l v F w hv m cap p eg hc)
  clear hc hv
  have HE := Lib.hid (idxInt_any p l)
  clear eg
  go_enter Tryd.func63, Tryd.ntmps63
  go_wp2_with fail
  refine HN.out.mono ?_
  rintro e w1 ⟨rfl, hb1⟩
  go_wp2
  go_ret
  exact ⟨ret_bool (by rw [HE.out]), hb1⟩


set_option maxHeartbeats 400000 in
theorem classSigIndexFunc (l : List ClassSig) (v : Value) (F : Nat → Prop) (w : World) (hv : Sl w F ClassSig.d l v) (m : FuncId) (cap : Array Value) (p : ClassSig → Bool)
    (eg : Enters Tryd.prog m) (hc : ∀ i (h : i < l.length) cs w1, Below w.heap.size w w1 → Rp w1 F (ClassSig.d l[i]) cs → Calls Tryd.prog m (#[.agg cs.toArray] ++ cap) w1 fun e w' => e = .returned (.bool (p l[i])) ∧ Below w1.heap.size w1 w') :
    Calls Tryd.prog 90 #[v, .func (.func m) #[] cap] w fun e w' => e = .returned (.int .i64 (idxInt p l)) ∧ Below w.heap.size w w' := by
  obtain ⟨A, c, rfl, hlc, hcm, _⟩ := hv.form
  have hl : l.length ≤ 9223372036854775807 := by unfold maxLen at hcm; omega
  have HC := Lib.hid hc
  clear hc
  unfold Enters at eg
  go_enter Tryd.func90, Tryd.ntmps90
  go_wp2
  go_loopw [5, 8] (fun _ i wr => ∃ k : Nat, k ≤ l.length ∧ i = .int .i64 k ∧ Below w.heap.size w wr ∧ Hid (idxInt p l = idxFrom p (l.drop k) k)) (fun _ i _ => l.length - (intOf i).toNat)
  case atStart => exact ⟨0, Nat.zero_le _, rfl, Below.refl _ _, rfl⟩
  case round =>
    obtain ⟨k, hk, rfl, hb, hno⟩ := hrel
    by_cases hlt : k < l.length
    · have hv' := hv.later hb
      obtain ⟨g, off, v1, v2, rfl, hF, c0, c1, c2, s0, s1, s2⟩ := ClassSig.get hv' hlt
      have HN := Lib.hid (HC.out k hlt [.string l[k].name, v1, v2] _ hb (ClassSig.rp.2 ⟨_, _, rfl, s0, s1, s2⟩))
      have hst := idxFrom_step p l k hlt
      cases hp : p l[k]
      · have HE := Lib.hid (hno.out.trans (hst.1 hp))
        rw [hp] at HN
        clear hst hp
        go_wp2_with fail
        refine HN.out.mono ?_
        rintro e w1 ⟨rfl, hb1⟩
        go_wp2
        go_roundw
        case rel => exact ⟨k + 1, by omega, by go_num, hb.trans (hb1.mono hb.size), HE.out⟩
        case measure => simp [intOf]; omega
      · have HE := Lib.hid (hno.out.trans (hst.2 hp))
        rw [hp] at HN
        clear hst hp
        go_wp2_with fail
        refine HN.out.mono ?_
        rintro e w1 ⟨rfl, hb1⟩
        go_wp2
        go_ret
        exact ⟨ret_int HE.out.symm, hb.trans (hb1.mono hb.size)⟩
    · have HE := Lib.hid (hno.out.trans (idxFrom_end p l k (by omega)))
      go_wp2
      go_ret
      exact ⟨ret_int HE.out.symm, hb⟩

set_option maxHeartbeats 400000 in
theorem classSigContainsFunc (l : List ClassSig) (v : Value) (F : Nat → Prop) (w : World) (hv : Sl w F ClassSig.d l v) (m : FuncId) (cap : Array Value) (p : ClassSig → Bool)
    (eg : Enters Tryd.prog m) (hc : ∀ i (h : i < l.length) cs w1, Below w.heap.size w w1 → Rp w1 F (ClassSig.d l[i]) cs → Calls Tryd.prog m (#[.agg cs.toArray] ++ cap) w1 fun e w' => e = .returned (.bool (p l[i])) ∧ Below w1.heap.size w1 w') :
    Calls Tryd.prog 64 #[v, .func (.func m) #[] cap] w fun e w' => e = .returned (.bool (l.any p)) ∧ Below w.heap.size w w' := by
  have HN := Lib.hid (classSigIndexFunc l v F w hv m cap p eg hc)
  clear hc hv
  have HE := Lib.hid (idxInt_any p l)
  clear eg
  go_enter Tryd.func64, Tryd.ntmps64
  go_wp2_with fail
  refine HN.out.mono ?_
  rintro e w1 ⟨rfl, hb1⟩
  go_wp2
  go_ret
  exact ⟨ret_bool (by rw [HE.out]), hb1⟩


namespace If
/-- cmp.Or of two. -/
def orI (a b : Int) : Int := if a = 0 then b else a
set_option maxRecDepth 100000 in
set_option maxHeartbeats 4000000 in
theorem orI_any (a b : Int) (g c : Nat) (w : World) (h0 : w.cell? ⟨g, 0, none⟩ = some (.int .i64 a)) (h1 : w.cell? ⟨g, 1, none⟩ = some (.int .i64 b)) :
    Calls Tryd.prog 77 #[.slice (some ⟨g, 0, none⟩) 2 c] w fun e w' => e = .returned (.int .i64 (orI a b)) ∧ w = w' := by
  go_enter Tryd.func77, Tryd.ntmps77
  go_wp2_with fail
  go_loopw [8] (fun i wr => ∃ k : Nat, .int .i64 (k : Int) = i ∧ k ≤ 2 ∧ w = wr ∧ (1 ≤ k → a = 0) ∧ (2 ≤ k → b = 0)) (fun i _ => 2 - (intOf i).toNat)
  case atStart => exact ⟨0, rfl, by omega, rfl, by omega, by omega⟩
  case round =>
    obtain ⟨k, rfl, hk, rfl, ha, hb⟩ := hrel
    rcases (by omega : k = 0 ∨ k = 1 ∨ k = 2) with rfl | rfl | rfl
    · clear ha hb
      by_cases h : a = 0
      · subst h
        go_wp2_with fail
        go_roundw
        case rel => exact ⟨1, by simp, by omega, by simp, by simp, by simp⟩
        case measure => simp [intOf]
      · go_wp2_with fail
        go_ret
        exact ⟨by unfold orI; rw [if_neg h]; rfl, rfl⟩
    · obtain rfl := ha (by omega)
      clear hb
      by_cases h : b = 0
      · subst h
        go_wp2_with fail
        go_roundw
        case rel => exact ⟨2, by simp, by omega, by simp, by simp, by simp⟩
        case measure => simp [intOf]
      · go_wp2_with fail
        go_ret
        exact ⟨by unfold orI; rw [if_pos rfl]; rfl, rfl⟩
    · obtain rfl := ha (by omega)
      obtain rfl := hb (by omega)
      go_wp2_with fail
      go_ret
      exact ⟨rfl, rfl⟩
def cmpFix (x y : FixSig) : Int := cmpS x.op y.op
set_option maxHeartbeats 1000000 in
theorem ordFixSig_any (x y : FixSig) (F : Nat → Prop) (cs ds : List Value) (w : World) (hx : Rp w F x.d cs) (hy : Rp w F y.d ds) :
    Calls Tryd.prog 69 #[.agg cs.toArray, .agg ds.toArray] w fun e w' => e = .returned (.int .i64 (cmpFix x y)) ∧ Below w.heap.size w w' := by
  obtain ⟨rfl, sa0, sa1, sa2⟩ := FixSig.rp.1 hx
  obtain ⟨rfl, sb0, sb1, sb2⟩ := FixSig.rp.1 hy
  clear hx hy sa0 sa1 sa2 sb0 sb1 sb2
  show Calls _ _ #[.agg #[.string x.op, .int .i64 x.side, .int .i64 x.level], .agg #[.string y.op, .int .i64 y.side, .int .i64 y.level]] _ _
  go_enter Tryd.func69, Tryd.ntmps69
  go_wp2_with (go_at_call 70; refine (ccmp_any _ _ _).mono ?_; rintro e w' ⟨rfl, rfl⟩)
  go_ret
  exact ⟨rfl, ((Below.refl _ _).alloc (Nat.le_refl _) _).alloc (by simp) _⟩
def cmpData (x y : DataSig) : Int := cmpS x.name y.name
set_option maxHeartbeats 1000000 in
theorem ordDataSig_any (x y : DataSig) (F : Nat → Prop) (cs ds : List Value) (w : World) (hx : Rp w F x.d cs) (hy : Rp w F y.d ds) :
    Calls Tryd.prog 72 #[.agg cs.toArray, .agg ds.toArray] w fun e w' => e = .returned (.int .i64 (cmpData x y)) ∧ Below w.heap.size w w' := by
  obtain ⟨va2, rfl, sa0, sa1, sa2⟩ := DataSig.rp.1 hx
  obtain ⟨vb2, rfl, sb0, sb1, sb2⟩ := DataSig.rp.1 hy
  obtain ⟨Aa2, qa2, rfl, -, -, -⟩ := sa2.form
  obtain ⟨Ab2, qb2, rfl, -, -, -⟩ := sb2.form
  clear hx hy sa0 sa1 sa2 sb0 sb1 sb2
  show Calls _ _ #[.agg #[.string x.name, .int .i64 x.params, .slice Aa2 x.cons.length qa2], .agg #[.string y.name, .int .i64 y.params, .slice Ab2 y.cons.length qb2]] _ _
  go_enter Tryd.func72, Tryd.ntmps72
  go_wp2_with (go_at_call 70; refine (ccmp_any _ _ _).mono ?_; rintro e w' ⟨rfl, rfl⟩)
  go_ret
  exact ⟨rfl, ((Below.refl _ _).alloc (Nat.le_refl _) _).alloc (by simp) _⟩
def cmpClass (x y : ClassSig) : Int := cmpS x.name y.name
set_option maxHeartbeats 1000000 in
theorem ordClassSig_any (x y : ClassSig) (F : Nat → Prop) (cs ds : List Value) (w : World) (hx : Rp w F x.d cs) (hy : Rp w F y.d ds) :
    Calls Tryd.prog 74 #[.agg cs.toArray, .agg ds.toArray] w fun e w' => e = .returned (.int .i64 (cmpClass x y)) ∧ Below w.heap.size w w' := by
  obtain ⟨va1, va2, rfl, sa0, sa1, sa2⟩ := ClassSig.rp.1 hx
  obtain ⟨vb1, vb2, rfl, sb0, sb1, sb2⟩ := ClassSig.rp.1 hy
  obtain ⟨Aa1, qa1, rfl, -, -, -⟩ := sa1.form
  obtain ⟨Aa2, qa2, rfl, -, -, -⟩ := sa2.form
  obtain ⟨Ab1, qb1, rfl, -, -, -⟩ := sb1.form
  obtain ⟨Ab2, qb2, rfl, -, -, -⟩ := sb2.form
  clear hx hy sa0 sa1 sa2 sb0 sb1 sb2
  show Calls _ _ #[.agg #[.string x.name, .slice Aa1 x.super.length qa1, .slice Aa2 x.ops.length qa2], .agg #[.string y.name, .slice Ab1 y.super.length qb1, .slice Ab2 y.ops.length qb2]] _ _
  go_enter Tryd.func74, Tryd.ntmps74
  go_wp2_with (go_at_call 70; refine (ccmp_any _ _ _).mono ?_; rintro e w' ⟨rfl, rfl⟩)
  go_ret
  exact ⟨rfl, ((Below.refl _ _).alloc (Nat.le_refl _) _).alloc (by simp) _⟩
def cmpInst (x y : InstSig) : Int := orI (cmpS x.cls y.cls) (cmpS x.head.name y.head.name)
set_option maxHeartbeats 1000000 in
theorem ordInstSig_any (x y : InstSig) (F : Nat → Prop) (cs ds : List Value) (w : World) (hx : Rp w F x.d cs) (hy : Rp w F y.d ds) :
    Calls Tryd.prog 76 #[.agg cs.toArray, .agg ds.toArray] w fun e w' => e = .returned (.int .i64 (cmpInst x y)) ∧ Below w.heap.size w w' := by
  obtain ⟨va1, va2, rfl, sa0, sa1, sa2⟩ := InstSig.rp.1 hx
  obtain ⟨vb1, vb2, rfl, sb0, sb1, sb2⟩ := InstSig.rp.1 hy
  obtain ⟨Aa1, qa1, rfl, -, -, -⟩ := sa1.form
  obtain ⟨Aa2, qa2, rfl, -, -, -⟩ := sa2.form
  obtain ⟨Ab1, qb1, rfl, -, -, -⟩ := sb1.form
  obtain ⟨Ab2, qb2, rfl, -, -, -⟩ := sb2.form
  clear hx hy sa0 sa1 sa2 sb0 sb1 sb2
  show Calls _ _ #[.agg #[.string x.cls, .int .i64 x.head.kind, .string x.head.name, .int .i64 x.head.var, .slice Aa1 x.head.args.length qa1, .slice Aa2 x.preds.length qa2], .agg #[.string y.cls, .int .i64 y.head.kind, .string y.head.name, .int .i64 y.head.var, .slice Ab1 y.head.args.length qb1, .slice Ab2 y.preds.length qb2]] _ _
  obtain ⟨W0, hW0⟩ : ∃ W0, (w.alloc (.cells #[.string x.cls, .int .i64 x.head.kind, .string x.head.name, .int .i64 x.head.var, .slice Aa1 x.head.args.length qa1, .slice Aa2 x.preds.length qa2] 78)).alloc (.cells #[.string y.cls, .int .i64 y.head.kind, .string y.head.name, .int .i64 y.head.var, .slice Ab1 y.head.args.length qb1, .slice Ab2 y.preds.length qb2] 78) = W0 := ⟨_, rfl⟩
  obtain ⟨b1, hb1⟩ : ∃ b, w.heap.size = b := ⟨_, rfl⟩
  have hbw : Below w.heap.size w W0 := by rw [← hW0]; exact ((Below.refl _ _).alloc (Nat.le_refl _) _).alloc (by simp) _
  have hba : Blk W0 b1 78 [.string x.cls, .int .i64 x.head.kind, .string x.head.name, .int .i64 x.head.var, .slice Aa1 x.head.args.length qa1, .slice Aa2 x.preds.length qa2] := by rw [← hW0, ← hb1]; exact (Blk.new w _ [_, _, _, _, _, _]).alloc _
  have hbb : Blk W0 (b1 + 1) 78 [.string y.cls, .int .i64 y.head.kind, .string y.head.name, .int .i64 y.head.var, .slice Ab1 y.head.args.length qb1, .slice Ab2 y.preds.length qb2] := by
    rw [← hW0, ← hb1]
    have := Blk.new (w.alloc (.cells #[.string x.cls, .int .i64 x.head.kind, .string x.head.name, .int .i64 x.head.var, .slice Aa1 x.head.args.length qa1, .slice Aa2 x.preds.length qa2] 78)) 78 [.string y.cls, .int .i64 y.head.kind, .string y.head.name, .int .i64 y.head.var, .slice Ab1 y.head.args.length qb1, .slice Ab2 y.preds.length qb2]
    simpa using this
  have x0 := hba.cell (i := 0) rfl
  have x2 := hba.cell (i := 2) rfl
  have y0 := hbb.cell (i := 0) rfl
  have y2 := hbb.cell (i := 2) rfl
  have HW0 := Lib.hid hW0
  have HB1 := Lib.hid hb1
  have HBw := Lib.hid hbw
  obtain ⟨p, hp⟩ : ∃ p, cmpS x.cls y.cls = p := ⟨_, rfl⟩
  obtain ⟨q, hq⟩ : ∃ q, cmpS x.head.name y.head.name = q := ⟨_, rfl⟩
  have h1 := fun X => ccmp_any x.cls y.cls X
  have h2 := fun X => ccmp_any x.head.name y.head.name X
  rw [hp] at h1
  rw [hq] at h2
  have H1 := Lib.hid h1
  have H2 := Lib.hid h2
  have hE : cmpInst x y = orI p q := by rw [← hp, ← hq]; rfl
  rw [hE]
  have hQ : Hid (∀ X, Below W0.heap.size W0 X → (X.cell? ⟨b1, 0, none⟩ = some (.string x.cls) ∧ X.cell? ⟨b1, 2, none⟩ = some (.string x.head.name) ∧ X.cell? ⟨b1 + 1, 0, none⟩ = some (.string y.cls) ∧ X.cell? ⟨b1 + 1, 2, none⟩ = some (.string y.head.name))) := fun X hX => ⟨(hX.cell (block_lt_of_cell x0)).trans x0, (hX.cell (block_lt_of_cell x2)).trans x2, (hX.cell (block_lt_of_cell y0)).trans y0, (hX.cell (block_lt_of_cell y2)).trans y2⟩
  clear hE hp hq hba hbb hW0 hb1 hbw h1 h2 x0 x2 y0 y2
  go_enter Tryd.func76, Tryd.ntmps76
  go_upto_region 1 with (fail)
  rw [HW0.out, HB1.out]
  refine wp_region_noPanic ?_
  refine wp_region_till [] (fun X => X.cell? ⟨b1, 0, none⟩ = some (.string x.cls) ∧ X.cell? ⟨b1, 2, none⟩ = some (.string x.head.name) ∧ X.cell? ⟨b1 + 1, 0, none⟩ = some (.string y.cls) ∧ X.cell? ⟨b1 + 1, 2, none⟩ = some (.string y.head.name)) (by kernel_rfl) ?_ (fun hE => ?_)
  · exact hQ.out _ (by repeat (first | (with_reducible exact Below.refl _ _) | (with_reducible refine Below.drew ?_) | (with_reducible refine Below.drewN ?_ _) | (with_reducible refine Below.alloc ?_ (by first | exact Nat.le_refl _ | (simp; done)) _)))
  have hS := hE (by kernel_rfl)
  refine wpAnyT_pure (i := 0) (oi := { dst := some 5, op := Op.fieldAddr 78 (Operand.tmp 2) 0, type := 0, pos := "iface.go:148", after := #[], guard := none }) (v := ?v1_0_1) rfl (by kernel_rfl) (fun _ _ _ h => h) (Or.inl ⟨by rfl, ?y1_0_1⟩) (fun _ => hS) ?_
  case y1_0_1 => (intro w hSw; go_simp; try with_reducible rfl)
  try simp only [Act.put, List.setIfInBounds_toArray, List.set_cons_zero, List.set_cons_succ]
  refine wpAnyT_take (i := 1) (oi := { dst := some 6, op := Op.load 9 (Operand.tmp 5), type := 9, pos := "iface.go:148", after := #[⟨0, .data⟩], guard := none }) (v := ?v1_1_2) rfl (by kernel_rfl) (fun _ _ _ h => h) (Or.inl ⟨by rfl, ?y1_1_2⟩) hS ?_
  case y1_1_2 => (intro w hSw; (try dsimp only at hSw); go_simp; try with_reducible rfl)
  try simp only [Act.put, List.setIfInBounds_toArray, List.set_cons_zero, List.set_cons_succ]
  refine wpAnyT_pure (i := 2) (oi := { dst := some 7, op := Op.fieldAddr 78 (Operand.tmp 3) 0, type := 0, pos := "iface.go:148", after := #[], guard := none }) (v := ?v1_2_3) rfl (by kernel_rfl) (fun _ _ _ h => h) (Or.inl ⟨by rfl, ?y1_2_3⟩) (fun _ => hS) ?_
  case y1_2_3 => (intro w hSw; go_simp; try with_reducible rfl)
  try simp only [Act.put, List.setIfInBounds_toArray, List.set_cons_zero, List.set_cons_succ]
  refine wpAnyT_take (i := 3) (oi := { dst := some 8, op := Op.load 9 (Operand.tmp 7), type := 9, pos := "iface.go:148", after := #[⟨2, .data⟩], guard := none }) (v := ?v1_3_4) rfl (by kernel_rfl) (fun _ _ _ h => h) (Or.inl ⟨by rfl, ?y1_3_4⟩) hS ?_
  case y1_3_4 => (intro w hSw; (try dsimp only at hSw); go_simp; try with_reducible rfl)
  try simp only [Act.put, List.setIfInBounds_toArray, List.set_cons_zero, List.set_cons_succ]
  refine wpAnyT_pure (i := 5) (oi := { dst := some 10, op := Op.fieldAddr 78 (Operand.tmp 2) 1, type := 0, pos := "iface.go:148", after := #[], guard := none }) (v := ?v1_5_5) rfl (by kernel_rfl) (fun _ _ _ h => h) (Or.inl ⟨by rfl, ?y1_5_5⟩) (fun _ => hS) ?_
  case y1_5_5 => (intro w hSw; go_simp; try with_reducible rfl)
  try simp only [Act.put, List.setIfInBounds_toArray, List.set_cons_zero, List.set_cons_succ]
  refine wpAnyT_pure (i := 6) (oi := { dst := some 11, op := Op.fieldAddr 47 (Operand.tmp 10) 1, type := 0, pos := "iface.go:148", after := #[⟨5, .data⟩], guard := none }) (v := ?v1_6_6) rfl (by kernel_rfl) (fun _ _ _ h => h) (Or.inl ⟨by rfl, ?y1_6_6⟩) (fun _ => hS) ?_
  case y1_6_6 => (intro w hSw; go_simp; try with_reducible rfl)
  try simp only [Act.put, List.setIfInBounds_toArray, List.set_cons_zero, List.set_cons_succ]
  refine wpAnyT_take (i := 7) (oi := { dst := some 12, op := Op.load 9 (Operand.tmp 11), type := 9, pos := "iface.go:148", after := #[⟨6, .data⟩], guard := none }) (v := ?v1_7_7) rfl (by kernel_rfl) (fun _ _ _ h => h) (Or.inl ⟨by rfl, ?y1_7_7⟩) hS ?_
  case y1_7_7 => (intro w hSw; (try dsimp only at hSw); go_simp; try with_reducible rfl)
  try simp only [Act.put, List.setIfInBounds_toArray, List.set_cons_zero, List.set_cons_succ]
  refine wpAnyT_pure (i := 8) (oi := { dst := some 13, op := Op.fieldAddr 78 (Operand.tmp 3) 1, type := 0, pos := "iface.go:148", after := #[], guard := none }) (v := ?v1_8_8) rfl (by kernel_rfl) (fun _ _ _ h => h) (Or.inl ⟨by rfl, ?y1_8_8⟩) (fun _ => hS) ?_
  case y1_8_8 => (intro w hSw; go_simp; try with_reducible rfl)
  try simp only [Act.put, List.setIfInBounds_toArray, List.set_cons_zero, List.set_cons_succ]
  refine wpAnyT_pure (i := 9) (oi := { dst := some 14, op := Op.fieldAddr 47 (Operand.tmp 13) 1, type := 0, pos := "iface.go:148", after := #[⟨8, .data⟩], guard := none }) (v := ?v1_9_9) rfl (by kernel_rfl) (fun _ _ _ h => h) (Or.inl ⟨by rfl, ?y1_9_9⟩) (fun _ => hS) ?_
  case y1_9_9 => (intro w hSw; go_simp; try with_reducible rfl)
  try simp only [Act.put, List.setIfInBounds_toArray, List.set_cons_zero, List.set_cons_succ]
  refine wpAnyT_take (i := 10) (oi := { dst := some 15, op := Op.load 9 (Operand.tmp 14), type := 9, pos := "iface.go:148", after := #[⟨9, .data⟩], guard := none }) (v := ?v1_10_10) rfl (by kernel_rfl) (fun _ _ _ h => h) (Or.inl ⟨by rfl, ?y1_10_10⟩) hS ?_
  case y1_10_10 => (intro w hSw; (try dsimp only at hSw); go_simp; try with_reducible rfl)
  try simp only [Act.put, List.setIfInBounds_toArray, List.set_cons_zero, List.set_cons_succ]
  refine wpAnyT_ready (rs := [4]) (by kernel_rfl) rfl ?_
  refine AllT.cons (o := { dst := some 9, op := Op.call { callee := Callee.value (Operand.func 70), args := #[Operand.tmp 6, Operand.tmp 8], argTypes := #[9, 9] }, type := 3, pos := "iface.go:148", after := #[⟨1, .data⟩, ⟨3, .data⟩], guard := none }) rfl (fun K hK => ?_) ?_
  · (go_simp; go_at_call 70; refine (H1.out _).mono ?_; rintro e w' ⟨rfl, rfl⟩; go_wp2_with fail)
    refine hK.out _ _ (fun _ => ?_) (fun hE => ?_)
    · exact hQ.out _ (by repeat (first | (with_reducible exact Below.refl _ _) | (with_reducible refine Below.drew ?_) | (with_reducible refine Below.drewN ?_ _) | (with_reducible refine Below.alloc ?_ (by first | exact Nat.le_refl _ | (simp; done)) _)))
    have hS := hE (by kernel_rfl)
    clear hK K hE
    try simp only [Act.put, List.setIfInBounds_toArray, List.set_cons_zero, List.set_cons_succ]
    refine wpAnyT_ready (rs := [11]) (by kernel_rfl) rfl ?_
    refine AllT.cons (o := { dst := some 16, op := Op.call { callee := Callee.value (Operand.func 70), args := #[Operand.tmp 12, Operand.tmp 15], argTypes := #[9, 9] }, type := 3, pos := "iface.go:148", after := #[⟨7, .data⟩, ⟨10, .data⟩, ⟨4, .chain⟩], guard := none }) rfl (fun K hK => ?_) ?_
    · (go_simp; go_at_call 70; refine (H2.out _).mono ?_; rintro e w' ⟨rfl, rfl⟩; go_wp2_with fail)
      refine hK.out _ _ (fun _ => ?_) (fun hE => ?_)
      · exact hQ.out _ (by repeat (first | (with_reducible exact Below.refl _ _) | (with_reducible refine Below.drew ?_) | (with_reducible refine Below.drewN ?_ _) | (with_reducible refine Below.alloc ?_ (by first | exact Nat.le_refl _ | (simp; done)) _)))
      have hS := hE (by kernel_rfl)
      clear hK K hE
      try simp only [Act.put, List.setIfInBounds_toArray, List.set_cons_zero, List.set_cons_succ]
      refine wpAnyT_ready (rs := [12]) (by kernel_rfl) rfl ?_
      refine AllT.cons (o := { dst := some 17, op := Op.buildSlice 156 2 #[(0, Operand.tmp 9), (1, Operand.tmp 16)], type := 156, pos := "iface.go:148", after := #[⟨4, .data⟩, ⟨11, .data⟩], guard := none }) rfl (fun K hK => ?_) ?_
      · go_simp
        refine hK.out _ _ (fun _ => ?_) (fun hE => ?_)
        · exact hQ.out _ (by repeat (first | (with_reducible exact Below.refl _ _) | (with_reducible refine Below.drew ?_) | (with_reducible refine Below.drewN ?_ _) | (with_reducible refine Below.alloc ?_ (by first | exact Nat.le_refl _ | (simp; done)) _)))
        have hS := hE (by kernel_rfl)
        clear hK K hE
        try simp only [Act.put, List.setIfInBounds_toArray, List.set_cons_zero, List.set_cons_succ]
        refine wpAnyT_ready (rs := [13]) (by kernel_rfl) rfl ?_
        refine AllT.cons (o := { dst := some 18, op := Op.call { callee := Callee.value (Operand.func 77), args := #[Operand.tmp 17], argTypes := #[156] }, type := 3, pos := "iface.go:148", after := #[⟨12, .data⟩, ⟨11, .chain⟩], guard := none }) rfl (fun K hK => ?_) ?_
        · (go_simp; go_at_call 77; refine (orI_any p q _ 2 _ (by simp) (by simp)).mono ?_; rintro e w' ⟨rfl, rfl⟩; go_wp2_with fail)
          refine hK.out _ _ (fun _ => ?_) (fun hE => ?_)
          · exact hQ.out _ (by repeat (first | (with_reducible exact Below.refl _ _) | (with_reducible refine Below.drew ?_) | (with_reducible refine Below.drewN ?_ _) | (with_reducible refine Below.alloc ?_ (by first | exact Nat.le_refl _ | (simp; done)) _)))
          have hS := hE (by kernel_rfl)
          clear hK K hE
          try simp only [Act.put, List.setIfInBounds_toArray, List.set_cons_zero, List.set_cons_succ]
          refine wpAnyT_ready (rs := [14]) (by kernel_rfl) rfl ?_
          refine AllT.cons (o := { dst := some 4, op := Op.assign (Operand.tmp 18), type := 3, pos := "iface.go:148", after := #[⟨13, .data⟩, ⟨13, .chain⟩, ⟨0, .phase⟩, ⟨1, .phase⟩, ⟨2, .phase⟩, ⟨3, .phase⟩, ⟨4, .phase⟩, ⟨5, .phase⟩, ⟨6, .phase⟩, ⟨7, .phase⟩, ⟨8, .phase⟩, ⟨9, .phase⟩, ⟨10, .phase⟩, ⟨11, .phase⟩, ⟨12, .phase⟩, ⟨13, .phase⟩], guard := none }) rfl (fun K hK => ?_) ?_
          · go_simp
            refine hK.out _ _ (fun _ => ?_) (fun hE => ?_)
            · exact hQ.out _ (by repeat (first | (with_reducible exact Below.refl _ _) | (with_reducible refine Below.drew ?_) | (with_reducible refine Below.drewN ?_ _) | (with_reducible refine Below.alloc ?_ (by first | exact Nat.le_refl _ | (simp; done)) _)))
            have hS := hE (by kernel_rfl)
            clear hK K hE
            try simp only [Act.put, List.setIfInBounds_toArray, List.set_cons_zero, List.set_cons_succ]
            refine wpAnyT_done (by kernel_rfl) ?_ _
            refine NoPanic.normal ?_
            go_wp2_with fail
            go_ret
            exact ⟨rfl, HBw.out.trans (Below.mono (show Below W0.heap.size W0 _ from (by repeat (first | (with_reducible exact Below.refl _ _) | (with_reducible refine Below.drew ?_) | (with_reducible refine Below.drewN ?_ _) | (with_reducible refine Below.alloc ?_ (by first | exact Nat.le_refl _ | (simp; done)) _)))) HBw.out.size)⟩
          exact AllT.nil
        exact AllT.nil
      exact AllT.nil
    exact AllT.nil
  exact AllT.nil
def cmpOp (x y : OpSig) : Int := cmpS x.name y.name
set_option maxHeartbeats 1000000 in
theorem ordOpSig_any (x y : OpSig) (F : Nat → Prop) (cs ds : List Value) (w : World) (hx : Rp w F x.d cs) (hy : Rp w F y.d ds) :
    Calls Tryd.prog 79 #[.agg cs.toArray, .agg ds.toArray] w fun e w' => e = .returned (.int .i64 (cmpOp x y)) ∧ Below w.heap.size w w' := by
  obtain ⟨va2, va3, rfl, sa0, sa1, sa2, sa3⟩ := OpSig.rp.1 hx
  obtain ⟨vb2, vb3, rfl, sb0, sb1, sb2, sb3⟩ := OpSig.rp.1 hy
  obtain ⟨Aa2, qa2, rfl, -, -, -⟩ := sa2.form
  obtain ⟨Aa3, qa3, rfl, -, -, -⟩ := sa3.form
  obtain ⟨Ab2, qb2, rfl, -, -, -⟩ := sb2.form
  obtain ⟨Ab3, qb3, rfl, -, -, -⟩ := sb3.form
  clear hx hy sa0 sa1 sa2 sa3 sb0 sb1 sb2 sb3
  show Calls _ _ #[.agg #[.string x.name, .string x.effect, .int .i64 x.arg.kind, .string x.arg.name, .int .i64 x.arg.var, .slice Aa2 x.arg.args.length qa2, .int .i64 x.res.kind, .string x.res.name, .int .i64 x.res.var, .slice Aa3 x.res.args.length qa3], .agg #[.string y.name, .string y.effect, .int .i64 y.arg.kind, .string y.arg.name, .int .i64 y.arg.var, .slice Ab2 y.arg.args.length qb2, .int .i64 y.res.kind, .string y.res.name, .int .i64 y.res.var, .slice Ab3 y.res.args.length qb3]] _ _
  go_enter Tryd.func79, Tryd.ntmps79
  go_wp2_with (go_at_call 70; refine (ccmp_any _ _ _).mono ?_; rintro e w' ⟨rfl, rfl⟩)
  go_ret
  exact ⟨rfl, ((Below.refl _ _).alloc (Nat.le_refl _) _).alloc (by simp) _⟩
def cmpVal (x y : ValSig) : Int := cmpS x.name y.name
set_option maxHeartbeats 1000000 in
theorem ordValSig_any (x y : ValSig) (F : Nat → Prop) (cs ds : List Value) (w : World) (hx : Rp w F x.d cs) (hy : Rp w F y.d ds) :
    Calls Tryd.prog 81 #[.agg cs.toArray, .agg ds.toArray] w fun e w' => e = .returned (.int .i64 (cmpVal x y)) ∧ Below w.heap.size w w' := by
  obtain ⟨va2, va3, rfl, sa0, sa1, sa2, sa3⟩ := ValSig.rp.1 hx
  obtain ⟨vb2, vb3, rfl, sb0, sb1, sb2, sb3⟩ := ValSig.rp.1 hy
  obtain ⟨Aa2, qa2, rfl, -, -, -⟩ := sa2.form
  obtain ⟨Aa3, qa3, rfl, -, -, -⟩ := sa3.form
  obtain ⟨Ab2, qb2, rfl, -, -, -⟩ := sb2.form
  obtain ⟨Ab3, qb3, rfl, -, -, -⟩ := sb3.form
  clear hx hy sa0 sa1 sa2 sa3 sb0 sb1 sb2 sb3
  show Calls _ _ #[.agg #[.string x.name, .int .i64 x.vars, .slice Aa2 x.preds.length qa2, .int .i64 x.ty.kind, .string x.ty.name, .int .i64 x.ty.var, .slice Aa3 x.ty.args.length qa3], .agg #[.string y.name, .int .i64 y.vars, .slice Ab2 y.preds.length qb2, .int .i64 y.ty.kind, .string y.ty.name, .int .i64 y.ty.var, .slice Ab3 y.ty.args.length qb3]] _ _
  go_enter Tryd.func81, Tryd.ntmps81
  go_wp2_with (go_at_call 70; refine (ccmp_any _ _ _).mono ?_; rintro e w' ⟨rfl, rfl⟩)
  go_ret
  exact ⟨rfl, ((Below.refl _ _).alloc (Nat.le_refl _) _).alloc (by simp) _⟩
/-- The lists of an interface are strictly increasing. -/
def orderedP (f : Iface) : Bool := incr cmpB f.imports && incr cmpFix f.fixes && incr cmpData f.datas && incr cmpClass f.classes && incr cmpInst f.insts && incr cmpOp f.ops && incr cmpVal f.vals
set_option maxRecDepth 100000 in
set_option maxHeartbeats 16000000 in
theorem ordered_any (W : World) (f : Iface) (F : Nat → Prop) (cs : List Value) (h : Rp W F f.d cs) :
    Calls Tryd.prog 30 #[.agg cs.toArray] W fun e w' => e = .returned (.bool (orderedP f)) ∧ Below W.heap.size W w' := by
  obtain ⟨v1, v2, v3, v4, v5, v6, v7, rfl, -, s1, s2, s3, s4, s5, s6, s7⟩ := Iface.rp.1 h
  obtain ⟨A1, q1, rfl, -, -, -⟩ := s1.form
  obtain ⟨A2, q2, rfl, -, -, -⟩ := s2.form
  obtain ⟨A3, q3, rfl, -, -, -⟩ := s3.form
  obtain ⟨A4, q4, rfl, -, -, -⟩ := s4.form
  obtain ⟨A5, q5, rfl, -, -, -⟩ := s5.form
  obtain ⟨A6, q6, rfl, -, -, -⟩ := s6.form
  obtain ⟨A7, q7, rfl, -, -, -⟩ := s7.form
  obtain ⟨W0, hW0⟩ : ∃ W0, W.alloc (.cells #[.string f.module, .slice A1 f.imports.length q1, .slice A2 f.fixes.length q2, .slice A3 f.datas.length q3, .slice A4 f.classes.length q4, .slice A5 f.insts.length q5, .slice A6 f.ops.length q6, .slice A7 f.vals.length q7] 33) = W0 := ⟨_, rfl⟩
  obtain ⟨b0, hb0⟩ : ∃ b, W.heap.size = b := ⟨_, rfl⟩
  have hbw : Below W.heap.size W W0 := by rw [← hW0]; exact (Below.refl _ _).alloc (Nat.le_refl _) _
  have hbx : Blk W0 b0 33 [.string f.module, .slice A1 f.imports.length q1, .slice A2 f.fixes.length q2, .slice A3 f.datas.length q3, .slice A4 f.classes.length q4, .slice A5 f.insts.length q5, .slice A6 f.ops.length q6, .slice A7 f.vals.length q7] := by rw [← hW0, ← hb0]; exact Blk.new W _ [_, _, _, _, _, _, _, _]
  have eg1 : Enters Tryd.prog 67 := enters_of Tryd.func67 (by kernel_rfl) rfl
  have hC1 := fun (X : World) (hX : Below W0.heap.size W0 X) => sortedStr_any f.imports _ F X ((s1.later hbw).later hX) 67 cmpB eg1 (fun i j _ _ cs ds w1 _ _ _ => (scmp_any _ _ _).mono (by rintro e w' ⟨rfl, rfl⟩; exact ⟨rfl, Below.refl _ _⟩))
  obtain ⟨r1, hr1⟩ : ∃ r, incr cmpB f.imports = r := ⟨_, rfl⟩
  rw [hr1] at hC1
  have HC1 := Lib.hid hC1
  clear hC1 eg1
  have eg2 : Enters Tryd.prog 69 := enters_of Tryd.func69 (by kernel_rfl) rfl
  have hC2 := fun (X : World) (hX : Below W0.heap.size W0 X) => sortedFixSig_any f.fixes _ F X ((s2.later hbw).later hX) 69 cmpFix eg2 (fun i j _ _ cs ds w1 _ ra rb => ordFixSig_any _ _ F cs ds w1 ra rb)
  obtain ⟨r2, hr2⟩ : ∃ r, incr cmpFix f.fixes = r := ⟨_, rfl⟩
  rw [hr2] at hC2
  have HC2 := Lib.hid hC2
  clear hC2 eg2
  have eg3 : Enters Tryd.prog 72 := enters_of Tryd.func72 (by kernel_rfl) rfl
  have hC3 := fun (X : World) (hX : Below W0.heap.size W0 X) => sortedDataSig_any f.datas _ F X ((s3.later hbw).later hX) 72 cmpData eg3 (fun i j _ _ cs ds w1 _ ra rb => ordDataSig_any _ _ F cs ds w1 ra rb)
  obtain ⟨r3, hr3⟩ : ∃ r, incr cmpData f.datas = r := ⟨_, rfl⟩
  rw [hr3] at hC3
  have HC3 := Lib.hid hC3
  clear hC3 eg3
  have eg4 : Enters Tryd.prog 74 := enters_of Tryd.func74 (by kernel_rfl) rfl
  have hC4 := fun (X : World) (hX : Below W0.heap.size W0 X) => sortedClassSig_any f.classes _ F X ((s4.later hbw).later hX) 74 cmpClass eg4 (fun i j _ _ cs ds w1 _ ra rb => ordClassSig_any _ _ F cs ds w1 ra rb)
  obtain ⟨r4, hr4⟩ : ∃ r, incr cmpClass f.classes = r := ⟨_, rfl⟩
  rw [hr4] at hC4
  have HC4 := Lib.hid hC4
  clear hC4 eg4
  have eg5 : Enters Tryd.prog 76 := enters_of Tryd.func76 (by kernel_rfl) rfl
  have hC5 := fun (X : World) (hX : Below W0.heap.size W0 X) => sortedInstSig_any f.insts _ F X ((s5.later hbw).later hX) 76 cmpInst eg5 (fun i j _ _ cs ds w1 _ ra rb => ordInstSig_any _ _ F cs ds w1 ra rb)
  obtain ⟨r5, hr5⟩ : ∃ r, incr cmpInst f.insts = r := ⟨_, rfl⟩
  rw [hr5] at hC5
  have HC5 := Lib.hid hC5
  clear hC5 eg5
  have eg6 : Enters Tryd.prog 79 := enters_of Tryd.func79 (by kernel_rfl) rfl
  have hC6 := fun (X : World) (hX : Below W0.heap.size W0 X) => sortedOpSig_any f.ops _ F X ((s6.later hbw).later hX) 79 cmpOp eg6 (fun i j _ _ cs ds w1 _ ra rb => ordOpSig_any _ _ F cs ds w1 ra rb)
  obtain ⟨r6, hr6⟩ : ∃ r, incr cmpOp f.ops = r := ⟨_, rfl⟩
  rw [hr6] at hC6
  have HC6 := Lib.hid hC6
  clear hC6 eg6
  have eg7 : Enters Tryd.prog 81 := enters_of Tryd.func81 (by kernel_rfl) rfl
  have hC7 := fun (X : World) (hX : Below W0.heap.size W0 X) => sortedValSig_any f.vals _ F X ((s7.later hbw).later hX) 81 cmpVal eg7 (fun i j _ _ cs ds w1 _ ra rb => ordValSig_any _ _ F cs ds w1 ra rb)
  obtain ⟨r7, hr7⟩ : ∃ r, incr cmpVal f.vals = r := ⟨_, rfl⟩
  rw [hr7] at hC7
  have HC7 := Lib.hid hC7
  clear hC7 eg7
  have HE : Hid (orderedP f = (r1 && r2 && r3 && r4 && r5 && r6 && r7)) := by show _ = _; rw [← hr1, ← hr2, ← hr3, ← hr4, ← hr5, ← hr6, ← hr7]; rfl
  rw [HE.out]
  have HBx : Hid (∀ X, Below W0.heap.size W0 X → Blk X b0 33 [.string f.module, .slice A1 f.imports.length q1, .slice A2 f.fixes.length q2, .slice A3 f.datas.length q3, .slice A4 f.classes.length q4, .slice A5 f.insts.length q5, .slice A6 f.ops.length q6, .slice A7 f.vals.length q7]) := fun X hX => hbx.later hX
  have hb : Below W0.heap.size W0 W0 := Below.refl _ _
  have HB := Lib.hid hb
  have HW0 := Lib.hid hW0
  have HB0 := Lib.hid hb0
  have HBw := Lib.hid hbw
  have x1 := hbx.cell (i := 1) rfl
  clear h hbx hb hW0 hb0 hbw HE hr1 hr2 hr3 hr4 hr5 hr6 hr7 s1 s2 s3 s4 s5 s6 s7
  go_enter Tryd.func30, Tryd.ntmps30
  go_upto_region 1 with (fail)
  rw [HW0.out, HB0.out]
  go_wp2_with fail
  refine (HC1.out _ HB.out).mono ?_
  rintro e w1 ⟨rfl, hb⟩
  have HB1 : Hid (Below W0.heap.size W0 w1) := HB.out.trans (hb.mono HB.out.size)
  clear hb x1
  cases r1
  · go_wp2_with fail
    go_ret
    exact ⟨rfl, HBw.out.trans (HB1.out.mono HBw.out.size)⟩
  · have x2 := (HBx.out _ HB1.out).cell (i := 2) rfl
    go_wp2_with fail
    refine (HC2.out _ HB1.out).mono ?_
    rintro e w2 ⟨rfl, hb⟩
    have HB2 : Hid (Below W0.heap.size W0 w2) := HB1.out.trans (hb.mono HB1.out.size)
    clear hb x2
    cases r2
    · go_wp2_with fail
      go_ret
      exact ⟨rfl, HBw.out.trans (HB2.out.mono HBw.out.size)⟩
    · have x3 := (HBx.out _ HB2.out).cell (i := 3) rfl
      go_wp2_with fail
      refine (HC3.out _ HB2.out).mono ?_
      rintro e w3 ⟨rfl, hb⟩
      have HB3 : Hid (Below W0.heap.size W0 w3) := HB2.out.trans (hb.mono HB2.out.size)
      clear hb x3
      cases r3
      · go_wp2_with fail
        go_ret
        exact ⟨rfl, HBw.out.trans (HB3.out.mono HBw.out.size)⟩
      · have x4 := (HBx.out _ HB3.out).cell (i := 4) rfl
        go_wp2_with fail
        refine (HC4.out _ HB3.out).mono ?_
        rintro e w4 ⟨rfl, hb⟩
        have HB4 : Hid (Below W0.heap.size W0 w4) := HB3.out.trans (hb.mono HB3.out.size)
        clear hb x4
        cases r4
        · go_wp2_with fail
          go_ret
          exact ⟨rfl, HBw.out.trans (HB4.out.mono HBw.out.size)⟩
        · have x5 := (HBx.out _ HB4.out).cell (i := 5) rfl
          go_wp2_with fail
          refine (HC5.out _ HB4.out).mono ?_
          rintro e w5 ⟨rfl, hb⟩
          have HB5 : Hid (Below W0.heap.size W0 w5) := HB4.out.trans (hb.mono HB4.out.size)
          clear hb x5
          cases r5
          · go_wp2_with fail
            go_ret
            exact ⟨rfl, HBw.out.trans (HB5.out.mono HBw.out.size)⟩
          · have x6 := (HBx.out _ HB5.out).cell (i := 6) rfl
            go_wp2_with fail
            refine (HC6.out _ HB5.out).mono ?_
            rintro e w6 ⟨rfl, hb⟩
            have HB6 : Hid (Below W0.heap.size W0 w6) := HB5.out.trans (hb.mono HB5.out.size)
            clear hb x6
            cases r6
            · go_wp2_with fail
              go_ret
              exact ⟨rfl, HBw.out.trans (HB6.out.mono HBw.out.size)⟩
            · have x7 := (HBx.out _ HB6.out).cell (i := 7) rfl
              go_wp2_with fail
              refine (HC7.out _ HB6.out).mono ?_
              rintro e w7 ⟨rfl, hb⟩
              have HB7 : Hid (Below W0.heap.size W0 w7) := HB6.out.trans (hb.mono HB6.out.size)
              clear hb x7
              go_wp2_with fail
              go_ret
              exact ⟨rfl, HBw.out.trans (HB7.out.mono HBw.out.size)⟩
def fixBad (x : FixSig) : Bool := decide (x.side < 0) || decide (2 < x.side) || decide (x.level < 0) || decide (9 < x.level)
set_option maxHeartbeats 1000000 in
theorem fixBad_any (x : FixSig) (F : Nat → Prop) (cs : List Value) (w : World) (hx : Rp w F x.d cs) :
    Calls Tryd.prog 60 #[.agg cs.toArray] w fun e w' => e = .returned (.bool (fixBad x)) ∧ Below w.heap.size w w' := by
  obtain ⟨rfl, sa0, sa1, sa2⟩ := FixSig.rp.1 hx
  clear hx sa0 sa1 sa2
  show Calls _ _ #[.agg #[.string x.op, .int .i64 x.side, .int .i64 x.level]] _ _
  unfold fixBad
  by_cases h0 : x.side < 0
  · go_enter Tryd.func60, Tryd.ntmps60
    go_wp2_with fail
    go_ret
    exact ⟨by simp_all, (Below.refl _ _).alloc (Nat.le_refl _) _⟩
  · skip
    by_cases h1 : 2 < x.side
    · go_enter Tryd.func60, Tryd.ntmps60
      go_wp2_with fail
      go_ret
      exact ⟨by simp_all, (Below.refl _ _).alloc (Nat.le_refl _) _⟩
    · skip
      by_cases h2 : x.level < 0
      · go_enter Tryd.func60, Tryd.ntmps60
        go_wp2_with fail
        go_ret
        exact ⟨by simp_all, (Below.refl _ _).alloc (Nat.le_refl _) _⟩
      · skip
        by_cases h3 : 9 < x.level
        · go_enter Tryd.func60, Tryd.ntmps60
          go_wp2_with fail
          go_ret
          exact ⟨by simp_all, (Below.refl _ _).alloc (Nat.le_refl _) _⟩
        · go_enter Tryd.func60, Tryd.ntmps60
          go_wp2_with fail
          go_ret
          exact ⟨by simp_all, (Below.refl _ _).alloc (Nat.le_refl _) _⟩
def dataBad (x : DataSig) : Bool := decide (x.params < 0) || decide (16 < x.params)
set_option maxHeartbeats 1000000 in
theorem dataBad_any (x : DataSig) (F : Nat → Prop) (cs : List Value) (w : World) (hx : Rp w F x.d cs) :
    Calls Tryd.prog 62 #[.agg cs.toArray] w fun e w' => e = .returned (.bool (dataBad x)) ∧ Below w.heap.size w w' := by
  obtain ⟨va2, rfl, sa0, sa1, sa2⟩ := DataSig.rp.1 hx
  obtain ⟨Aa2, qa2, rfl, -, -, -⟩ := sa2.form
  clear hx sa0 sa1 sa2
  show Calls _ _ #[.agg #[.string x.name, .int .i64 x.params, .slice Aa2 x.cons.length qa2]] _ _
  unfold dataBad
  by_cases h0 : x.params < 0
  · go_enter Tryd.func62, Tryd.ntmps62
    go_wp2_with fail
    go_ret
    exact ⟨by simp_all, (Below.refl _ _).alloc (Nat.le_refl _) _⟩
  · skip
    by_cases h1 : 16 < x.params
    · go_enter Tryd.func62, Tryd.ntmps62
      go_wp2_with fail
      go_ret
      exact ⟨by simp_all, (Below.refl _ _).alloc (Nat.le_refl _) _⟩
    · go_enter Tryd.func62, Tryd.ntmps62
      go_wp2_with fail
      go_ret
      exact ⟨by simp_all, (Below.refl _ _).alloc (Nat.le_refl _) _⟩
def valBad (x : ValSig) : Bool := decide (x.vars < 0) || decide (4096 < x.vars)
set_option maxHeartbeats 1000000 in
theorem valBad_any (x : ValSig) (F : Nat → Prop) (cs : List Value) (w : World) (hx : Rp w F x.d cs) :
    Calls Tryd.prog 58 #[.agg cs.toArray] w fun e w' => e = .returned (.bool (valBad x)) ∧ Below w.heap.size w w' := by
  obtain ⟨va2, va3, rfl, sa0, sa1, sa2, sa3⟩ := ValSig.rp.1 hx
  obtain ⟨Aa2, qa2, rfl, -, -, -⟩ := sa2.form
  obtain ⟨Aa3, qa3, rfl, -, -, -⟩ := sa3.form
  clear hx sa0 sa1 sa2 sa3
  show Calls _ _ #[.agg #[.string x.name, .int .i64 x.vars, .slice Aa2 x.preds.length qa2, .int .i64 x.ty.kind, .string x.ty.name, .int .i64 x.ty.var, .slice Aa3 x.ty.args.length qa3]] _ _
  unfold valBad
  by_cases h0 : x.vars < 0
  · go_enter Tryd.func58, Tryd.ntmps58
    go_wp2_with fail
    go_ret
    exact ⟨by simp_all, (Below.refl _ _).alloc (Nat.le_refl _) _⟩
  · skip
    by_cases h1 : 4096 < x.vars
    · go_enter Tryd.func58, Tryd.ntmps58
      go_wp2_with fail
      go_ret
      exact ⟨by simp_all, (Below.refl _ _).alloc (Nat.le_refl _) _⟩
    · go_enter Tryd.func58, Tryd.ntmps58
      go_wp2_with fail
      go_ret
      exact ⟨by simp_all, (Below.refl _ _).alloc (Nat.le_refl _) _⟩
def classBad (x : ClassSig) : Bool := x.ops.any valBad
set_option maxHeartbeats 1000000 in
theorem classBad_any (x : ClassSig) (F : Nat → Prop) (cs : List Value) (w : World) (b : Nat) (hb : w.cell? ⟨b, 0, none⟩ = some (.func (.func 58) #[] #[])) (hx : Rp w F x.d cs) :
    Calls Tryd.prog 65 (#[.agg cs.toArray] ++ #[.pointer (some ⟨b, 0, none⟩)]) w fun e w' => e = .returned (.bool (classBad x)) ∧ Below w.heap.size w w' := by
  obtain ⟨va1, va2, rfl, sa0, sa1, sa2⟩ := ClassSig.rp.1 hx
  obtain ⟨Aa1, qa1, rfl, -, -, -⟩ := sa1.form
  obtain ⟨Aa2, qa2, rfl, -, -, -⟩ := sa2.form
  have eg1 : Enters Tryd.prog 58 := enters_of Tryd.func58 (by kernel_rfl) rfl
  obtain ⟨W0, hW0⟩ : ∃ W0, w.alloc (.cells #[.string x.name, .slice Aa1 x.super.length qa1, .slice Aa2 x.ops.length qa2] 74) = W0 := ⟨_, rfl⟩
  obtain ⟨b0, hb0⟩ : ∃ b, w.heap.size = b := ⟨_, rfl⟩
  have hbw : Below w.heap.size w W0 := by rw [← hW0]; exact (Below.refl _ _).alloc (Nat.le_refl _) _
  have hbx : Blk W0 b0 74 [.string x.name, .slice Aa1 x.super.length qa1, .slice Aa2 x.ops.length qa2] := by rw [← hW0, ← hb0]; exact Blk.new w _ [_, _, _]
  have c1 := (hbw.cell (block_lt_of_cell hb)).trans hb
  have x2 := hbx.cell (i := 2) rfl
  have HC := Lib.hid (valSigContainsFunc x.ops _ F W0 (sa2.later hbw) 58 #[] valBad eg1 (fun i hi cs w1 _ hr => valBad_any _ F cs w1 hr))
  have HW0 := Lib.hid hW0
  have HB0 := Lib.hid hb0
  have HBw := Lib.hid hbw
  clear hx hb hbx hW0 hb0 hbw eg1 sa0 sa1 sa2
  show Calls _ _ #[.agg #[.string x.name, .slice Aa1 x.super.length qa1, .slice Aa2 x.ops.length qa2], .pointer (some ⟨b, 0, none⟩)] _ _
  go_enter Tryd.func65, Tryd.ntmps65
  go_upto_region 1 with (fail)
  rw [HW0.out, HB0.out]
  go_wp2_with fail
  refine HC.out.mono ?_
  rintro e w1 ⟨rfl, hb1⟩
  go_wp2_with fail
  go_ret
  exact ⟨rfl, HBw.out.trans (hb1.mono HBw.out.size)⟩
/-- The numbers of an interface are in range. -/
def rangesP (f : Iface) : Bool := !f.fixes.any fixBad && !f.datas.any dataBad && !f.vals.any valBad && !f.classes.any classBad
set_option maxRecDepth 100000 in
set_option maxHeartbeats 16000000 in
theorem ranges_any (W : World) (f : Iface) (F : Nat → Prop) (cs : List Value) (h : Rp W F f.d cs) :
    Calls Tryd.prog 29 #[.agg cs.toArray] W fun e w' => e = .returned (.bool (rangesP f)) ∧ Below W.heap.size W w' := by
  obtain ⟨v1, v2, v3, v4, v5, v6, v7, rfl, -, s1, s2, s3, s4, s5, s6, s7⟩ := Iface.rp.1 h
  obtain ⟨A1, q1, rfl, -, -, -⟩ := s1.form
  obtain ⟨A2, q2, rfl, -, -, -⟩ := s2.form
  obtain ⟨A3, q3, rfl, -, -, -⟩ := s3.form
  obtain ⟨A4, q4, rfl, -, -, -⟩ := s4.form
  obtain ⟨A5, q5, rfl, -, -, -⟩ := s5.form
  obtain ⟨A6, q6, rfl, -, -, -⟩ := s6.form
  obtain ⟨A7, q7, rfl, -, -, -⟩ := s7.form
  obtain ⟨W0, hW0⟩ : ∃ W0, (W.alloc (.cells #[.string f.module, .slice A1 f.imports.length q1, .slice A2 f.fixes.length q2, .slice A3 f.datas.length q3, .slice A4 f.classes.length q4, .slice A5 f.insts.length q5, .slice A6 f.ops.length q6, .slice A7 f.vals.length q7] 33)).alloc (.cells #[.func (.func 58) #[] #[]] 121) = W0 := ⟨_, rfl⟩
  obtain ⟨b0, hb0⟩ : ∃ b, W.heap.size = b := ⟨_, rfl⟩
  obtain ⟨b1, hb1⟩ : ∃ b, b0 + 1 = b := ⟨_, rfl⟩
  have hbw : Below W.heap.size W W0 := by rw [← hW0]; exact ((Below.refl _ _).alloc (Nat.le_refl _) _).alloc (by simp) _
  have hbx : Blk W0 b0 33 [.string f.module, .slice A1 f.imports.length q1, .slice A2 f.fixes.length q2, .slice A3 f.datas.length q3, .slice A4 f.classes.length q4, .slice A5 f.insts.length q5, .slice A6 f.ops.length q6, .slice A7 f.vals.length q7] := by rw [← hW0, ← hb0]; exact (Blk.new W _ [_, _, _, _, _, _, _, _]).alloc _
  have hbs : Blk W0 b1 121 [.func (.func 58) #[] #[]] := by
    rw [← hW0, ← hb1, ← hb0]
    have := Blk.new (W.alloc (.cells #[.string f.module, .slice A1 f.imports.length q1, .slice A2 f.fixes.length q2, .slice A3 f.datas.length q3, .slice A4 f.classes.length q4, .slice A5 f.insts.length q5, .slice A6 f.ops.length q6, .slice A7 f.vals.length q7] 33)) 121 [.func (.func 58) #[] #[]]
    simpa using this
  have eg1 : Enters Tryd.prog 60 := enters_of Tryd.func60 (by kernel_rfl) rfl
  have hC1 := fun (X : World) (hX : Below W0.heap.size W0 X) => fixSigContainsFunc f.fixes _ F X ((s2.later hbw).later hX) 60 #[] fixBad eg1 (fun i hi cs w1 hbl hr => fixBad_any _ F cs w1 hr)
  obtain ⟨r1, hr1⟩ : ∃ r, f.fixes.any fixBad = r := ⟨_, rfl⟩
  rw [hr1] at hC1
  have HC1 := Lib.hid hC1
  clear hC1 eg1
  have eg2 : Enters Tryd.prog 62 := enters_of Tryd.func62 (by kernel_rfl) rfl
  have hC2 := fun (X : World) (hX : Below W0.heap.size W0 X) => dataSigContainsFunc f.datas _ F X ((s3.later hbw).later hX) 62 #[] dataBad eg2 (fun i hi cs w1 hbl hr => dataBad_any _ F cs w1 hr)
  obtain ⟨r2, hr2⟩ : ∃ r, f.datas.any dataBad = r := ⟨_, rfl⟩
  rw [hr2] at hC2
  have HC2 := Lib.hid hC2
  clear hC2 eg2
  have eg3 : Enters Tryd.prog 58 := enters_of Tryd.func58 (by kernel_rfl) rfl
  have hC3 := fun (X : World) (hX : Below W0.heap.size W0 X) => valSigContainsFunc f.vals _ F X ((s7.later hbw).later hX) 58 #[] valBad eg3 (fun i hi cs w1 hbl hr => valBad_any _ F cs w1 hr)
  obtain ⟨r3, hr3⟩ : ∃ r, f.vals.any valBad = r := ⟨_, rfl⟩
  rw [hr3] at hC3
  have HC3 := Lib.hid hC3
  clear hC3 eg3
  have eg4 : Enters Tryd.prog 65 := enters_of Tryd.func65 (by kernel_rfl) rfl
  have hC4 := fun (X : World) (hX : Below W0.heap.size W0 X) => classSigContainsFunc f.classes _ F X ((s4.later hbw).later hX) 65 #[.pointer (some ⟨b1, 0, none⟩)] classBad eg4 (fun i hi cs w1 hbl hr => classBad_any _ F cs w1 b1 (((hbs.later hX).later hbl).cell (i := 0) rfl) hr)
  obtain ⟨r4, hr4⟩ : ∃ r, f.classes.any classBad = r := ⟨_, rfl⟩
  rw [hr4] at hC4
  have HC4 := Lib.hid hC4
  clear hC4 eg4
  have HE : Hid (rangesP f = (!r1 && !r2 && !r3 && !r4)) := by show _ = _; rw [← hr1, ← hr2, ← hr3, ← hr4]; rfl
  rw [HE.out]
  have HBx : Hid (∀ X, Below W0.heap.size W0 X → Blk X b0 33 [.string f.module, .slice A1 f.imports.length q1, .slice A2 f.fixes.length q2, .slice A3 f.datas.length q3, .slice A4 f.classes.length q4, .slice A5 f.insts.length q5, .slice A6 f.ops.length q6, .slice A7 f.vals.length q7]) := fun X hX => hbx.later hX
  have HBs : Hid (∀ X, Below W0.heap.size W0 X → Blk X b1 121 [.func (.func 58) #[] #[]]) := fun X hX => hbs.later hX
  have HB : Hid (Below W0.heap.size W0 W0) := Below.refl _ _
  have HW0 := Lib.hid hW0
  have HB0 := Lib.hid hb0
  have HB1' := Lib.hid hb1
  have HBw := Lib.hid hbw
  have x2 := hbx.cell (i := 2) rfl
  have hst : ∀ (a : Addr) (w : World), (store a (.func (.func 58) #[] #[])).run Tryd.prog w = stored Tryd.prog w a (.func (.func 58) #[] #[]) .plain := fun a w => run_store _ w a _ _ rfl
  clear h hbx hbs hW0 hb0 hb1 hbw HE hr1 hr2 hr3 hr4 s1 s2 s3 s4 s5 s6 s7
  go_enter Tryd.func29, Tryd.ntmps29
  go_upto_region 2 with (fail)
  rw [HW0.out, HB0.out, HB1'.out]
  go_wp2_with fail
  refine (HC1.out _ HB.out).mono ?_
  rintro e w1 ⟨rfl, hb⟩
  have HB1 : Hid (Below W0.heap.size W0 w1) := HB.out.trans (hb.mono HB.out.size)
  clear hb x2
  cases r1
  · have x3 := (HBx.out _ HB1.out).cell (i := 3) rfl
    go_wp2_with fail
    refine (HC2.out _ HB1.out).mono ?_
    rintro e w2 ⟨rfl, hb⟩
    have HB2 : Hid (Below W0.heap.size W0 w2) := HB1.out.trans (hb.mono HB1.out.size)
    clear hb x3
    cases r2
    · have x7 := (HBx.out _ HB2.out).cell (i := 7) rfl
      have z0 := (HBs.out _ HB2.out).cell (i := 0) rfl
      go_wp2_with fail
      refine (HC3.out _ HB2.out).mono ?_
      rintro e w3 ⟨rfl, hb⟩
      have HB3 : Hid (Below W0.heap.size W0 w3) := HB2.out.trans (hb.mono HB2.out.size)
      clear hb x7
      cases r3
      · have x4 := (HBx.out _ HB3.out).cell (i := 4) rfl
        go_wp2_with fail
        refine (HC4.out _ HB3.out).mono ?_
        rintro e w4 ⟨rfl, hb⟩
        have HB4 : Hid (Below W0.heap.size W0 w4) := HB3.out.trans (hb.mono HB3.out.size)
        clear hb x4
        go_wp2_with fail
        go_ret
        exact ⟨rfl, HBw.out.trans (HB4.out.mono HBw.out.size)⟩
      · go_wp2_with fail
        go_ret
        exact ⟨rfl, HBw.out.trans (HB3.out.mono HBw.out.size)⟩
    · go_wp2_with fail
      go_ret
      exact ⟨rfl, HBw.out.trans (HB2.out.mono HBw.out.size)⟩
  · go_wp2_with fail
    go_ret
    exact ⟨rfl, HBw.out.trans (HB1.out.mono HBw.out.size)⟩
end If
end Go.Proofs.YtcbkihplchdhhaaDoor
