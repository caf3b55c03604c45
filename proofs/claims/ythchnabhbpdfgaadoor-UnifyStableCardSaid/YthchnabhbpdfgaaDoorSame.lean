/- unify.equal, unify.Same; sortedRows of the laws. No conditions but a bound on the number of nodes. -/
import Derived.Test.YthchnabhbpdfgaaDoorNorm
import Derived.WalkSpells
namespace Go.Proofs.YthchnabhbpdfgaaDoor
open Go.RowKit Go.Shelf Go.Sort Stab

mutual
def eqT : Ty → Ty → Bool
  | .mk k n v l, .mk k' n' v' l' => (k == k') && (n.toList == n'.toList) && (v == v') && eqTs l l'
def eqTs : List Ty → List Ty → Bool
  | [], [] => true
  | a :: r, b :: s => eqT a b && eqTs r s
  | [], _ :: _ => false
  | _ :: _, [] => false
end
theorem eqTs_eqBy : ∀ l m : List Ty, eqTs l m = eqBy eqT l m
  | [], [] => by rw [eqTs]; rfl
  | a :: r, b :: s => by rw [eqTs, eqTs_eqBy r s]; rfl
  | [], _ :: _ => by rw [eqTs]; rfl
  | _ :: _, [] => by rw [eqTs]; rfl
mutual
theorem eqT_refl : ∀ a : Ty, eqT a a = true
  | .mk k n v l => by rw [eqT, eqTs_refl l]; simp
theorem eqTs_refl : ∀ l : List Ty, eqTs l l = true
  | [] => by rw [eqTs]
  | a :: r => by rw [eqTs, eqT_refl a, eqTs_refl r]; rfl
end
theorem eqT_unfold (a b : Ty) : eqT a b = ((a.kind == b.kind) && (a.name.toList == b.name.toList) && (a.var == b.var) && eqBy eqT a.args b.args) := by
  cases a with
  | mk k n v l =>
    cases b with
    | mk k' n' v' l' => rw [eqT, eqTs_eqBy]; rfl
def EqAt (t : Ty) : Prop := ∀ (u : Ty) (W : World) (F G : Nat → Prop) (av bv : Value), TyC W F t av → TyC W G u bv →
  Calls Tryd.prog 21 #[tyV t av, tyV u bv] W fun e w' => e = .returned (.bool (eqT t u)) ∧ Below W.heap.size W w'

set_option maxHeartbeats 2000000 in
theorem tyEqualFunc (l m : List Ty) (ih : ∀ a ∈ l, EqAt a) (v u : Value) (F G : Nat → Prop) (w : World) (hv : Sl w F tyD l v) (hu : Sl w G tyD m u) :
    Calls Tryd.prog 31 #[v, u, .func (.func 21) #[] #[]] w fun e w' => e = .returned (.bool (eqBy eqT l m)) ∧ Below w.heap.size w w' := by
  obtain ⟨A, c, rfl, hlc, hcm, _⟩ := hv.form
  obtain ⟨B, c', rfl, hmc, hcm', _⟩ := hu.form
  have hl : l.length ≤ 9223372036854775807 := by unfold maxLen at hcm; omega
  have hm : m.length ≤ 9223372036854775807 := by unfold maxLen at hcm'; omega
  have HV := Lib.hid hv
  have HU := Lib.hid hu
  have HIH := Lib.hid ih
  clear hv hu ih
  by_cases hlen : l.length = m.length
  · have hd : ((l.length : Int) != (m.length : Int)) = false := by rw [bne_eq_false_iff_eq]; omega
    have HL := Lib.hid hlen
    have hlt0 : l.length ≤ m.length := by omega
    clear hlen
    go_enter Tryd.func31, Tryd.ntmps31
    go_wp2
    go_loopw [17] (fun i wr => ∃ k : Nat, k ≤ l.length ∧ i = .int .i64 k ∧ Below w.heap.size w wr ∧ Hid (eqBy eqT l m = eqBy eqT (l.drop k) (m.drop k))) (fun i _ => l.length - (intOf i).toNat)
    case atStart => exact ⟨0, Nat.zero_le _, rfl, Below.refl _ _, rfl⟩
    case round =>
      obtain ⟨k, hk, rfl, hb, hno⟩ := hrel
      by_cases hlt : k < l.length
      · have hst := eqBy_step eqT l m k hlt (by omega)
        have hmk : k < m.length := by omega
        obtain ⟨ga, offa, va, hadr, _, a0, a1, a2, a3, hTa⟩ := tyD.get (HV.out.later hb) hlt
        obtain ⟨gb, offb, vb, hadr', _, b0, b1, b2, b3, hTb⟩ := tyD.get (HU.out.later hb) hmk
        obtain rfl := hadr
        obtain rfl := hadr'
        obtain ⟨x, hx⟩ : ∃ x, l[k] = x := ⟨_, rfl⟩
        obtain ⟨y, hy⟩ : ∃ y, m[k] = y := ⟨_, rfl⟩
        have hxm : x ∈ l := by rw [← hx]; exact List.getElem_mem hlt
        rw [hx] at a0 a1 a2 hTa hst
        rw [hy] at b0 b1 b2 hTb hst
        obtain ⟨Aa, ca, rfl, _⟩ := hTa.form
        obtain ⟨Ab, cb, rfl, _⟩ := hTb.form
        have k0 : (0 : Int) ≤ (k : Int) := by omega
        have k1 : (k : Int) < (l.length : Int) := by omega
        have k2 : (k : Int) < (m.length : Int) := by omega
        have HN : Hid (∀ X, Below wr.heap.size wr X → Calls Tryd.prog 21 #[.agg #[.int .i64 x.kind, .string x.name, .int .i64 x.var, .slice Aa x.args.length ca], .agg #[.int .i64 y.kind, .string y.name, .int .i64 y.var, .slice Ab y.args.length cb]] X
            (fun e w' => e = .returned (.bool (eqT x y)) ∧ Below wr.heap.size wr w')) := fun X hX =>
          (HIH.out x hxm y X _ _ _ _ (hTa.later hX) (hTb.later hX)).mono fun e w' ⟨he, hb'⟩ => ⟨he, hX.trans (hb'.mono hX.size)⟩
        have HB := Lib.hid hb
        have hgb := block_lt_of_cell b0
        have hga := block_lt_of_cell a0
        dsimp only at hgb hga
        clear hx hy hxm hTa hTb hb
        cases hq : eqT x y
        · have HE := Lib.hid (hno.out.trans (hst.2 hq))
          rw [hq] at HN
          clear hst hq
          go_wp2_with fail
          refine (HN.out _ (((Below.refl _ _).alloc (Nat.le_refl _) _).alloc (by simp) _)).mono ?_
          rintro e w1 ⟨rfl, hb1⟩
          have HB1 := Lib.hid (HB.out.trans (hb1.mono HB.out.size))
          clear hb1 a0 a1 a2 a3 b0 b1 b2 b3
          go_wp2
          go_ret
          exact ⟨ret_bool HE.out.symm, HB1.out⟩
        · have HE := Lib.hid (hno.out.trans (hst.1 hq))
          rw [hq] at HN
          clear hst hq
          go_wp2_with fail
          refine (HN.out _ (((Below.refl _ _).alloc (Nat.le_refl _) _).alloc (by simp) _)).mono ?_
          rintro e w1 ⟨rfl, hb1⟩
          have HB1 := Lib.hid (HB.out.trans (hb1.mono HB.out.size))
          clear hb1 a0 a1 a2 a3 b0 b1 b2 b3
          go_wp2
          go_roundw
          case rel => exact ⟨k + 1, by omega, by go_num, HB1.out, HE.out⟩
          case measure => simp [intOf]; omega
      · have HE := Lib.hid (hno.out.trans (eqBy_end eqT l m k (by omega) (by have := HL.out; omega)))
        go_wp2
        go_ret
        exact ⟨ret_bool HE.out.symm, hb⟩
  · have hd : ((l.length : Int) != (m.length : Int)) = true := by rw [bne_iff_ne]; omega
    have HE := Lib.hid (eqBy_len eqT l m hlen)
    clear hlen
    go_enter Tryd.func31, Tryd.ntmps31
    go_wp2
    go_ret
    exact ⟨ret_bool HE.out.symm, Below.refl _ _⟩

set_option maxHeartbeats 2000000 in
theorem equal_step (t : Ty) (ih : ∀ a ∈ t.args, EqAt a) : EqAt t := by
  intro u W F G av bv hT hU
  obtain ⟨A1, c1, rfl, _⟩ := hT.form
  obtain ⟨A2, c2, rfl, _⟩ := hU.form
  obtain ⟨W2, hW2⟩ : ∃ W2, (W.alloc (.cells #[.int .i64 t.kind, .string t.name, .int .i64 t.var, .slice A1 t.args.length c1] 24)).alloc (.cells #[.int .i64 u.kind, .string u.name, .int .i64 u.var, .slice A2 u.args.length c2] 24) = W2 := ⟨_, rfl⟩
  have hb2 : Below W.heap.size W W2 := by rw [← hW2]; exact ((Below.refl _ _).alloc (Nat.le_refl _) _).alloc (by simp) _
  have HC := Lib.hid (tyEqualFunc t.args u.args ih _ _ F G W2 (hT.later hb2).args (hU.later hb2).args)
  have HE := Lib.hid (eqT_unfold t u)
  have HB2 := Lib.hid hb2
  have HW2 := Lib.hid hW2
  obtain ⟨q, hq⟩ : ∃ q, eqBy eqT t.args u.args = q := ⟨_, rfl⟩
  rw [hq] at HC HE
  unfold tyV
  clear hT hU hb2 hW2 ih hq
  cases h1 : (t.kind == u.kind)
  · rw [h1] at HE
    go_enter Tryd.func21, Tryd.ntmps21
    go_wp2_with fail
    go_ret
    exact ⟨ret_bool (by rw [HE.out]; rfl), by rw [HW2.out]; exact HB2.out⟩
  · cases h2 : (t.name.toList == u.name.toList)
    · rw [h1, h2] at HE
      go_enter Tryd.func21, Tryd.ntmps21
      go_wp2_with fail
      go_ret
      exact ⟨ret_bool (by rw [HE.out]; rfl), by rw [HW2.out]; exact HB2.out⟩
    · cases h3 : (t.var == u.var)
      · rw [h1, h2, h3] at HE
        go_enter Tryd.func21, Tryd.ntmps21
        go_wp2_with fail
        go_ret
        exact ⟨ret_bool (by rw [HE.out]; rfl), by rw [HW2.out]; exact HB2.out⟩
      · rw [h1, h2, h3] at HE
        go_enter Tryd.func21, Tryd.ntmps21
        go_wp2_with fail
        rw [HW2.out]
        with_reducible refine HC.out.mono ?_
        rintro e w3 ⟨rfl, hb3⟩
        have HB3 := Lib.hid (HB2.out.trans (hb3.mono HB2.out.size))
        clear hb3
        go_wp2_with fail
        go_ret
        exact ⟨ret_bool (by rw [HE.out]; simp), HB3.out⟩
theorem equal_all (t : Ty) : EqAt t := by
  obtain ⟨n, hn⟩ : ∃ n, nodes t = n := ⟨_, rfl⟩
  induction n using Nat.strongRecOn generalizing t with
  | _ n ih => exact equal_step t (fun a ha => ih (nodes a) (by have := nodess_mem t.args a ha; have := nodes_eq t; omega) a rfl)
set_option maxHeartbeats 400000 in
theorem tyIdxFunc (l : List Ty) (v : Value) (F : Nat → Prop) (w : World) (hv : Sl w F tyD l v) (m : FuncId) (cap : Array Value) (p : Ty → Bool)
    (eg : Enters Tryd.prog m) (hc : ∀ i (h : i < l.length) cs w1, Below w.heap.size w w1 → Rp w1 F (tyD l[i]) cs → Calls Tryd.prog m (#[.agg cs.toArray] ++ cap) w1 fun e w' => e = .returned (.bool (p l[i])) ∧ Below w1.heap.size w1 w') :
    Calls Tryd.prog 53 #[v, .func (.func m) #[] cap] w fun e w' => e = .returned (.int .i64 (idxInt p l)) ∧ Below w.heap.size w w' := by
  obtain ⟨A, c, rfl, hlc, hcm, _⟩ := hv.form
  have hl : l.length ≤ 9223372036854775807 := by unfold maxLen at hcm; omega
  have HC := Lib.hid hc
  clear hc
  unfold Enters at eg
  go_enter Tryd.func53, Tryd.ntmps53
  go_wp2
  go_loopw [5, 8] (fun _ i wr => ∃ k : Nat, k ≤ l.length ∧ i = .int .i64 k ∧ Below w.heap.size w wr ∧ Hid (idxInt p l = idxFrom p (l.drop k) k)) (fun _ i _ => l.length - (intOf i).toNat)
  case atStart => exact ⟨0, Nat.zero_le _, rfl, Below.refl _ _, rfl⟩
  case round =>
    obtain ⟨k, hk, rfl, hb, hno⟩ := hrel
    by_cases hlt : k < l.length
    · have hv' := hv.later hb
      obtain ⟨g, off, v1, rfl, hF, c0, c1, c2, c3, hT⟩ := tyD.get hv' hlt
      have HN := Lib.hid (HC.out k hlt [.int .i64 l[k].kind, .string l[k].name, .int .i64 l[k].var, v1] _ hb (tyD.rp.2 ⟨_, rfl, hT⟩))
      have hst := idxFrom_step p l k hlt
      cases hp : p l[k]
      · have HE := Lib.hid (hno.out.trans (hst.1 hp))
        rw [hp] at HN
        clear hst hp
        go_wp2_with fail
        refine HN.out.mono ?_
        rintro e w1 ⟨rfl, hb1⟩
        go_wp2
        go_roundw
        case rel => exact ⟨k + 1, by omega, by go_num, hb.trans (hb1.mono hb.size), HE.out⟩
        case measure => simp [intOf]; omega
      · have HE := Lib.hid (hno.out.trans (hst.2 hp))
        rw [hp] at HN
        clear hst hp
        go_wp2_with fail
        refine HN.out.mono ?_
        rintro e w1 ⟨rfl, hb1⟩
        go_wp2
        go_ret
        exact ⟨ret_int HE.out.symm, hb.trans (hb1.mono hb.size)⟩
    · have HE := Lib.hid (hno.out.trans (idxFrom_end p l k (by omega)))
      go_wp2
      go_ret
      exact ⟨ret_int HE.out.symm, hb⟩

set_option maxHeartbeats 400000 in
theorem tyHasFunc (l : List Ty) (v : Value) (F : Nat → Prop) (w : World) (hv : Sl w F tyD l v) (m : FuncId) (cap : Array Value) (p : Ty → Bool)
    (eg : Enters Tryd.prog m) (hc : ∀ i (h : i < l.length) cs w1, Below w.heap.size w w1 → Rp w1 F (tyD l[i]) cs → Calls Tryd.prog m (#[.agg cs.toArray] ++ cap) w1 fun e w' => e = .returned (.bool (p l[i])) ∧ Below w1.heap.size w1 w') :
    Calls Tryd.prog 49 #[v, .func (.func m) #[] cap] w fun e w' => e = .returned (.bool (l.any p)) ∧ Below w.heap.size w w' := by
  have HN := Lib.hid (tyIdxFunc l v F w hv m cap p eg hc)
  clear hc hv
  have HE := Lib.hid (idxInt_any p l)
  clear eg
  go_enter Tryd.func49, Tryd.ntmps49
  go_wp2_with fail
  refine HN.out.mono ?_
  rintro e w1 ⟨rfl, hb1⟩
  go_wp2
  go_ret
  exact ⟨ret_bool (by rw [HE.out]), hb1⟩


/-! ### Same -/
set_option maxHeartbeats 4000000 in
theorem same_any (a b : Ty) (W : World) (F : Nat → Prop) (av bv : Value) (hA : TyC W F a av) (hB : TyC W F b bv) (hF : ∀ i, F i → i < W.heap.size) (ka : a.Nok) (kb : b.Nok) (na : nodes a ≤ 33554432) (nb : nodes b ≤ 33554432) :
    Calls Tryd.prog 12 #[tyV a av, tyV b bv] W fun e w' => e = .returned (.bool (eqT (normP a) (normP b))) ∧ Below W.heap.size W w' := by
  obtain ⟨A1, c1, rfl, _⟩ := hA.form
  obtain ⟨A2, c2, rfl, _⟩ := hB.form
  obtain ⟨W2, hW2⟩ : ∃ W2, (W.alloc (.cells #[.int .i64 a.kind, .string a.name, .int .i64 a.var, .slice A1 a.args.length c1] 24)).alloc (.cells #[.int .i64 b.kind, .string b.name, .int .i64 b.var, .slice A2 b.args.length c2] 24) = W2 := ⟨_, rfl⟩
  have hb2 : Below W.heap.size W W2 := by rw [← hW2]; exact ((Below.refl _ _).alloc (Nat.le_refl _) _).alloc (by simp) _
  obtain ⟨b0, hb0⟩ : ∃ b0, W.heap.size = b0 := ⟨_, rfl⟩
  have hx := (Blk.new W 24 [.int .i64 a.kind, .string a.name, .int .i64 a.var, .slice A1 a.args.length c1]).alloc (.cells #[.int .i64 b.kind, .string b.name, .int .i64 b.var, .slice A2 b.args.length c2] 24)
  have hy := Blk.new (W.alloc (.cells #[.int .i64 a.kind, .string a.name, .int .i64 a.var, .slice A1 a.args.length c1] 24)) 24 [.int .i64 b.kind, .string b.name, .int .i64 b.var, .slice A2 b.args.length c2]
  rw [hW2] at hx hy
  rw [World.size_alloc] at hy
  rw [hb0] at hx hy
  have x0 := hx.cell (i := 0) rfl
  have x1 := hx.cell (i := 1) rfl
  have x2 := hx.cell (i := 2) rfl
  have x3 := hx.cell (i := 3) rfl
  have y0 := hy.cell (i := 0) rfl
  have y1 := hy.cell (i := 1) rfl
  have y2 := hy.cell (i := 2) rfl
  have y3 := hy.cell (i := 3) rfl
  have hzl := hb2.size
  have hQ : Hid (∀ X, Keeps (fun _ => False) W2 X → (X.cell? ⟨b0, 0, none⟩ = some (.int .i64 a.kind) ∧ X.cell? ⟨b0, 1, none⟩ = some (.string a.name) ∧ X.cell? ⟨b0, 2, none⟩ = some (.int .i64 a.var) ∧ X.cell? ⟨b0, 3, none⟩ = some (.slice A1 a.args.length c1) ∧ X.cell? ⟨b0 + 1, 0, none⟩ = some (.int .i64 b.kind) ∧ X.cell? ⟨b0 + 1, 1, none⟩ = some (.string b.name) ∧ X.cell? ⟨b0 + 1, 2, none⟩ = some (.int .i64 b.var) ∧ X.cell? ⟨b0 + 1, 3, none⟩ = some (.slice A2 b.args.length c2))) := fun X hb =>
    ⟨hb.cell x0 (fun h => h), hb.cell x1 (fun h => h), hb.cell x2 (fun h => h), hb.cell x3 (fun h => h), hb.cell y0 (fun h => h), hb.cell y1 (fun h => h), hb.cell y2 (fun h => h), hb.cell y3 (fun h => h)⟩
  obtain ⟨ra, hra⟩ : ∃ ra, normP a = ra := ⟨_, rfl⟩
  obtain ⟨rb, hrb⟩ : ∃ rb, normP b = rb := ⟨_, rfl⟩
  have HNA : Hid (∀ X, Keeps (fun _ => False) W2 X → Calls Tryd.prog 22 #[.agg #[.int .i64 a.kind, .string a.name, .int .i64 a.var, .slice A1 a.args.length c1]] X
      (fun e w' => ∃ A c, e = .returned (.agg #[.int .i64 ra.kind, .string ra.name, .int .i64 ra.var, .slice A ra.args.length c]) ∧ TyC w' (fun _ => True) ra (.slice A ra.args.length c) ∧ Keeps (fun _ => False) W2 w')) := fun X hk =>
    (norm_all a X F _ ((hA.later hb2).keeps hk (fun _ _ h => h)) (fun i hi => by have := hF i hi; have := hk.size; omega) ka na).mono fun e w' ⟨A, c, he, hT, hkk⟩ => by
      rw [hra] at he hT
      exact ⟨A, c, he, hT.mono (fun _ _ => trivial), hk.trans hkk (fun _ _ h => h)⟩
  have HNB : Hid (∀ Y X, Keeps (fun _ => False) W2 X → Keeps (fun _ => False) Y X → Calls Tryd.prog 22 #[.agg #[.int .i64 b.kind, .string b.name, .int .i64 b.var, .slice A2 b.args.length c2]] X
      (fun e w' => ∃ A c, e = .returned (.agg #[.int .i64 rb.kind, .string rb.name, .int .i64 rb.var, .slice A rb.args.length c]) ∧ TyC w' (fun _ => True) rb (.slice A rb.args.length c) ∧ Keeps (fun _ => False) W2 w' ∧ Keeps (fun _ => False) Y w')) := fun Y X hk hy =>
    (norm_all b X F _ ((hB.later hb2).keeps hk (fun _ _ h => h)) (fun i hi => by have := hF i hi; have := hk.size; omega) kb nb).mono fun e w' ⟨A, c, he, hT, hkk⟩ => by
      rw [hrb] at he hT
      exact ⟨A, c, he, hT.mono (fun _ _ => trivial), hk.trans hkk (fun _ _ h => h), hy.trans hkk (fun _ _ h => h)⟩
  have HEQ : Hid (∀ X A c B d, TyC X (fun _ => True) ra (.slice A ra.args.length c) → TyC X (fun _ => True) rb (.slice B rb.args.length d) → Calls Tryd.prog 21 #[.agg #[.int .i64 ra.kind, .string ra.name, .int .i64 ra.var, .slice A ra.args.length c], .agg #[.int .i64 rb.kind, .string rb.name, .int .i64 rb.var, .slice B rb.args.length d]] X
      (fun e w' => e = .returned (.bool (eqT ra rb)) ∧ Below X.heap.size X w')) := fun X A c B d h1 h2 => equal_all ra rb X _ _ _ _ h1 h2
  rw [hra, hrb]
  clear hra hrb
  have HB2 := Lib.hid hb2
  have HW2 := Lib.hid hW2
  have HB0 := Lib.hid hb0
  unfold tyV
  clear hA hB hb2 hW2 hx hy x0 x1 x2 x3 y0 y1 y2 y3 hzl hb0
  go_enter Tryd.func12, Tryd.ntmps12
  go_wp2_with fail
  rw [HW2.out, HB0.out]
  refine wp_region_noPanic ?_
  refine wp_region_till [] (fun X => X.cell? ⟨b0, 0, none⟩ = some (.int .i64 a.kind) ∧ X.cell? ⟨b0, 1, none⟩ = some (.string a.name) ∧ X.cell? ⟨b0, 2, none⟩ = some (.int .i64 a.var) ∧ X.cell? ⟨b0, 3, none⟩ = some (.slice A1 a.args.length c1) ∧ X.cell? ⟨b0 + 1, 0, none⟩ = some (.int .i64 b.kind) ∧ X.cell? ⟨b0 + 1, 1, none⟩ = some (.string b.name) ∧ X.cell? ⟨b0 + 1, 2, none⟩ = some (.int .i64 b.var) ∧ X.cell? ⟨b0 + 1, 3, none⟩ = some (.slice A2 b.args.length c2)) (by kernel_rfl) ?_ (fun hE => ?_)
  · exact hQ.out _ (by repeat (first | (with_reducible assumption) | (with_reducible exact Keeps.refl _ _) | (with_reducible refine Keeps.drewN ?_ _) | (with_reducible refine Keeps.drew ?_) | with_reducible refine Keeps.setCell ?_ (by first | (intro _; exact rfl) | (intro _; exact Or.inl rfl) | (intro _; exact Or.inr rfl) | (simp; done) | (simp; omega)) _ | (with_reducible refine Keeps.alloc ?_ _)))
  have hS := hE (by kernel_rfl)
  refine wpAnyT_take (i := 0) (oi := { dst := some 5, op := Op.load 24 (Operand.tmp 2), type := 24, pos := "unify.go:340", after := #[], guard := none }) (v := ?v1_0_1) rfl (by kernel_rfl) (fun _ _ _ h => h) (Or.inl ⟨by rfl, ?y1_0_1⟩) hS ?_
  case y1_0_1 => (intro w hSw; (try dsimp only at hSw); go_simp; try with_reducible rfl)
  try simp only [Act.put, List.setIfInBounds_toArray, List.set_cons_zero, List.set_cons_succ]
  refine wpAnyT_take (i := 2) (oi := { dst := some 7, op := Op.load 24 (Operand.tmp 3), type := 24, pos := "unify.go:340", after := #[], guard := none }) (v := ?v1_2_2) rfl (by kernel_rfl) (fun _ _ _ h => h) (Or.inl ⟨by rfl, ?y1_2_2⟩) hS ?_
  case y1_2_2 => (intro w hSw; (try dsimp only at hSw); go_simp; try with_reducible rfl)
  try simp only [Act.put, List.setIfInBounds_toArray, List.set_cons_zero, List.set_cons_succ]
  refine wpAnyT_ready (rs := [1]) (by kernel_rfl) rfl ?_
  refine AllT.cons (o := { dst := some 6, op := Op.call { callee := Callee.value (Operand.func 22), args := #[Operand.tmp 5], argTypes := #[24] }, type := 24, pos := "unify.go:340", after := #[{ on := 0, ground := Ground.data }], guard := none }) rfl (fun K hK => ?_) ?_
  · (go_simp; go_at_call 22; refine (HNA.out _ (by repeat (first | (with_reducible assumption) | (with_reducible exact Keeps.refl _ _) | (with_reducible refine Keeps.drewN ?_ _) | (with_reducible refine Keeps.drew ?_) | with_reducible refine Keeps.setCell ?_ (by first | (intro _; exact rfl) | (intro _; exact Or.inl rfl) | (intro _; exact Or.inr rfl) | (simp; done) | (simp; omega)) _ | (with_reducible refine Keeps.alloc ?_ _)))).mono ?_; rintro e wa ⟨A7, c7, rfl, hTa, hka⟩; go_wp2_with fail)
    refine hK.out _ _ (fun _ => ?_) (fun hE => ?_)
    · exact hQ.out _ (by repeat (first | (with_reducible assumption) | (with_reducible exact Keeps.refl _ _) | (with_reducible refine Keeps.drewN ?_ _) | (with_reducible refine Keeps.drew ?_) | with_reducible refine Keeps.setCell ?_ (by first | (intro _; exact rfl) | (intro _; exact Or.inl rfl) | (intro _; exact Or.inr rfl) | (simp; done) | (simp; omega)) _ | (with_reducible refine Keeps.alloc ?_ _)))
    have hS := hE (by kernel_rfl)
    clear hK K hE
    try simp only [Act.put, List.setIfInBounds_toArray, List.set_cons_zero, List.set_cons_succ]
    refine wpAnyT_ready (rs := [3]) (by kernel_rfl) rfl ?_
    refine AllT.cons (o := { dst := some 8, op := Op.call { callee := Callee.value (Operand.func 22), args := #[Operand.tmp 7], argTypes := #[24] }, type := 24, pos := "unify.go:340", after := #[{ on := 2, ground := Ground.data }, { on := 1, ground := Ground.chain }], guard := none }) rfl (fun K hK => ?_) ?_
    · (go_simp; go_at_call 22; refine (HNB.out wa _ (by repeat (first | (with_reducible assumption) | (with_reducible exact Keeps.refl _ _) | (with_reducible refine Keeps.drewN ?_ _) | (with_reducible refine Keeps.drew ?_) | with_reducible refine Keeps.setCell ?_ (by first | (intro _; exact rfl) | (intro _; exact Or.inl rfl) | (intro _; exact Or.inr rfl) | (simp; done) | (simp; omega)) _ | (with_reducible refine Keeps.alloc ?_ _))) (by repeat (first | (with_reducible assumption) | (with_reducible exact Keeps.refl _ _) | (with_reducible refine Keeps.drewN ?_ _) | (with_reducible refine Keeps.drew ?_) | with_reducible refine Keeps.setCell ?_ (by first | (intro _; exact rfl) | (intro _; exact Or.inl rfl) | (intro _; exact Or.inr rfl) | (simp; done) | (simp; omega)) _ | (with_reducible refine Keeps.alloc ?_ _)))).mono ?_; rintro e wb ⟨A8, c8, rfl, hTb, hkb, hkab⟩; go_wp2_with fail)
      refine hK.out _ _ (fun _ => ?_) (fun hE => ?_)
      · exact hQ.out _ (by repeat (first | (with_reducible assumption) | (with_reducible exact Keeps.refl _ _) | (with_reducible refine Keeps.drewN ?_ _) | (with_reducible refine Keeps.drew ?_) | with_reducible refine Keeps.setCell ?_ (by first | (intro _; exact rfl) | (intro _; exact Or.inl rfl) | (intro _; exact Or.inr rfl) | (simp; done) | (simp; omega)) _ | (with_reducible refine Keeps.alloc ?_ _)))
      have hS := hE (by kernel_rfl)
      clear hK K hE
      try simp only [Act.put, List.setIfInBounds_toArray, List.set_cons_zero, List.set_cons_succ]
      refine wpAnyT_ready (rs := [4]) (by kernel_rfl) rfl ?_
      refine AllT.cons (o := { dst := some 9, op := Op.call { callee := Callee.value (Operand.func 21), args := #[Operand.tmp 6, Operand.tmp 8], argTypes := #[24, 24] }, type := 4, pos := "unify.go:340", after := #[{ on := 1, ground := Ground.data }, { on := 3, ground := Ground.data }, { on := 3, ground := Ground.chain }], guard := none }) rfl (fun K hK => ?_) ?_
      · (go_simp; go_at_call 21; refine (HEQ.out _ _ _ _ _ (hTa.keeps (by repeat (first | (with_reducible assumption) | (with_reducible exact Keeps.refl _ _) | (with_reducible refine Keeps.drewN ?_ _) | (with_reducible refine Keeps.drew ?_) | with_reducible refine Keeps.setCell ?_ (by first | (intro _; exact rfl) | (intro _; exact Or.inl rfl) | (intro _; exact Or.inr rfl) | (simp; done) | (simp; omega)) _ | (with_reducible refine Keeps.alloc ?_ _))) (fun _ _ h => h)) (hTb.keeps (by repeat (first | (with_reducible assumption) | (with_reducible exact Keeps.refl _ _) | (with_reducible refine Keeps.drewN ?_ _) | (with_reducible refine Keeps.drew ?_) | with_reducible refine Keeps.setCell ?_ (by first | (intro _; exact rfl) | (intro _; exact Or.inl rfl) | (intro _; exact Or.inr rfl) | (simp; done) | (simp; omega)) _ | (with_reducible refine Keeps.alloc ?_ _))) (fun _ _ h => h))).mono ?_; rintro e wc ⟨rfl, hbc⟩; have hkc0 := Keeps.of_below (X := fun _ => False) hbc; have hkc : Keeps (fun _ => False) W2 wc := Keeps.trans (by repeat (first | (with_reducible assumption) | (with_reducible exact Keeps.refl _ _) | (with_reducible refine Keeps.drewN ?_ _) | (with_reducible refine Keeps.drew ?_) | with_reducible refine Keeps.setCell ?_ (by first | (intro _; exact rfl) | (intro _; exact Or.inl rfl) | (intro _; exact Or.inr rfl) | (simp; done) | (simp; omega)) _ | (with_reducible refine Keeps.alloc ?_ _))) hkc0 (fun _ _ h => h); go_wp2_with fail)
        refine hK.out _ _ (fun _ => ?_) (fun hE => ?_)
        · exact hQ.out _ (by repeat (first | (with_reducible assumption) | (with_reducible exact Keeps.refl _ _) | (with_reducible refine Keeps.drewN ?_ _) | (with_reducible refine Keeps.drew ?_) | with_reducible refine Keeps.setCell ?_ (by first | (intro _; exact rfl) | (intro _; exact Or.inl rfl) | (intro _; exact Or.inr rfl) | (simp; done) | (simp; omega)) _ | (with_reducible refine Keeps.alloc ?_ _)))
        have hS := hE (by kernel_rfl)
        clear hK K hE
        try simp only [Act.put, List.setIfInBounds_toArray, List.set_cons_zero, List.set_cons_succ]
        refine wpAnyT_ready (rs := [5]) (by kernel_rfl) rfl ?_
        refine AllT.cons (o := { dst := some 4, op := Op.assign (Operand.tmp 9), type := 4, pos := "unify.go:340", after := #[{ on := 4, ground := Ground.data }, { on := 4, ground := Ground.chain }, { on := 0, ground := Ground.phase }, { on := 1, ground := Ground.phase }, { on := 2, ground := Ground.phase }, { on := 3, ground := Ground.phase }, { on := 4, ground := Ground.phase }], guard := none }) rfl (fun K hK => ?_) ?_
        · go_simp
          refine hK.out _ _ (fun _ => ?_) (fun hE => ?_)
          · exact hQ.out _ (by repeat (first | (with_reducible assumption) | (with_reducible exact Keeps.refl _ _) | (with_reducible refine Keeps.drewN ?_ _) | (with_reducible refine Keeps.drew ?_) | with_reducible refine Keeps.setCell ?_ (by first | (intro _; exact rfl) | (intro _; exact Or.inl rfl) | (intro _; exact Or.inr rfl) | (simp; done) | (simp; omega)) _ | (with_reducible refine Keeps.alloc ?_ _)))
          have hS := hE (by kernel_rfl)
          clear hK K hE
          try simp only [Act.put, List.setIfInBounds_toArray, List.set_cons_zero, List.set_cons_succ]
          refine wpAnyT_done (by kernel_rfl) ?_ _
          refine NoPanic.normal ?_
          go_wp2
          go_ret
          exact ⟨rfl, HB2.out.trans ((show Keeps (fun _ => False) W2 _ from (by repeat (first | (with_reducible assumption) | (with_reducible exact Keeps.refl _ _) | (with_reducible refine Keeps.drewN ?_ _) | (with_reducible refine Keeps.drew ?_) | with_reducible refine Keeps.setCell ?_ (by first | (intro _; exact rfl) | (intro _; exact Or.inl rfl) | (intro _; exact Or.inr rfl) | (simp; done) | (simp; omega)) _ | (with_reducible refine Keeps.alloc ?_ _)))).below (fun _ h => h.elim) HB2.out.size)⟩
        exact AllT.nil
      exact AllT.nil
    exact AllT.nil
  exact AllT.nil
end Go.Proofs.YthchnabhbpdfgaaDoor
