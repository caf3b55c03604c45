/- Functions that the evaluator does not walk into: plain laws of what it answers for them. No program in sight. -/
import Derived.Test.YtnkbpjmijeeddaaGreatDoorEvG4
import Derived.Lib.Index
import Derived.Lib.Bytealg
import Derived.Lib.Replace
namespace Go.Proofs.YtnkbpjmijeeddaaGreatDoor.Ev
open Go Go.RowKit
set_option linter.unusedSimpArgs false
set_option linter.unusedVariables false
theorem isSym_yes {i : Nat} {v : AV} {K : Bool} (h : isSym i v K = true) : v = .sym i ∧ K = true := by
  cases v with
  | sym j =>
    obtain ⟨h1, h2⟩ := ifB_yes (show ifB (Nat.beq j i) K false = true from h)
    rw [beq_iff.1 h1]; exact ⟨rfl, h2⟩
  | _ => cases h
theorem preNs_eq : ∀ (p l : List UInt8), preNs (p.map UInt8.toNat) (l.map UInt8.toNat) = p.isPrefixOf l
  | [], l => by cases l <;> rfl
  | a :: p, [] => rfl
  | a :: p, b :: l => by
    show ifB (Nat.beq a.toNat b.toNat) (preNs (p.map UInt8.toNat) (l.map UInt8.toNat)) false = (a == b && p.isPrefixOf l)
    rw [preNs_eq p l]
    by_cases h : a = b
    · subst h
      rw [beq_yes rfl]; simp [ifB]
    · have h1 : a.toNat ≠ b.toNat := fun e => h (UInt8.toNat_inj.1 e)
      rw [beq_no h1]
      have : (a == b) = false := by simpa using h
      rw [this]; rfl
theorem subNs_eq (p : List UInt8) : ∀ (l : List UInt8) (i : Nat), subNs (p.map UInt8.toNat) (l.map UInt8.toNat) i = if Lib.index l p = -1 then -1 else Lib.index l p + i
  | [], i => by
    cases p with
    | nil =>
      show (Int.ofNat i) = _
      simp [Lib.index]
    | cons a p =>
      show (Int.negSucc 0) = _
      simp [Lib.index]
  | b :: l, i => by
    show ifB (preNs (p.map UInt8.toNat) ((b :: l).map UInt8.toNat)) (Int.ofNat i) (subNs (p.map UInt8.toNat) (l.map UInt8.toNat) (Nat.succ i)) = _
    rw [preNs_eq, subNs_eq p l]
    have hge := Lib.index_ge l p
    rw [show Lib.index (b :: l) p = if p.isPrefixOf (b :: l) then 0 else if Lib.index l p == -1 then -1 else Lib.index l p + 1 from rfl]
    cases h : p.isPrefixOf (b :: l) with
    | true => simp [ifB]
    | false =>
      simp only [ifB, Bool.false_eq_true, if_false]
      by_cases h1 : Lib.index l p = -1
      · simp [h1]
      · have h2 : (Lib.index l p == -1) = false := by simpa using h1
        rw [if_neg h1, h2]
        simp only [Bool.false_eq_true, if_false]
        rw [if_neg (by omega)]
        push_cast
        omega
theorem indexByte_ge (c : UInt8) : ∀ l : List UInt8, -1 ≤ Lib.indexByte l c
  | [] => by simp [Lib.indexByte]
  | b :: l => by
    have := indexByte_ge c l
    unfold Lib.indexByte
    split
    · omega
    · split <;> omega
theorem idxNs_eq (c : UInt8) : ∀ (l : List UInt8) (i : Nat), idxNs c.toNat (l.map UInt8.toNat) i = if Lib.indexByte l c = -1 then -1 else Lib.indexByte l c + i
  | [], i => by
    show (Int.negSucc 0) = _
    simp [Lib.indexByte]
  | b :: l, i => by
    show ifB (Nat.beq b.toNat c.toNat) (Int.ofNat i) (idxNs c.toNat (l.map UInt8.toNat) (Nat.succ i)) = _
    rw [idxNs_eq c l]
    have hge := indexByte_ge c l
    rw [show Lib.indexByte (b :: l) c = if b == c then 0 else if Lib.indexByte l c == -1 then -1 else Lib.indexByte l c + 1 from rfl]
    by_cases h : b = c
    · subst h
      rw [beq_yes rfl]; simp [ifB]
    · have h1 : b.toNat ≠ c.toNat := fun e => h (UInt8.toNat_inj.1 e)
      rw [beq_no h1]
      have : (b == c) = false := by simpa using h
      simp only [ifB, this, Bool.false_eq_true, if_false]
      by_cases h1 : Lib.indexByte l c = -1
      · simp [h1]
      · have h2 : (Lib.indexByte l c == -1) = false := by simpa using h1
        rw [if_neg h1, h2]
        simp only [Bool.false_eq_true, if_false]
        rw [if_neg (by omega)]
        push_cast
        omega
noncomputable def isEol (v : AV) (K : Bool) : Bool := AV.rec (motive := fun _ => Bool) (fun _ _ => false) (fun _ => false) (fun _ => false) (fun _ _ => false) (fun _ _ _ _ _ => false) (fun _ => false) (fun _ _ _ _ _ => false) (fun _ _ _ => false) (fun _ _ => false) (fun _ _ => false) (fun _ _ _ _ => false) K (fun _ => false) v
theorem isEol_yes {v : AV} {K : Bool} (h : isEol v K = true) : v = .eol ∧ K = true := by
  cases v <;> first | exact ⟨rfl, h⟩ | cases h
/-- internal/bytealg.IndexByteString. -/
noncomputable def primByte : BR := ⟨fun _ l K => asCons l fun x l => asCons l fun y l => isEol l (asStr x fun s => asInt y fun k n => ifB (sameK k .u8) (asNat n fun n => ifB (Nat.blt n 256) (frcI (idxNs n s 0) fun r => K (.int .i64 r)) false) false)⟩
/-- strings.Index; package variable g holds symbol 0. -/
noncomputable def primIdx (g : Nat) : BR := ⟨fun m l K => blkK m g fun c n _ _ => ifB (Nat.blt 0 n) (getN c 0 fun v => isSym 0 v (asCons l fun x l => asCons l fun y l => isEol l (asStr x fun s => asStr y fun p => lenK s fun n => ifB (Nat.blt n 4294967281) (frcI (subNs p s 0) fun r => K (.int .i64 r)) false))) false⟩
/-- strings.Clone. -/
noncomputable def primClone : BR := ⟨fun _ l K => asCons l fun x l => isEol l (asStr x fun s => lenK s fun n => ifB (Nat.ble n 281474976710656) (K (.str s)) false)⟩
/-- Bytes out of numbers. -/
def toBs (s : List Nat) : List UInt8 := s.map Nat.toUInt8
theorem toBs_of {b : List UInt8} {s : List Nat} (h : b.map UInt8.toNat = s) : toBs s = b := by
  subst h
  unfold toBs
  rw [List.map_map]
  have : (Nat.toUInt8 ∘ UInt8.toNat) = id := funext fun x => by simp
  rw [this, List.map_id]
def repOk (s o n : List UInt8) (k : Int) : Bool := decide (s.length < 4294967281) && decide (1 ≤ o.length) && !decide (o = n) && !decide (k = 0) && !decide (Lib.count s o = 0) && decide (s.length + Lib.count s o * n.length ≤ 140737488355328)
/-- strings.Replace where it replaces something; package variable g holds symbol 0. -/
noncomputable def primRep (g : Nat) : BR := ⟨fun m l K => blkK m g fun c n _ _ => ifB (Nat.blt 0 n) (getN c 0 fun v => isSym 0 v (asCons l fun x l => asCons l fun y l => asCons l fun z l => asCons l fun w l => isEol l (asStr x fun s => asStr y fun o => asStr z fun n => asInt w fun j k => ifB (sameK j .i64) (ifB (repOk (toBs s) (toBs o) (toBs n) k)
  (frcNs ((Lib.replaceK (toBs o) (toBs n) (Lib.replaceNum (toBs s) (toBs o) k) (toBs s)).map UInt8.toNat) fun r => K (.str r)) false) false))) false⟩
section
variable {sy : Nat → Value} {P : Program} {G : Nat} {N0 : Par} {W0 : World} {e : Env} {m : M} {nx : Nat} {W : World}
theorem cell_sym (hG : GlobOk G e) (hst : St sy N0 W0 e m nx W) {g : Nat} (hg : g < G) {K : Bool} (h : blkK m g (fun c n _ _ => ifB (Nat.blt 0 n) (getN c 0 fun v => isSym 0 v K) false) = true) : W.cell? ⟨g, 0, none⟩ = some (sy 0) ∧ K = true := by
  unfold blkK at h
  rw [T.getP_eq] at h
  cases hB : T.get none m g with
  | none => rw [hB] at h; cases h
  | some B =>
    rw [hB] at h
    obtain ⟨c, n, fz, ro⟩ := B
    obtain ⟨h1, h2⟩ := ifB_yes (show ifB (Nat.blt 0 n) (getN c 0 fun v => isSym 0 v K) false = true from h)
    unfold getN at h2
    rw [T.getP_eq] at h2
    obtain ⟨h3, h4⟩ := isSym_yes h2
    obtain ⟨sz, he⟩ := hG g hg
    obtain ⟨v, g1, g2, _⟩ := (hst.rm.blk _ _ g 0 sz hB he).cells 0 (blt_iff.1 h1)
    have g3 : RV sy e (T.get und c 0) v := g2
    rw [h3] at g3
    cases g3 with
    | sym _ _ _ => exact ⟨g1, h4⟩
    | symc hj _ _ => exact absurd hj (by omega)
/-- One function of the table. -/
def Prim1 (P : Program) (sy : Nat → Value) (G : Nat) (f : FuncId) (g : BR) : Prop :=
  ∀ (N0 : Par) (W0 : World) l K m, g.f m l K = true → ∀ e args nx W, GlobOk G e → St sy N0 W0 e m nx W → RL sy e l args →
    ∃ v v', K v = true ∧ RV sy e v v' ∧ ((callFunc f args.toArray).run P W = .ok (.value v') W ∨ ((callFunc f args.toArray).run P W = .ok (.enter f args.toArray) W ∧ Calls P f args.toArray W fun en W' => en = .returned v' ∧ Below W.heap.size W W'))
theorem index_ok {f : FuncId} {g : Nat} (hg : g < G) (henter : ∀ (a b : Value) (W : World), (callFunc f #[a, b]).run P W = .ok (.enter f #[a, b]) W)
    (hc : ∀ (s sub : ByteArray) (w : World), s.size < 4294967281 → w.cell? ⟨g, 0, none⟩ = some (sy 0) → Calls P f #[.string s, .string sub] w fun e w' => e = .returned (.int .i64 (Lib.index s.data.toList sub.data.toList)) ∧ w' = w) : Prim1 P sy G f (primIdx g) := by
  intro N0 W0 l K m h e args nx W hG hst hl
  obtain ⟨h1, h2⟩ := cell_sym hG hst hg h
  obtain ⟨x, l1, rfl, h3⟩ := asCons_yes h2
  obtain ⟨y, l2, rfl, h4⟩ := asCons_yes h3
  obtain ⟨rfl, h4⟩ := isEol_yes h4
  obtain ⟨s, rfl, h5⟩ := asStr_yes h4
  obtain ⟨p, rfl, h6⟩ := asStr_yes h5
  rw [lenK_eq] at h6
  obtain ⟨h7, h8⟩ := ifB_yes h6
  rw [frcI_eq] at h8
  cases hl with
  | cons hs hl => cases hl with
    | cons hp hl =>
      cases hl
      cases hs with
      | str hs =>
        cases hp with
        | str hp =>
          rename_i b b'
          have e1 : subNs p s 0 = Lib.index b.data.toList b'.data.toList := by
            rw [← hs, ← hp, subNs_eq]
            split
            · rename_i h; rw [h]
            · simp
          have hsz : b.size < 4294967281 := by
            have h9 := blt_iff.1 h7
            rw [← hs] at h9
            rw [Lib.size_eq]
            simpa using h9
          rw [e1] at h8
          exact ⟨_, _, h8, RV.int _ _, .inr ⟨henter _ _ W, (hc b b' W hsz h1).mono fun en W' hh => ⟨hh.1, by rw [hh.2]; exact Below.refl _ _⟩⟩⟩
theorem clone_ok {f : FuncId} (henter : ∀ (a : Value) (W : World), (callFunc f #[a]).run P W = .ok (.enter f #[a]) W)
    (hc : ∀ (s : ByteArray) (w : World), s.size ≤ 281474976710656 → Calls P f #[.string s] w fun e w' => e = .returned (.string s) ∧ Below w.heap.size w w') : Prim1 P sy G f primClone := by
  intro N0 W0 l K m h e args nx W hG hst hl
  obtain ⟨x, l1, rfl, h3⟩ := asCons_yes (show asCons l _ = true from h)
  obtain ⟨rfl, h4⟩ := isEol_yes h3
  obtain ⟨s, rfl, h5⟩ := asStr_yes h4
  rw [lenK_eq] at h5
  obtain ⟨h7, h8⟩ := ifB_yes h5
  cases hl with
  | cons hs hl =>
    cases hl
    cases hs with
    | str hs =>
      rename_i b
      have hsz : b.size ≤ 281474976710656 := by
        have h9 := ble_iff.1 h7
        rw [← hs] at h9
        rw [Lib.size_eq]
        simpa using h9
      exact ⟨_, _, h8, RV.str hs, .inr ⟨henter _ W, hc b W hsz⟩⟩
theorem byte_ok {f : FuncId} (hx : ∀ (s : ByteArray) (c : Int) (W : World), (callFunc f #[.string s, .int .u8 c]).run P W = .ok (.value (.int .i64 (Lib.indexByte s.data.toList c.toNat.toUInt8))) W) : Prim1 P sy G f primByte := by
  intro N0 W0 l K m h e args nx W hG hst hl
  obtain ⟨x, l1, rfl, h3⟩ := asCons_yes (show asCons l _ = true from h)
  obtain ⟨y, l2, rfl, h4⟩ := asCons_yes h3
  obtain ⟨rfl, h4⟩ := isEol_yes h4
  obtain ⟨s, rfl, h5⟩ := asStr_yes h4
  obtain ⟨k, c, rfl, h6⟩ := asInt_yes h5
  obtain ⟨h7, h8⟩ := ifB_yes h6
  obtain rfl := sameK_yes h7
  obtain ⟨n, rfl, h9⟩ := asNat_yes h8
  obtain ⟨h10, h11⟩ := ifB_yes h9
  rw [frcI_eq] at h11
  cases hl with
  | cons hs hl => cases hl with
    | cons hp hl =>
      cases hl
      cases hp
      cases hs with
      | str hs =>
        rename_i b
        have hn : n < 256 := blt_iff.1 h10
        have e0 : n.toUInt8.toNat = n := by simp; omega
        have e1 : idxNs n s 0 = Lib.indexByte b.data.toList n.toUInt8 := by
          have := idxNs_eq n.toUInt8 b.data.toList 0
          rw [e0, hs] at this
          rw [this]
          split
          · rename_i h; rw [h]
          · simp
        rw [e1] at h11
        exact ⟨_, _, h11, RV.int _ _, .inl (by have := hx b (n : Int) W; simpa using this)⟩
theorem replace_ok {f : FuncId} {g : Nat} (hg : g < G) (henter : ∀ (a b c d : Value) (W : World), (callFunc f #[a, b, c, d]).run P W = .ok (.enter f #[a, b, c, d]) W)
    (hc : ∀ (s o n : ByteArray) (k : Int) (w : World), s.size < 4294967281 → w.cell? ⟨g, 0, none⟩ = some (sy 0) → 1 ≤ o.size → o ≠ n → k ≠ 0 → Lib.countB s o ≠ 0 → s.size + Lib.countB s o * n.size ≤ 140737488355328 →
      Calls P f #[.string s, .string o, .string n, .int .i64 k] w fun e w' => e = .returned (.string ⟨(Lib.replaceK o.data.toList n.data.toList (Lib.replaceNum s.data.toList o.data.toList k) s.data.toList).toArray⟩) ∧ Below w.heap.size w w') : Prim1 P sy G f (primRep g) := by
  intro N0 W0 l K m h e args nx W hG hst hl
  obtain ⟨h1, h2⟩ := cell_sym hG hst hg h
  obtain ⟨x, l1, rfl, h3⟩ := asCons_yes h2
  obtain ⟨y, l2, rfl, h4⟩ := asCons_yes h3
  obtain ⟨z, l3, rfl, g1⟩ := asCons_yes h4
  obtain ⟨w, l4, rfl, g2⟩ := asCons_yes g1
  obtain ⟨rfl, g3⟩ := isEol_yes g2
  obtain ⟨s, rfl, h5⟩ := asStr_yes g3
  obtain ⟨o, rfl, h6⟩ := asStr_yes h5
  obtain ⟨n, rfl, g4⟩ := asStr_yes h6
  obtain ⟨j, k, rfl, h7⟩ := asInt_yes g4
  obtain ⟨h8, h9⟩ := ifB_yes h7
  obtain rfl := sameK_yes h8
  obtain ⟨h10, h11⟩ := ifB_yes h9
  rw [frcNs_eq] at h11
  cases hl with
  | cons hs hl => cases hl with
    | cons ho hl => cases hl with
      | cons hn hl => cases hl with
        | cons hk hl =>
          cases hl
          cases hk
          cases hs with
          | str hs => cases ho with
            | str ho => cases hn with
              | str hn =>
                rename_i bs bo bn
                rw [toBs_of hs, toBs_of ho, toBs_of hn] at h10 h11
                simp only [repOk, Bool.and_eq_true, decide_eq_true_eq, Bool.not_eq_true', decide_eq_false_iff_not] at h10
                obtain ⟨⟨⟨⟨⟨c1, c2⟩, c3⟩, c4⟩, c5⟩, c6⟩ := h10
                have z1 : bs.size = bs.data.toList.length := Lib.size_eq bs
                have z2 : bo.size = bo.data.toList.length := Lib.size_eq bo
                have z3 : bn.size = bn.data.toList.length := Lib.size_eq bn
                refine ⟨_, _, h11, RV.str ?_, .inr ⟨henter _ _ _ _ W, hc bs bo bn k W (by omega) h1 (by omega) (fun e => c3 (by rw [e])) c4 c5 (by rw [z1, z3]; exact c6)⟩⟩
                rw [List.toList_toArray]
end
end Go.Proofs.YtnkbpjmijeeddaaGreatDoor.Ev
