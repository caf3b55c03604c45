/- Regions that draw their order: what the plan says. No conditions. -/
import Derived.Test.YtdoddlkppkegnaaGreatDoorEvI
import Derived.Orders
namespace Go.Proofs.YtdoddlkppkegnaaGreatDoor.Ev
open Go Go.RowKit
noncomputable section
set_option linter.unusedSimpArgs false
set_option linter.unusedVariables false
/-- i comes ahead of j. -/
def bef (ms : List Nat) (i j : Nat) : Bool := Nat.testBit (nth ms j) i
theorem lor_bit (a b i : Nat) : Nat.testBit (Nat.lor a b) i = (Nat.testBit a i || Nat.testBit b i) := Nat.testBit_or a b i
theorem pow_bit (k i : Nat) : Nat.testBit (Nat.pow 2 k) i = decide (k = i) := Nat.testBit_two_pow
theorem orMask_bit (ms : List Nat) : ∀ (l : List Edge) (i : Nat), Nat.testBit (orMask ms l) i = true → ∃ e ∈ l, Region.binds .any e = true ∧ (e.on = i ∨ bef ms i e.on = true)
  | [], i, h => by simp [orMask] at h
  | e :: l, i, h => by
    unfold orMask at h
    cases hb : Region.binds .any e with
    | false =>
      rw [hb] at h
      obtain ⟨e', h1, h2⟩ := orMask_bit ms l i h
      exact ⟨e', List.mem_cons_of_mem _ h1, h2⟩
    | true =>
      rw [hb] at h
      simp only [lor_bit, pow_bit, Bool.or_eq_true, decide_eq_true_eq] at h
      rcases h with (h | h) | h
      · obtain ⟨e', h1, h2⟩ := orMask_bit ms l i h
        exact ⟨e', List.mem_cons_of_mem _ h1, h2⟩
      · exact ⟨e, List.mem_cons_self, hb, .inl h⟩
      · exact ⟨e, List.mem_cons_self, hb, .inr h⟩
theorem orMask_of (ms : List Nat) : ∀ (l : List Edge) (e : Edge), e ∈ l → Region.binds .any e = true → Nat.testBit (orMask ms l) e.on = true
  | [], e, h, _ => by cases h
  | e' :: l, e, h, hb => by
    unfold orMask
    rcases List.mem_cons.1 h with rfl | h
    · rw [hb]
      simp [lor_bit, pow_bit]
    · have ih := orMask_of ms l e h hb
      cases hb' : Region.binds .any e' with
      | false => exact ih
      | true => simp [lor_bit, ih]
theorem masksOk_at (ms : List Nat) : ∀ (l : List Oper) (j : Nat), masksOk ms l j = true → ∀ (k : Nat) (o : Oper), l[k]? = some o → nth ms (j + k) = orMask ms o.after.toList
  | [], j, h, k, o, hk => by simp at hk
  | o' :: l, j, h, k, o, hk => by
    unfold masksOk at h
    simp only [Bool.and_eq_true] at h
    cases k with
    | zero => simp at hk; subst hk; exact beq_iff.1 h.1
    | succ k =>
      have := masksOk_at ms l (j + 1) h.2 k o (by simpa using hk)
      rw [← this]; congr 1; omega
theorem inMask_bit {m d : Nat} (h : inMask m d = true) {i : Nat} (hi : Nat.testBit m i = true) : Nat.testBit d i = true := by
  have h1 : Nat.land m d = m := beq_iff.1 h
  have h2 : Nat.testBit (Nat.land m d) i = (Nat.testBit m i && Nat.testBit d i) := Nat.testBit_and m d i
  rw [h1, hi] at h2
  simpa using h2.symm
section
variable {ops : List Oper} {ms : List Nat}
theorem row_cons {d : Nat} {last : Option Nat} {i : Nat} {l : List Nat} (h : rowOk ops ms d last (i :: l) = true) : i < ops.length ∧ Nat.testBit d i = false ∧ inMask (nth ms i) d = true ∧ (∀ c, last = some c → bef ms c i = true) ∧
    rowOk ops ms (Nat.lor d (Nat.pow 2 i)) (match Nat.beq (kindAt ops i) 3 with | true => some i | false => last) l = true := by
  unfold rowOk at h
  simp only [Bool.and_eq_true, Bool.not_eq_true'] at h
  obtain ⟨⟨⟨⟨h1, h2⟩, h3⟩, h4⟩, h5⟩ := h
  refine ⟨blt_iff.1 h1, h2, h3, fun c hc => ?_, h5⟩
  subst hc
  exact h4
theorem row_blocked : ∀ (l : List Nat) (d c : Nat), rowOk ops ms d (some c) l = true → ∀ i ∈ l, bef ms c i = true ∨ ∃ c' ∈ l, bef ms c' i = true
  | [], _, _, _, i, hi => by cases hi
  | h :: l, d, c, hr, i, hi => by
    obtain ⟨_, _, _, h4, h5⟩ := row_cons hr
    rcases List.mem_cons.1 hi with rfl | hi
    · exact .inl (h4 c rfl)
    · cases hk : Nat.beq (kindAt ops h) 3 with
      | true =>
        rw [hk] at h5
        rcases row_blocked l _ h h5 i hi with h6 | ⟨c', h6, h7⟩
        · exact .inr ⟨h, List.mem_cons_self, h6⟩
        · exact .inr ⟨c', List.mem_cons_of_mem _ h6, h7⟩
      | false =>
        rw [hk] at h5
        rcases row_blocked l _ c h5 i hi with h6 | ⟨c', h6, h7⟩
        · exact .inl h6
        · exact .inr ⟨c', List.mem_cons_of_mem _ h6, h7⟩
theorem row_new : ∀ (l : List Nat) (d : Nat) (last : Option Nat), rowOk ops ms d last l = true → ∀ i ∈ l, Nat.testBit d i = false
  | [], _, _, _, i, hi => by cases hi
  | h :: l, d, last, hr, i, hi => by
    obtain ⟨_, h2, _, _, h5⟩ := row_cons hr
    rcases List.mem_cons.1 hi with rfl | hi
    · exact h2
    · have := row_new l _ _ h5 i hi
      rw [lor_bit] at this
      simp only [Bool.or_eq_false_iff] at this
      exact this.1
theorem row_all : ∀ (l : List Nat) (d : Nat) (last : Option Nat), rowOk ops ms d last l = true → ∀ i, i < ops.length → Nat.testBit d i = true ∨ i ∈ l
  | [], d, _, hr, i, hi => by
    have h1 : d = 2 ^ ops.length - 1 := beq_iff.1 hr
    left
    rw [h1, Nat.testBit_two_pow_sub_one]
    simpa using hi
  | h :: l, d, last, hr, i, hi => by
    obtain ⟨_, _, _, _, h5⟩ := row_cons hr
    rcases row_all l _ _ h5 i hi with h6 | h6
    · rw [lor_bit, pow_bit] at h6
      simp only [Bool.or_eq_true, decide_eq_true_eq] at h6
      rcases h6 with h6 | rfl
      · exact .inl h6
      · exact .inr List.mem_cons_self
    · exact .inr (List.mem_cons_of_mem _ h6)
theorem dstsOk_at : ∀ (l : List Oper) (d : Nat), dstsOk l d = true → ∀ (k : Nat) (o : Oper) (t : Nat), l[k]? = some o → o.dst = some t → t < top ∧ Nat.testBit d t = false ∧ ∀ (k' : Nat) (o' : Oper), l[k']? = some o' → o'.dst = some t → k' = k
  | [], d, h, k, o, t, hk, _ => by simp at hk
  | o1 :: l, d, h, k, o, t, hk, ht => by
    unfold dstsOk at h
    cases h1 : o1.dst with
    | none =>
      simp only [h1] at h
      cases k with
      | zero => simp at hk; subst hk; rw [h1] at ht; cases ht
      | succ k =>
        obtain ⟨h2, h3, h4⟩ := dstsOk_at l d h k o t (by simpa using hk) ht
        refine ⟨h2, h3, fun k' o' hk' ho' => ?_⟩
        cases k' with
        | zero => simp at hk'; subst hk'; rw [h1] at ho'; cases ho'
        | succ k' => rw [h4 k' o' (by simpa using hk') ho']
    | some t1 =>
      simp only [h1, Bool.and_eq_true, Bool.not_eq_true'] at h
      obtain ⟨⟨h2, h3⟩, h4⟩ := h
      have hlater : ∀ (k' : Nat) (o' : Oper) (t' : Nat), l[k']? = some o' → o'.dst = some t' → t' ≠ t1 ∧ Nat.testBit d t' = false := fun k' o' t' hk' ho' => by
        obtain ⟨_, h5, _⟩ := dstsOk_at l _ h4 k' o' t' hk' ho'
        rw [lor_bit, pow_bit] at h5
        simp only [Bool.or_eq_false_iff, decide_eq_false_iff_not] at h5
        exact ⟨fun e => h5.2 e.symm, h5.1⟩
      cases k with
      | zero =>
        simp at hk; subst hk
        rw [h1] at ht; cases ht
        refine ⟨blt_iff.1 h2, h3, fun k' o' hk' ho' => ?_⟩
        cases k' with
        | zero => rfl
        | succ k' => exact absurd rfl (hlater k' o' t (by simpa using hk') ho').1
      | succ k =>
        obtain ⟨h5, h6, h7⟩ := dstsOk_at l _ h4 k o t (by simpa using hk) ht
        obtain ⟨h8, h9⟩ := hlater k o t (by simpa using hk) ht
        refine ⟨h5, h9, fun k' o' hk' ho' => ?_⟩
        cases k' with
        | zero => simp at hk'; subst hk'; rw [h1] at ho'; cases ho'; exact absurd rfl h8
        | succ k' => rw [h7 k' o' (by simpa using hk') ho']
theorem writeOk_at {s : Bool} {j t : Nat} : ∀ (l : List Oper) (i : Nat), writeOk ms s j t l i = true → ∀ (k : Nat) (o : Oper), l[k]? = some o → o.dst = some t → (s = false ∧ i + k = j) ∨ bef ms (i + k) j = true ∨ (s = false ∧ bef ms j (i + k) = true)
  | [], i, h, k, o, hk, _ => by simp at hk
  | o1 :: l, i, h, k, o, hk, ht => by
    unfold writeOk at h
    simp only [Bool.and_eq_true] at h
    cases k with
    | zero =>
      simp at hk; subst hk
      have h1 := h.1
      rw [ht] at h1
      simp only [Bool.or_eq_true, Bool.not_eq_true', Bool.and_eq_true] at h1
      rcases h1 with ((h1 | h1) | h1) | h1
      · rw [beq_yes rfl] at h1; cases h1
      · exact .inl ⟨h1.1, beq_iff.1 h1.2⟩
      · exact .inr (.inl h1)
      · exact .inr (.inr h1)
    | succ k =>
      have := writeOk_at l (i + 1) h.2 k o (by simpa using hk) ht
      have e1 : i + 1 + k = i + (k + 1) := by omega
      rw [e1] at this; exact this
theorem looksOk_at {all : List Oper} : ∀ (l : List Oper) (j : Nat), looksOk all ms l j = true → ∀ (k : Nat) (o : Oper), l[k]? = some o → ∀ t ∈ looks all o, writeOk ms (Nat.beq (kindOf o.op) 1) (j + k) t all 0 = true
  | [], j, h, k, o, hk => by simp at hk
  | o1 :: l, j, h, k, o, hk => by
    unfold looksOk at h
    simp only [Bool.and_eq_true] at h
    cases k with
    | zero =>
      simp at hk; subst hk
      intro t ht
      exact List.all_eq_true.1 h.1 t ht
    | succ k =>
      intro t ht
      have := looksOk_at l (j + 1) h.2 k o (by simpa using hk) t ht
      have e1 : j + 1 + k = j + (k + 1) := by omega
      rw [e1] at this; exact this
end
/-- What is known of a region by its text alone. -/
structure Stat (ops : Array Oper) (ms : List Nat) : Prop where
  mask : ∀ (j : Nat) (o : Oper), ops[j]? = some o → nth ms j = orMask ms o.after.toList
  dst : ∀ (i j : Nat) (oi oj : Oper) (t : Nat), ops[i]? = some oi → ops[j]? = some oj → oi.dst = some t → oj.dst = some t → i = j
  dtop : ∀ (i : Nat) (o : Oper) (t : Nat), ops[i]? = some o → o.dst = some t → t < top
  look : ∀ (j : Nat) (o : Oper) (t i : Nat) (oi : Oper), ops[j]? = some o → t ∈ looks ops.toList o → ops[i]? = some oi → oi.dst = some t → i = j ∨ bef ms i j = true ∨ (bef ms j i = true ∧ kindOf o.op ≠ 1)
  look1 : ∀ (j : Nat) (o : Oper) (t i : Nat) (oi : Oper), ops[j]? = some o → t ∈ looks ops.toList o → ops[i]? = some oi → oi.dst = some t → kindOf o.op = 1 → bef ms i j = true
  nodef : ∀ (j : Nat) (o : Oper), ops[j]? = some o → ∀ c, o.op ≠ .defer c
theorem bitQ_eq (m i : Nat) : bitQ m i = Nat.testBit m i := by
  rw [Nat.testBit_eq_decide_div_mod_eq]
  show Nat.beq (m / 2 ^ i % 2) 1 = _
  rw [Bool.eq_iff_iff, beq_iff, decide_eq_true_iff]
theorem ifB_and {a b : Bool} : ifB a b false = (a && b) := by cases a <;> rfl
theorem ifB_nand {a b : Bool} : ifB a false b = (!a && b) := by cases a <;> rfl
theorem orQ_eq (ms : List Nat) : ∀ l : List Edge, orQ ms l = orMask ms l
  | [] => rfl
  | e :: l => by
    show ifB (Region.binds .any e) (Nat.lor (Nat.lor (orQ ms l) (Nat.pow 2 e.on)) (nth ms e.on)) (orQ ms l) = _
    rw [orQ_eq ms l]
    conv => rhs; unfold orMask
    cases Region.binds .any e <;> rfl
theorem masksQ_eq (ms : List Nat) : ∀ (l : List Oper) (j : Nat), masksQ ms l j = masksOk ms l j
  | [], _ => rfl
  | o :: l, j => by
    show ifB (Nat.beq (nth ms j) (orQ ms o.after.toList)) (masksQ ms l (j + 1)) false = _
    rw [ifB_and, orQ_eq, masksQ_eq ms l]
    conv => rhs; unfold masksOk
theorem dstsQ_eq : ∀ (l : List Oper) (d : Nat), dstsQ l d = dstsOk l d
  | [], _ => rfl
  | o :: l, d => by
    show Option.rec (motive := fun _ => Bool) (dstsQ l d) (fun t => ifB (Nat.blt t top) (ifB (bitQ d t) false (dstsQ l (Nat.lor d (Nat.pow 2 t)))) false) o.dst = _
    conv => rhs; unfold dstsOk
    cases o.dst with
    | none => exact dstsQ_eq l d
    | some t =>
      show ifB (Nat.blt t top) (ifB (bitQ d t) false (dstsQ l (Nat.lor d (Nat.pow 2 t)))) false = _
      rw [ifB_and, ifB_nand, bitQ_eq, dstsQ_eq l]
      exact (Bool.and_assoc _ _ _).symm
theorem writeQ_eq (ms : List Nat) (s : Bool) (j t : Nat) : ∀ (l : List Oper) (i : Nat), writeQ ms s j t l i = writeOk ms s j t l i
  | [], _ => rfl
  | o :: l, i => by
    show ifB (Option.rec (motive := fun _ => Bool) true (fun d => ifB (Nat.beq d t) ((!s && Nat.beq i j) || Nat.testBit (nth ms j) i || (!s && Nat.testBit (nth ms i) j)) true) o.dst) (writeQ ms s j t l (i + 1)) false = _
    rw [ifB_and, writeQ_eq ms s j t l]
    conv => rhs; unfold writeOk
    cases o.dst with
    | none => rfl
    | some d =>
      show (ifB (Nat.beq d t) _ true && _) = ((!Nat.beq d t || _ || _ || _) && _)
      cases Nat.beq d t <;> simp [ifB]
theorem allQ_eq (f : Nat → Bool) : ∀ l : List Nat, allQ f l = l.all f
  | [] => rfl
  | x :: l => by
    show ifB (f x) (allQ f l) false = _
    rw [ifB_and, allQ_eq f l]; rfl
theorem looksQ_eq (all : List Oper) (ms : List Nat) : ∀ (l : List Oper) (j : Nat), looksQ all ms l j = looksOk all ms l j
  | [], _ => rfl
  | o :: l, j => by
    show ifB (allQ (fun t => writeQ ms (Nat.beq (kindOf o.op) 1) j t all 0) (looks all o)) (looksQ all ms l (j + 1)) false = _
    rw [ifB_and, looksQ_eq all ms l, allQ_eq]
    conv => rhs; unfold looksOk
    simp only [writeQ_eq]
theorem rowQ_eq (ops : List Oper) (ms : List Nat) : ∀ (l : List Nat) (d : Nat) (last : Option Nat), rowQ ops ms l d last = rowOk ops ms d last l
  | [], _, _ => rfl
  | i :: l, d, last => by
    show ifB (Nat.blt i ops.length) (ifB (bitQ d i) false (ifB (inMask (nth ms i) d) (ifB (Option.rec (motive := fun _ => Bool) true (fun c => bitQ (nth ms i) c) last) (rowQ ops ms l (Nat.lor d (Nat.pow 2 i)) (ifB (Nat.beq (kindAt ops i) 3) (some i) last)) false) false)) false = _
    rw [ifB_and, ifB_nand, ifB_and, ifB_and, rowQ_eq ops ms l, bitQ_eq]
    have e1 : (Option.rec (motive := fun _ => Bool) true (fun c => bitQ (nth ms i) c) last) = (match last with | none => true | some c => Nat.testBit (nth ms i) c) := by
      cases last with
      | none => rfl
      | some c => exact bitQ_eq _ _
    have e2 : (ifB (Nat.beq (kindAt ops i) 3) (some i) last) = (match Nat.beq (kindAt ops i) 3 with | true => some i | false => last) := by
      cases Nat.beq (kindAt ops i) 3 <;> rfl
    rw [e1, e2]
    conv => rhs; unfold rowOk
    simp only [Bool.and_assoc]
    rfl
theorem noDefer_eq : ∀ l : List Oper, noDefer l = l.all (fun o => match o.op with | .defer _ => false | _ => true)
  | [] => rfl
  | o :: l => by
    show ifB (match o.op with | .defer _ => false | _ => true) (noDefer l) false = _
    rw [ifB_and, noDefer_eq l]; rfl
theorem plan_stat {ops : Array Oper} {l : List (Nat × List Nat)} (h : planOf ops.toList = some l) : ∃ ms row, Stat ops ms ∧ rowOk ops.toList ms 0 none row = true ∧ l = stepsOf ops.toList ms [] row := by
  unfold planOf at h
  simp only at h
  split at h
  · rename_i hb
    simp only [ifB_and, Bool.and_eq_true, noDefer_eq, masksQ_eq, rowQ_eq, dstsQ_eq, looksQ_eq] at hb
    obtain ⟨h0, h1, h2, h3, h4⟩ := hb
    cases h
    refine ⟨_, _, ⟨fun j o ho => ?_, fun i j oi oj t hi hj hti htj => ?_, fun i o t hi ht => ?_, fun j o t i oi hj ht hi hti => ?_, fun j o t i oi hj ht hi hti hk => ?_, fun j o hj c hc => ?_⟩, h2, rfl⟩
    · have := masksOk_at _ _ 0 h1 j o (by simpa using ho)
      rwa [Nat.zero_add] at this
    · exact ((dstsOk_at _ 0 h3 j oj t (by simpa using hj) htj).2.2 i oi (by simpa using hi) hti)
    · exact (dstsOk_at _ 0 h3 i o t (by simpa using hi) ht).1
    · have := looksOk_at _ 0 h4 j o (by simpa using hj) t ht
      have := writeOk_at _ 0 this i oi (by simpa using hi) hti
      rw [Nat.zero_add, Nat.zero_add] at this
      rcases this with ⟨_, h⟩ | h | ⟨h5, h6⟩
      · exact .inl h
      · exact .inr (.inl h)
      · exact .inr (.inr ⟨h6, fun e => by rw [e] at h5; cases h5⟩)
    · have := looksOk_at _ 0 h4 j o (by simpa using hj) t ht
      have := writeOk_at _ 0 this i oi (by simpa using hi) hti
      rw [Nat.zero_add, Nat.zero_add, hk] at this
      rcases this with ⟨h5, _⟩ | h | ⟨h5, h6⟩
      · cases h5
      · exact h
      · cases h5
    · have := List.all_eq_true.1 h0 o (List.mem_of_getElem? (by simpa using hj : ops.toList[j]? = some o))
      rw [hc] at this
      cases this
  · cases h
section
variable {ops : Array Oper} {ms : List Nat} (S : Stat ops ms) {listed : Array Bool}
include S
theorem Stat.clo {j : Nat} {o : Oper} (hj : ops[j]? = some o) {i : Nat} (h : bef ms i j = true) : ∃ e ∈ o.after, Region.binds .any e = true ∧ (e.on = i ∨ bef ms i e.on = true) := by
  unfold bef at h
  rw [S.mask j o hj] at h
  obtain ⟨e, h1, h2⟩ := orMask_bit ms _ i h
  exact ⟨e, by simpa using h1, h2⟩
/-- Where nothing may come up any more all has come up. -/
theorem row_listed (hr : Region.ready .any ops listed = []) (hsz : listed.size = ops.size) : ∀ (l : List Nat) (d : Nat) (last : Option Nat), rowOk ops.toList ms d last l = true → (∀ i, Nat.testBit d i = true → listed.getD i false = true) → ∀ i ∈ l, listed.getD i false = true
  | [], _, _, _, _, i, hi => by cases hi
  | h :: l, d, last, hrow, hd, i, hi => by
    obtain ⟨h1, h2, h3, h4, h5⟩ := row_cons hrow
    have hh : listed.getD h false = true := by
      cases hq : listed.getD h false with
      | true => rfl
      | false =>
        exfalso
        have hlt : h < ops.size := by simpa using h1
        obtain ⟨o, ho⟩ : ∃ o, ops[h]? = some o := ⟨ops[h], Array.getElem?_eq_getElem hlt⟩
        have hmem : h ∈ Region.ready .any ops listed := by
          refine mem_ready.2 ⟨?_, o, ho, fun e he hb => ?_⟩
          · rw [Array.getD_eq_getD_getElem?] at hq ⊢
            rw [Array.getElem?_eq_getElem (by omega)] at hq ⊢
            exact hq
          · apply hd
            apply inMask_bit h3
            rw [S.mask h o ho]
            exact orMask_of ms _ e (by simpa using he) hb
        rw [hr] at hmem
        cases hmem
    rcases List.mem_cons.1 hi with rfl | hi
    · exact hh
    · refine row_listed hr hsz l _ _ h5 (fun i hi => ?_) i hi
      rw [lor_bit, pow_bit] at hi
      simp only [Bool.or_eq_true, decide_eq_true_eq] at hi
      rcases hi with hi | rfl
      · exact hd i hi
      · exact hh
end
end
end Go.Proofs.YtdoddlkppkegnaaGreatDoor.Ev
