/- The evaluator's operations that touch no memory do what the model's do, third part. No conditions. -/
import Derived.Test.YtdoddlkppkegnaaGreatDoorEvP
namespace Go.Proofs.YtdoddlkppkegnaaGreatDoor.Ev
set_option linter.unusedVariables false
open Go Go.RowKit
set_option linter.unusedSimpArgs false
section
variable {sy : Nat → Value} {N0 : Par} {W0 : World} {P : Program} {G : Nat}
theorem zeroA_run {t : TypeId} {z : AV} {e : Env} (h : zeroA P t = some z) : ∃ v, RV sy e z v ∧ ∀ W, (zeroValue t).run P W = .ok v W := by
  unfold zeroA at h
  try simp only [undF_eq, infoF_eq, funF_eq] at h
  cases hi : P.info? t with
  | none => rw [hi] at h; cases h
  | some i =>
    rw [hi] at h
    cases hz : i.zero with
    | none => simp only [hz] at h; cases h
    | some v => simp only [hz] at h; exact ⟨v, absF_ok 8 v z h, fun W => by simp [zeroValue, typeInfo, hi, hz]⟩
theorem op_typeAssert (x : Operand) (s t : TypeId) (ok : Bool) : OpOk P sy N0 W0 G (cOp P G (.typeAssert x s t ok)) (.typeAssert x s t ok) := by
  cases hu : P.underlying t with
  | none => simp only [cOp, hu, BX.f, undF_eq, infoF_eq, funF_eq]; exact xNo_ok
  | some d =>
    by_cases hd : ∃ ms, d = .interface ms
    · obtain ⟨ms, rfl⟩ := hd
      simp only [cOp, hu, BX.f, undF_eq, infoF_eq, funF_eq]; exact xNo_ok
    · cases hz : zeroA P t with
      | none =>
        have e1 : cOp P G (.typeAssert x s t ok) = xNo := by
          simp only [cOp, hu, hz, BX.f, undF_eq, infoF_eq, funF_eq]
          cases d <;> rfl
        rw [e1]; exact xNo_ok
      | some z =>
        cases ok with
        | true =>
          have e1 : cOp P G (.typeAssert x s t true) = xP fun a K => (cOpd G x).k a fun v => asIfc v (fun t' v => ifB (Nat.beq t' t) (K (.tup (.cons v (.cons (.bool true) .eol)))) (K (.tup (.cons z (.cons (.bool false) .eol))))) (K (.tup (.cons z (.cons (.bool false) .eol)))) := by
            simp only [cOp, hu, hz, BX.f, undF_eq, infoF_eq, funF_eq]
            cases d <;> first | rfl | exact absurd ⟨_, rfl⟩ hd
          rw [e1]
          refine xP_ok ?_
          intro a K h e act hG hops
          obtain ⟨v, h1, h2⟩ := cOpd_ok hG hops (x := x) (by simp [Op.operands]) h
          obtain ⟨zv, hz1, hz2⟩ := zeroA_run (sy := sy) (e := e) hz
          generalize hc : act.eval x = cv at h2
          rcases asIfc_yes h1 with ⟨t', w, rfl, h3⟩ | ⟨rfl, h3⟩
          · cases h2 with
            | ifc hw =>
              by_cases ht : t' = t
              · subst ht
                rw [ifB_true (Nat.beq_refl t')] at h3
                refine ⟨_, _, h3, .tup (.cons hw (.cons (.bool true) .eol)), fun o W ho => ?_⟩
                cases d <;> first | exact absurd ⟨_, rfl⟩ hd | simp [execOp, ho, hc, Instr.typeAssert, run_underlying hu]
              · rw [ifB_false (beq_no ht)] at h3
                refine ⟨_, _, h3, .tup (.cons hz1 (.cons (.bool false) .eol)), fun o W ho => ?_⟩
                cases d <;> first | exact absurd ⟨_, rfl⟩ hd | simp [execOp, ho, hc, Instr.typeAssert, run_underlying hu, ht, hz2]
          · cases h2
            refine ⟨_, _, h3, .tup (.cons hz1 (.cons (.bool false) .eol)), fun o W ho => ?_⟩
            cases d <;> first | exact absurd ⟨_, rfl⟩ hd | simp [execOp, ho, hc, Instr.typeAssert, run_underlying hu, hz2]
        | false =>
          have e1 : cOp P G (.typeAssert x s t false) = xP fun a K => (cOpd G x).k a fun v => asIfc v (fun t' v => ifB (Nat.beq t' t) (K v) false) false := by
            simp only [cOp, hu, hz, BX.f, undF_eq, infoF_eq, funF_eq]
            cases d <;> first | rfl | exact absurd ⟨_, rfl⟩ hd
          rw [e1]
          refine xP_ok ?_
          intro a K h e act hG hops
          obtain ⟨v, h1, h2⟩ := cOpd_ok hG hops (x := x) (by simp [Op.operands]) h
          generalize hc : act.eval x = cv at h2
          rcases asIfc_yes h1 with ⟨t', w, rfl, h3⟩ | ⟨_, h3⟩
          · cases h2 with
            | ifc hw =>
              obtain ⟨h4, h5⟩ := ifB_yes h3
              obtain rfl := beq_iff.1 h4
              refine ⟨_, _, h5, hw, fun o W ho => ?_⟩
              cases d <;> first | exact absurd ⟨_, rfl⟩ hd | simp [execOp, ho, hc, Instr.typeAssert, run_underlying hu]
          · cases h3
theorem ba_get {b : ByteArray} {s : List Nat} (h : b.data.toList.map UInt8.toNat = s) {k c : Nat} (hc : s[k]? = some c) : ∃ y : UInt8, b[k]? = some y ∧ y.toNat = c := by
  subst h
  rw [List.getElem?_map] at hc
  obtain ⟨y, h1, h2⟩ := Option.map_eq_some_iff.1 hc
  refine ⟨y, ?_, h2⟩
  obtain ⟨hk, h3⟩ := List.getElem?_eq_some_iff.1 h1
  have hk' : k < b.size := by simpa using hk
  rw [getElem?_pos b k hk']
  rw [Array.getElem_toList] at h3
  exact congrArg some h3
theorem op_index (t : TypeId) (x i : Operand) : OpOk P sy N0 W0 G (cOp P G (.index t x i)) (.index t x i) := by
  cases hu : P.underlying t with
  | none => simp only [cOp, hu, BX.f, undF_eq, infoF_eq, funF_eq]; exact xNo_ok
  | some d =>
    by_cases h0 : d = .string ∨ ∃ n el, d = .array n el
    · rcases h0 with rfl | ⟨n, el, rfl⟩
      · simp only [cOp, hu, BX.f, undF_eq, infoF_eq, funF_eq]
        refine xP_ok ?_
        intro a K h e act hG hops
        obtain ⟨v, h1, h2⟩ := cOpd_ok hG hops (x := x) (by simp [Op.operands]) h
        obtain ⟨w, h3, h4⟩ := cOpd_ok hG hops (x := i) (by simp [Op.operands]) h1
        obtain ⟨s, rfl, h5⟩ := asStr_yes h3
        obtain ⟨k, q, rfl, h6⟩ := asInt_yes h5
        obtain ⟨j, rfl, h7⟩ := asNat_yes h6
        rw [dropNs_eq] at h7
        generalize hc : act.eval x = cv at h2
        generalize hi : act.eval i = iv at h4
        cases h4
        cases h2 with
        | str hs =>
          rename_i b
          cases hd : List.drop j s with
          | nil => rw [hd] at h7; cases h7
          | cons c r =>
            rw [hd] at h7
            have hg : s[j]? = some c := by rw [← List.head?_drop, hd]; rfl
            obtain ⟨y, hy1, hy2⟩ := ba_get hs hg
            refine ⟨_, .int .u8 (y.toNat : Int), h7, ?_, fun o W ho => ?_⟩
            · rw [hy2]; exact .int _ _
            · simp [execOp, ho, hc, hi, Instr.index, run_underlying hu, asIntOf, hy1]
      · cases hs : sizeAt P el with
        | none => simp only [cOp, hu, hs, BX.f, undF_eq, infoF_eq, funF_eq]; exact xNo_ok
        | some s =>
          simp only [cOp, hu, hs, BX.f, undF_eq, infoF_eq, funF_eq]
          refine xP_ok ?_
          intro a K h e act hG hops
          obtain ⟨v, h1, h2⟩ := cOpd_ok hG hops (x := x) (by simp [Op.operands]) h
          obtain ⟨w, h3, h4⟩ := cOpd_ok hG hops (x := i) (by simp [Op.operands]) h1
          obtain ⟨l, rfl, h5⟩ := asAgg_yes h3
          obtain ⟨k, q, rfl, h6⟩ := asInt_yes h5
          obtain ⟨j, rfl, h7⟩ := asNat_yes h6
          obtain ⟨h8, h9⟩ := ifB_yes h7
          have hjn := blt_iff.1 h8
          generalize hc : act.eval x = cv at h2
          generalize hi : act.eval i = iv at h4
          cases h4
          cases h2 with
          | agg hl =>
            obtain ⟨y, u, h10, h11, h12⟩ := cPart_ok h9 hl
            refine ⟨y, u, h10, h11, fun o W ho => ?_⟩
            have h12' := h12 W
            have e1 : Nat.mul j s = j * s := rfl
            rw [e1] at h12'
            have hcond : (0 : Int) ≤ (j : Int) ∧ (j : Int) < (n : Int) := ⟨by omega, by omega⟩
            simp [execOp, ho, hc, hi, Instr.index, run_underlying hu, asIntOf, sizeAt_run hs, hcond, h12', hjn]
    · have e1 : cOp P G (.index t x i) = xNo := by
        simp only [cOp, hu, BX.f, undF_eq, infoF_eq, funF_eq]
        cases d <;> first | rfl | exact absurd (.inl rfl) h0 | exact absurd (.inr ⟨_, _, rfl⟩) h0
      rw [e1]; exact xNo_ok
theorem op_indexAddr (t : TypeId) (x i : Operand) : OpOk P sy N0 W0 G (cOp P G (.indexAddr t x i)) (.indexAddr t x i) := by
  cases hu : P.underlying t with
  | none => simp only [cOp, hu, BX.f, undF_eq, infoF_eq, funF_eq]; exact xNo_ok
  | some d =>
    by_cases h0 : (∃ el, d = .slice el) ∨ ∃ n el, d = .array n el
    · rcases h0 with ⟨el, rfl⟩ | ⟨n, el, rfl⟩
      · cases hs : sizeAt P el with
        | none => simp only [cOp, hu, hs, BX.f, undF_eq, infoF_eq, funF_eq]; exact xNo_ok
        | some s =>
          simp only [cOp, hu, hs, BX.f, undF_eq, infoF_eq, funF_eq]
          refine xP_ok ?_
          intro a K h e act hG hops
          obtain ⟨v, h1, h2⟩ := cOpd_ok hG hops (x := x) (by simp [Op.operands]) h
          obtain ⟨w, h3, h4⟩ := cOpd_ok hG hops (x := i) (by simp [Op.operands]) h1
          obtain ⟨k, q, rfl, h6⟩ := asInt_yes h3
          obtain ⟨j, rfl, h7⟩ := asNat_yes h6
          rcases asSlc_yes h7 with ⟨p, o', es, n, c, rfl, h8⟩ | ⟨_, h8⟩
          · obtain ⟨h9, h10⟩ := ifB_yes h8
            rw [frcN_eq] at h10
            simp only [Bool.and_eq_true] at h9
            have hes := beq_iff.1 h9.1
            have hjn := blt_iff.1 h9.2
            generalize hc : act.eval x = cv at h2
            generalize hi : act.eval i = iv at h4
            cases h4
            cases h2 with
            | slc hp hn hsz hcap =>
              refine ⟨_, _, h10, .ref hp, fun o W ho => ?_⟩
              simp [execOp, ho, hc, hi, Instr.indexAt, run_underlying hu, asIntOf, sizeAt_run hs, hjn, Addr.add_lit, Nat.add_assoc]
          · cases h8
      · cases hs : sizeAt P el with
        | none => simp only [cOp, hu, hs, BX.f, undF_eq, infoF_eq, funF_eq]; exact xNo_ok
        | some s =>
          simp only [cOp, hu, hs, BX.f, undF_eq, infoF_eq, funF_eq]
          refine xP_ok ?_
          intro a K h e act hG hops
          obtain ⟨v, h1, h2⟩ := cOpd_ok hG hops (x := x) (by simp [Op.operands]) h
          obtain ⟨w, h3, h4⟩ := cOpd_ok hG hops (x := i) (by simp [Op.operands]) h1
          obtain ⟨k, q, rfl, h6⟩ := asInt_yes h3
          obtain ⟨j, rfl, h7⟩ := asNat_yes h6
          obtain ⟨p, o', rfl, h8⟩ := asRef_yes h7
          obtain ⟨h9, h10⟩ := ifB_yes h8
          rw [frcN_eq] at h10
          have hjn := blt_iff.1 h9
          generalize hc : act.eval x = cv at h2
          generalize hi : act.eval i = iv at h4
          cases h4
          cases h2 with
          | ref hp =>
            refine ⟨_, _, h10, .ref hp, fun o W ho => ?_⟩
            simp [execOp, ho, hc, hi, Instr.indexAt, Instr.sureAddr, run_underlying hu, asIntOf, sizeAt_run hs, hjn, Addr.add_lit, Nat.add_assoc]
    · have e1 : cOp P G (.indexAddr t x i) = xNo := by
        simp only [cOp, hu, BX.f, undF_eq, infoF_eq, funF_eq]
        cases d <;> first | rfl | exact absurd (.inl ⟨_, rfl⟩) h0 | exact absurd (.inr ⟨_, _, rfl⟩) h0
      rw [e1]; exact xNo_ok
theorem op_convert_int {s d : TypeId} {ds : TypeDesc} {k : IntKind} (hs : P.underlying s = some ds) (hd : P.underlying d = some (.int k)) (x : Operand) : OpOk P sy N0 W0 G (cOp P G (.convert s d x)) (.convert s d x) := by
  have e1 : cOp P G (.convert s d x) = xP fun a K => (cOpd G x).k a fun v => asInt v fun _ n => wrapK k n fun n => K (.int k n) := by
    simp only [cOp, hs, hd, BX.f, undF_eq, infoF_eq, funF_eq]
  rw [e1]
  refine xP_ok ?_
  intro a K h e act hG hops
  obtain ⟨v, h1, h2⟩ := cOpd_ok hG hops (x := x) (by simp [Op.operands]) h
  obtain ⟨j, n, rfl, h3⟩ := asInt_yes h1
  rw [wrapK_eq] at h3
  generalize hc : act.eval x = cv at h2
  cases h2
  refine ⟨_, _, h3, .int _ _, fun o W ho => ?_⟩
  simp [execOp, ho, hc, convert, run_underlying hs, run_underlying hd, Conv.intToInt]
theorem op_convert_rune {s d : TypeId} {j : IntKind} (hs : P.underlying s = some (.int j)) (hd : P.underlying d = some .string) (x : Operand) : OpOk P sy N0 W0 G (cOp P G (.convert s d x)) (.convert s d x) := by
  have e1 : cOp P G (.convert s d x) = xP fun a K => (cOpd G x).k a fun v => asInt v fun _ n => asNat n fun n => ifB (Nat.blt n 128) (K (.str [n])) false := by
    simp only [cOp, hs, hd, BX.f, undF_eq, infoF_eq, funF_eq]
  rw [e1]
  refine xP_ok ?_
  intro a K h e act hG hops
  obtain ⟨v, h1, h2⟩ := cOpd_ok hG hops (x := x) (by simp [Op.operands]) h
  obtain ⟨j, n, rfl, h3⟩ := asInt_yes h1
  obtain ⟨m, rfl, h4⟩ := asNat_yes h3
  obtain ⟨h5, h6⟩ := ifB_yes h4
  have hm := blt_iff.1 h5
  generalize hc : act.eval x = cv at h2
  cases h2
  refine ⟨_, .string ⟨#[UInt8.ofNat m]⟩, h6, .str ?_, fun o W ho => ?_⟩
  · simp [Nat.mod_eq_of_lt (show m < 256 by omega)]
  · have h0 : ¬ (m : Int) < 0 := by omega
    have he : Utf8.encode (m : Int) = ⟨#[UInt8.ofNat m]⟩ := by
      have hv : Utf8.valid (m : Int) = true := by simp [Utf8.valid]; omega
      simp [Utf8.encode, hv, hm]
    simp [execOp, ho, hc, convert, run_underlying hs, run_underlying hd, Conv.intToString, he]
theorem op_convert_str {s d : TypeId} (hs : P.underlying s = some .string) (hd : P.underlying d = some .string) (x : Operand) : OpOk P sy N0 W0 G (cOp P G (.convert s d x)) (.convert s d x) := by
  have e1 : cOp P G (.convert s d x) = xP fun a K => (cOpd G x).k a fun v => asStr v fun s => K (.str s) := by
    simp only [cOp, hs, hd, BX.f, undF_eq, infoF_eq, funF_eq]
  rw [e1]
  refine xP_ok ?_
  intro a K h e act hG hops
  obtain ⟨v, h1, h2⟩ := cOpd_ok hG hops (x := x) (by simp [Op.operands]) h
  obtain ⟨l, rfl, h3⟩ := asStr_yes h1
  generalize hc : act.eval x = cv at h2
  cases h2 with
  | str hl =>
    refine ⟨_, _, h3, .str hl, fun o W ho => ?_⟩
    simp [execOp, ho, hc, convert, run_underlying hs, run_underlying hd]
theorem op_len (args : Array Operand) (ts : Array TypeId) : OpOk P sy N0 W0 G (cOp P G (.call { callee := .builtin .len, args, argTypes := ts })) (.call { callee := .builtin .len, args, argTypes := ts }) := by
  obtain ⟨args⟩ := args
  obtain ⟨ts⟩ := ts
  cases args with
  | nil => simp only [cOp, BX.f, undF_eq, infoF_eq, funF_eq]; exact xNo_ok
  | cons x args => cases args with
    | cons y args => simp only [cOp, BX.f, undF_eq, infoF_eq, funF_eq]; exact xNo_ok
    | nil => cases ts with
      | nil => simp only [cOp, BX.f, undF_eq, infoF_eq, funF_eq]; exact xNo_ok
      | cons t ts =>
        cases hu : P.underlying t with
        | none => simp only [cOp, hu, BX.f, undF_eq, infoF_eq, funF_eq]; exact xNo_ok
        | some d =>
          by_cases h0 : d = .string ∨ ∃ el, d = .slice el
          · rcases h0 with rfl | ⟨el, rfl⟩
            · simp only [cOp, hu, BX.f, undF_eq, infoF_eq, funF_eq]
              refine xP_ok ?_
              intro a K h e act hG hops
              obtain ⟨v, h1, h2⟩ := cOpd_ok hG hops (x := x) (by simp [Op.operands, Call.operands]) h
              obtain ⟨s, rfl, h3⟩ := asStr_yes h1
              rw [lenK_eq] at h3
              generalize hc : act.eval x = cv at h2
              cases h2 with
              | str hs =>
                refine ⟨_, _, h3, .int _ _, fun o W ho => ?_⟩
                simp [execOp, ho, hc, resolve, invoke, builtin, Builtin.len_, run_underlying hu, goInt, str_size hs]
            · simp only [cOp, hu, BX.f, undF_eq, infoF_eq, funF_eq]
              refine xP_ok ?_
              intro a K h e act hG hops
              obtain ⟨v, h1, h2⟩ := cOpd_ok hG hops (x := x) (by simp [Op.operands, Call.operands]) h
              generalize hc : act.eval x = cv at h2
              rcases asSlc_yes h1 with ⟨p, o', es, n, c, rfl, h3⟩ | ⟨rfl, h3⟩
              · cases h2
                refine ⟨_, _, h3, .int _ _, fun o W ho => ?_⟩
                simp [execOp, ho, hc, resolve, invoke, builtin, Builtin.len_, run_underlying hu, goInt]
              · cases h2
                refine ⟨_, _, h3, .int _ _, fun o W ho => ?_⟩
                simp [execOp, ho, hc, resolve, invoke, builtin, Builtin.len_, run_underlying hu, goInt]
          · have e1 : cOp P G (.call { callee := .builtin .len, args := ⟨[x]⟩, argTypes := ⟨t :: ts⟩ }) = xNo := by
              simp only [cOp, hu, BX.f, undF_eq, infoF_eq, funF_eq]
              cases d <;> first | rfl | exact absurd (.inl rfl) h0 | exact absurd (.inr ⟨_, rfl⟩) h0
            rw [e1]; exact xNo_ok
theorem op_min (args : Array Operand) (ts : Array TypeId) : OpOk P sy N0 W0 G (cOp P G (.call { callee := .builtin .min, args, argTypes := ts })) (.call { callee := .builtin .min, args, argTypes := ts }) := by
  obtain ⟨args⟩ := args
  cases args with
  | nil => simp only [cOp, BX.f, undF_eq, infoF_eq, funF_eq]; exact xNo_ok
  | cons x args => cases args with
    | nil => simp only [cOp, BX.f, undF_eq, infoF_eq, funF_eq]; exact xNo_ok
    | cons y args => cases args with
      | cons z args => simp only [cOp, BX.f, undF_eq, infoF_eq, funF_eq]; exact xNo_ok
      | nil =>
        simp only [cOp, BX.f, undF_eq, infoF_eq, funF_eq]
        refine xP_ok ?_
        intro a K h e act hG hops
        obtain ⟨v, h1, h2⟩ := cOpd_ok hG hops (x := x) (by simp [Op.operands, Call.operands]) h
        obtain ⟨w, h3, h4⟩ := cOpd_ok hG hops (x := y) (by simp [Op.operands, Call.operands]) h1
        obtain ⟨k, m, rfl, h5⟩ := asInt_yes h3
        obtain ⟨j, n, rfl, h6⟩ := asInt_yes h5
        obtain ⟨h7, h8⟩ := ifB_yes h6
        obtain rfl := sameK_yes h7
        generalize hc : act.eval x = cv at h2
        generalize hd : act.eval y = dv at h4
        cases h2; cases h4
        cases hl : ltI n m with
        | true =>
          rw [hl] at h8
          have hlt := ltI_iff.1 hl
          exact ⟨_, _, h8, .int _ _, fun o W ho => by simp [execOp, ho, hc, hd, resolve, invoke, builtin, Builtin.min_, Builtin.min2, hlt]⟩
        | false =>
          rw [hl] at h8
          have hlt : ¬ n < m := fun h => by rw [ltI_iff.2 h] at hl; cases hl
          exact ⟨_, _, h8, .int _ _, fun o W ho => by simp [execOp, ho, hc, hd, resolve, invoke, builtin, Builtin.min_, Builtin.min2, hlt]⟩
theorem op_max (args : Array Operand) (ts : Array TypeId) : OpOk P sy N0 W0 G (cOp P G (.call { callee := .builtin .max, args, argTypes := ts })) (.call { callee := .builtin .max, args, argTypes := ts }) := by
  obtain ⟨args⟩ := args
  cases args with
  | nil => simp only [cOp, BX.f, undF_eq, infoF_eq, funF_eq]; exact xNo_ok
  | cons x args => cases args with
    | nil => simp only [cOp, BX.f, undF_eq, infoF_eq, funF_eq]; exact xNo_ok
    | cons y args => cases args with
      | cons z args => simp only [cOp, BX.f, undF_eq, infoF_eq, funF_eq]; exact xNo_ok
      | nil =>
        simp only [cOp, BX.f, undF_eq, infoF_eq, funF_eq]
        refine xP_ok ?_
        intro a K h e act hG hops
        obtain ⟨v, h1, h2⟩ := cOpd_ok hG hops (x := x) (by simp [Op.operands, Call.operands]) h
        obtain ⟨w, h3, h4⟩ := cOpd_ok hG hops (x := y) (by simp [Op.operands, Call.operands]) h1
        obtain ⟨k, m, rfl, h5⟩ := asInt_yes h3
        obtain ⟨j, n, rfl, h6⟩ := asInt_yes h5
        obtain ⟨h7, h8⟩ := ifB_yes h6
        obtain rfl := sameK_yes h7
        generalize hc : act.eval x = cv at h2
        generalize hd : act.eval y = dv at h4
        cases h2; cases h4
        cases hl : ltI m n with
        | true =>
          rw [hl] at h8
          have hlt := ltI_iff.1 hl
          exact ⟨_, _, h8, .int _ _, fun o W ho => by simp [execOp, ho, hc, hd, resolve, invoke, builtin, Builtin.max_, Builtin.max2, hlt]⟩
        | false =>
          rw [hl] at h8
          have hlt : ¬ m < n := fun h => by rw [ltI_iff.2 h] at hl; cases hl
          exact ⟨_, _, h8, .int _ _, fun o W ho => by simp [execOp, ho, hc, hd, resolve, invoke, builtin, Builtin.max_, Builtin.max2, hlt]⟩
end
end Go.Proofs.YtdoddlkppkegnaaGreatDoor.Ev
