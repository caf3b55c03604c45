/- The parser: LayT, LayHof, LayD, LayBal, Round. -/
import Derived.Test.YtcjoapmodaioiaaGreatDoorTokTypes
import Derived.Test.YtcjoapmodaioiaaGreatDoorSlices
import Derived.Test.YtcjoapmodaioiaaGreatDoorMKept
import Derived.OrdersIn
import Derived.TacticsIn
import Derived.RangeFuncNested
section
namespace Go.Proofs.YtcjoapmodaioiaaGreatDoor
open Go.RowKit Go.ChangeShapes Go.WideShapes

structure Ctx where
  col : Int
  op : ByteArray
def Ctx.d (x : Ctx) : D := .agg [.int .i64 x.col, .str x.op]
theorem Ctx.rp {w : World} {F : Nat → Prop} {x : Ctx} {cs : List Value} : Rp w F x.d cs ↔ cs = [.int .i64 x.col, .string x.op] ∧ (Lit.int .i64 x.col).wf = true ∧ x.op.size ≤ maxLen
    := by
  unfold Ctx.d; rw [rp_agg]; simp only [rpAll_cons, rpAll_nil, rp_int, rp_str]
  constructor
  · rintro ⟨_, _, rfl, ⟨rfl, h0⟩, _, _, rfl, ⟨rfl, h1⟩, rfl⟩
    exact ⟨by simp, h0, h1⟩
  · rintro ⟨rfl, h0, h1⟩
    exact ⟨[_], _, rfl, ⟨rfl, h0⟩, [_], _, rfl, ⟨rfl, h1⟩, rfl⟩
theorem Ctx.wide : Wide Ctx.d 2 := fun w F x cs h => by
  rw [Ctx.rp] at h
  obtain ⟨rfl, h0, h1⟩ := h
  rfl
theorem Ctx.get {w : World} {F : Nat → Prop} {l : List Ctx} {A : Option Addr} {n c : Nat} (h : Sl w F Ctx.d l (.slice A n c)) {i : Nat} (hi : i < l.length) :
    ∃ (g off : Nat) , A = some ⟨g, off, none⟩ ∧ F g ∧ w.cell? ⟨g, off + i * 2, none⟩ = some (.int .i64 l[i].col) ∧ w.cell? ⟨g, off + i * 2 + 1, none⟩ = some (.string l[i].op) ∧ (Lit.int .i64 l[i].col).wf = true ∧ l[i].op.size ≤ maxLen := by
  obtain ⟨g, off, cs, hA, hg, hr, _, hc⟩ := Sl.get h Ctx.wide hi
  rw [Ctx.rp] at hr
  obtain ⟨rfl, h0, h1⟩ := hr
  exact ⟨g, off, hA, hg, hc 0 _ rfl, hc 1 _ rfl, h0, h1⟩
theorem Ctx.of_trod {H : Type} {enc : TypeId × Value → H} {w : World} {base : Nat} {sp : Nat → Bool} {held : Bool} {n : Nat} {cs : List Value} {y : DataW H × List MemPlace} (h : DataW.trod enc Tryz.prog w base sp held n 96 cs = some y) : ∃ x : Ctx, Rp w (· < w.heap.size) x.d cs := by
  obtain ⟨xs, n, rfl, rfl, hlen, hxl, hf⟩ := DataW.trod_struct Tryz.underlying96 h
  have hc : Tryz.prog.cellsOf 96 = 2 := by kernel_rfl
  rw [hc] at hlen
  obtain ⟨c0, ct0, rfl, lc0⟩ := uncons hlen
  obtain ⟨c1, ct1, rfl, lc1⟩ := uncons lc0
  obtain rfl := List.eq_nil_of_length_eq_zero lc1
  obtain ⟨y0, yt0, rfl, ly0⟩ := uncons hxl
  obtain ⟨y1, yt1, rfl, ly1⟩ := uncons ly0
  obtain rfl := List.eq_nil_of_length_eq_zero ly1
  have e0 : DataW.trod enc Tryz.prog w base sp held n 3 [c0] = some y0 := by have := hf 0 _ rfl; simpa [show Tryz.prog.cellsOf 3 = 1 from by kernel_rfl] using this
  obtain ⟨z0, q0, _, u0⟩ := DataW.trod_int Tryz.underlying3 e0
  have e1 : DataW.trod enc Tryz.prog w base sp held n 9 [c1] = some y1 := by have := hf 1 _ rfl; simpa [show Tryz.prog.cellsOf 9 = 1 from by kernel_rfl] using this
  obtain ⟨z1, q1, _, u1⟩ := DataW.trod_string Tryz.underlying9 e1
  simp only [List.cons.injEq, and_true] at q0; subst q0
  simp only [List.cons.injEq, and_true] at q1; subst q1
  exact ⟨⟨z0, z1⟩, Ctx.rp.2 ⟨rfl, u0, u1⟩⟩

end Go.Proofs.YtcjoapmodaioiaaGreatDoor
end

section
namespace Go.Proofs.YtcjoapmodaioiaaGreatDoor
open Go.RowKit Go.Shelf

set_option maxHeartbeats 400000 in
theorem ctxIndexFunc (l : List Ctx) (v : Value) (F : Nat → Prop) (w : World) (hv : Sl w F Ctx.d l v) (m : FuncId) (cap : Array Value) (p : Ctx → Bool)
    (eg : Enters Tryz.prog m) (hc : ∀ i (h : i < l.length) cs w1, Below w.heap.size w w1 → Rp w1 F (Ctx.d l[i]) cs → Calls Tryz.prog m (#[.agg cs.toArray] ++ cap) w1 fun e w' => e = .returned (.bool (p l[i])) ∧ Below w1.heap.size w1 w') :
    Calls Tryz.prog 118 #[v, .func (.func m) #[] cap] w fun e w' => e = .returned (.int .i64 (idxInt p l)) ∧ Below w.heap.size w w' := by
  obtain ⟨A, c, rfl, hlc, hcm, _⟩ := hv.form
  have hl : l.length ≤ 9223372036854775807 := by unfold maxLen at hcm; omega
  have HC := Lib.hid hc
  clear hc
  unfold Enters at eg
  go_enter Tryz.func118, Tryz.ntmps118
  go_wp2
  go_loopw [5, 8] (fun _ i wr => ∃ k : Nat, k ≤ l.length ∧ i = .int .i64 k ∧ Below w.heap.size w wr ∧ Hid (idxInt p l = idxFrom p (l.drop k) k)) (fun _ i _ => l.length - (intOf i).toNat)
  case atStart => exact ⟨0, Nat.zero_le _, rfl, Below.refl _ _, rfl⟩
  case round =>
    obtain ⟨k, hk, rfl, hb, hno⟩ := hrel
    by_cases hlt : k < l.length
    · have hv' := hv.later hb
      obtain ⟨g, off, rfl, hF, c0, c1, s0, s1⟩ := Ctx.get hv' hlt
      have HN := Lib.hid (HC.out k hlt [.int .i64 l[k].col, .string l[k].op] _ hb (Ctx.rp.2 ⟨rfl, s0, s1⟩))
      have hst := idxFrom_step p l k hlt
      cases hp : p l[k]
      · have HE := Lib.hid (hno.out.trans (hst.1 hp))
        rw [hp] at HN
        clear hst hp
        go_wp2_with fail
        refine HN.out.mono ?_
        rintro e w1 ⟨rfl, hb1⟩
        go_wp2
        go_roundw
        case rel => exact ⟨k + 1, by omega, by go_num, hb.trans (hb1.mono hb.size), HE.out⟩
        case measure => simp [intOf]; omega
      · have HE := Lib.hid (hno.out.trans (hst.2 hp))
        rw [hp] at HN
        clear hst hp
        go_wp2_with fail
        refine HN.out.mono ?_
        rintro e w1 ⟨rfl, hb1⟩
        go_wp2
        go_ret
        exact ⟨ret_int HE.out.symm, hb.trans (hb1.mono hb.size)⟩
    · have HE := Lib.hid (hno.out.trans (idxFrom_end p l k (by omega)))
      go_wp2
      go_ret
      exact ⟨ret_int HE.out.symm, hb⟩

set_option maxHeartbeats 400000 in
theorem ctxContainsFunc (l : List Ctx) (v : Value) (F : Nat → Prop) (w : World) (hv : Sl w F Ctx.d l v) (m : FuncId) (cap : Array Value) (p : Ctx → Bool)
    (eg : Enters Tryz.prog m) (hc : ∀ i (h : i < l.length) cs w1, Below w.heap.size w w1 → Rp w1 F (Ctx.d l[i]) cs → Calls Tryz.prog m (#[.agg cs.toArray] ++ cap) w1 fun e w' => e = .returned (.bool (p l[i])) ∧ Below w1.heap.size w1 w') :
    Calls Tryz.prog 84 #[v, .func (.func m) #[] cap] w fun e w' => e = .returned (.bool (l.any p)) ∧ Below w.heap.size w w' := by
  have HN := Lib.hid (ctxIndexFunc l v F w hv m cap p eg hc)
  clear hc hv
  have HE := Lib.hid (idxInt_any p l)
  clear eg
  go_enter Tryz.func84, Tryz.ntmps84
  go_wp2_with fail
  refine HN.out.mono ?_
  rintro e w1 ⟨rfl, hb1⟩
  go_wp2
  go_ret
  exact ⟨ret_bool (by rw [HE.out]), hb1⟩

end Go.Proofs.YtcjoapmodaioiaaGreatDoor
end

section
namespace Go.Proofs.YtcjoapmodaioiaaGreatDoor

structure Mk where
  st : List Ctx
  out : List Tok
def sWhere : ByteArray := ⟨#[119, 104, 101, 114, 101]⟩
def sOf : ByteArray := ⟨#[111, 102]⟩
def sLet : ByteArray := ⟨#[108, 101, 116]⟩
def sWith : ByteArray := ⟨#[119, 105, 116, 104]⟩
def sIn : ByteArray := ⟨#[105, 110]⟩
def sOpB : ByteArray := ⟨#[123]⟩
def sClB : ByteArray := ⟨#[125]⟩
def sOpP : ByteArray := ⟨#[40]⟩
def sClP : ByteArray := ⟨#[41]⟩
def sCom : ByteArray := ⟨#[44]⟩
def okTok (p : Option Tok) (t : Tok) (last : Bool) : Int :=
  if t.line < 1 ∨ t.col < 1 then 4
  else if t.kind < 0 ∨ 9 < t.kind ∨ (6 ≤ t.kind ∧ t.kind ≤ 8) ∨ decide (t.kind = 9) ≠ last then 3
  else match p with
    | none => 0
    | some q => if t.line < q.line ∨ (t.line = q.line ∧ t.col < q.col) then 3 else 0
def okL : Option Tok → List Tok → Int
  | _, [] => 0
  | p, t :: r => if okTok p t r.isEmpty ≠ 0 then okTok p t r.isEmpty else okL (some t) r
def layChk (l : List Tok) : Int := if 8193 < l.length then 2 else match l.getLast? with
  | none => 3
  | some e => if e.kind ≠ 9 then 3 else okL none l
def opensP (t : Tok) : Bool := decide (t.kind = 4) && (decide (t.text = sWhere) || decide (t.text = sOf) || decide (t.text = sLet) || decide (t.text = sWith))
def isP (t : Tok) (k : Int) (s : ByteArray) : Bool := decide (t.kind = k) && decide (t.text = s)
def zCtx : Ctx := ⟨0, ⟨#[]⟩⟩
def topP (s : List Ctx) : Ctx := s.getLast?.getD zCtx
def tokAt (k : Int) (t : Tok) : Tok := ⟨k, ⟨#[]⟩, 0, t.line, t.col⟩
def Mk.put (m : Mk) (k : Int) (t : Tok) : Mk := ⟨m.st, m.out ++ [tokAt k t]⟩
def Mk.pop (m : Mk) : Mk := ⟨m.st.dropLast, m.out⟩
def Mk.push (m : Mk) (c : Ctx) : Mk := ⟨m.st ++ [c], m.out⟩
def Mk.close (m : Mk) (t : Tok) : Mk := (m.put 7 t).pop
def shutL (t : Tok) : Nat → Mk → Mk
  | 0, m => m
  | n + 1, m => if 0 < (topP m.st).col then shutL t n (m.close t) else m
def shutP (t : Tok) (m : Mk) : Mk := shutL t m.st.length m
def lineL (t : Tok) : Nat → Mk → Mk
  | 0, m => m
  | n + 1, m => if t.col < (topP m.st).col then lineL t n (m.close t) else m
def lineP (t : Tok) (m : Mk) : Mk := let m' := lineL t m.st.length m; if (topP m'.st).col = t.col then m'.put 8 t else m'
def innerN (s : List Ctx) : Nat → Nat
  | 0 => 0
  | k + 1 => match s[k]? with
    | none => k + 1
    | some c => if 0 < c.col then innerN s k else k + 1
def innerP (s : List Ctx) : List Ctx := s.drop (innerN s s.length)
def letsP (s : List Ctx) : Bool := (innerP s).any fun c => decide (c.op = sLet)
def inL (t : Tok) : Nat → Mk → Mk
  | 0, m => m
  | n + 1, m => if (topP m.st).op = sLet then m.close t else inL t n (m.close t)
def beforeP (t : Tok) (m : Mk) : Mk :=
  if (isP t 5 sClP || isP t 5 sClB) = true then (let m' := shutP t m; if 0 < m'.st.length then m'.pop else m')
  else if isP t 5 sCom = true then (if m.st.any (fun c => decide (c.col = 0)) = true then shutP t m else m)
  else if isP t 4 sIn = true then (if letsP m.st = true then inL t m.st.length m else m)
  else m
def enclL : List Ctx → Int
  | [] => 0
  | c :: r => if 0 < c.col then c.col else enclL r
def enclP (s : List Ctx) : Int := enclL s.reverse
def blockP (p : Option Tok) (t : Tok) (m : Mk) : Mk × Bool :=
  let first : Bool := match p with
    | none => true
    | some q => decide (q.line < t.line)
  let opened : Bool := match p with
    | none => false
    | some q => opensP q
  let op : ByteArray := match p with
    | none => ⟨#[]⟩
    | some q => q.text
  if opened = false then (m, first)
  else if isP t 5 sOpB = true then (m, false)
  else if t.kind ≠ 9 ∧ enclP m.st < t.col then ((m.put 6 t).push ⟨t.col, op⟩, false)
  else ((m.put 6 t).put 7 t, first)
def stepP (p : Option Tok) (t : Tok) (m : Mk) : Mk :=
  let b := blockP p t m
  if t.kind = 9 then b.1
  else
    let m1 := if b.2 = true then lineP t b.1 else b.1
    let m2 := beforeP t m1
    let m3 : Mk := ⟨m2.st, m2.out ++ [t]⟩
    if (isP t 5 sOpP || isP t 5 sOpB) = true then m3.push zCtx else m3
def goM : Option Tok → List Tok → Mk → Mk
  | _, [], m => m
  | p, t :: r, m => goM (some t) r (stepP p t m)
def endL (t : Tok) : Nat → Mk → Mk
  | 0, m => m
  | n + 1, m => endL t n (if 0 < (topP m.st).col then m.close t else m.pop)
def markP (l : List Tok) (e : Tok) : List Tok := let m := goM none l ⟨[], []⟩; (endL e m.st.length m).out ++ [e]
end Go.Proofs.YtcjoapmodaioiaaGreatDoor
end

section
namespace Go.Proofs.YtcjoapmodaioiaaGreatDoor

def dstep (t : Tok) (d : Int) : Int := if t.kind = 6 then d + 1 else if t.kind = 7 then d - 1 else d
def deepR : List Tok → Int → Option Int
  | [], d => some d
  | t :: r, d => if dstep t d < 0 then none else deepR r (dstep t d)
theorem deepR_app (t : Tok) : ∀ (l : List Tok) (d d' : Int), deepR l d = some d' → 0 ≤ dstep t d' → deepR (l ++ [t]) d = some (dstep t d')
  | [], d, d', h, h0 => by
    simp only [deepR, Option.some.injEq] at h
    subst h
    rw [List.nil_append, deepR, if_neg (by omega), deepR]
  | x :: l, d, d', h, h0 => by
    rw [deepR] at h
    rw [List.cons_append, deepR]
    split at h
    · cases h
    · rename_i hn
      rw [if_neg hn]
      exact deepR_app t l _ d' h h0
def layK (t : Tok) : Bool := decide (t.kind = 6) || decide (t.kind = 7) || decide (t.kind = 8)
def plainL (l : List Tok) : List Tok := l.filter fun t => !(layK t)
def cnt : List Ctx → Int
  | [] => 0
  | c :: r => (if 0 < c.col then 1 else 0) + cnt r
theorem cnt_app (c : Ctx) : ∀ s : List Ctx, cnt (s ++ [c]) = cnt s + if 0 < c.col then 1 else 0
  | [] => by simp [cnt]
  | x :: s => by rw [List.cons_append, cnt, cnt, cnt_app c s]; omega
theorem cnt_nonneg : ∀ s : List Ctx, 0 ≤ cnt s
  | [] => Int.le_refl _
  | x :: s => by
    have := cnt_nonneg s
    rw [cnt]
    split <;> omega
theorem snoc_of_ne {α : Type} {s : List α} (h : s ≠ []) : ∃ r c, s = r ++ [c] := ⟨s.dropLast, s.getLast h, (List.dropLast_concat_getLast h).symm⟩
theorem topP_app (s : List Ctx) (c : Ctx) : topP (s ++ [c]) = c := by simp [topP]
structure Inv (m : Mk) (done : List Tok) : Prop where
  deep : deepR m.out 0 = some (cnt m.st)
  plain : plainL m.out = done
  cols : ∀ c ∈ m.st, 0 ≤ c.col
theorem plainL_app (l : List Tok) (t : Tok) : plainL (l ++ [t]) = plainL l ++ if layK t = true then [] else [t] := by
  unfold plainL
  rw [List.filter_append]
  cases h : layK t <;> simp [h]
variable {m : Mk} {done : List Tok}
theorem Inv.semi (h : Inv m done) (t : Tok) : Inv (m.put 8 t) done := by
  refine ⟨?_, ?_, h.cols⟩
  · have := deepR_app (tokAt 8 t) m.out 0 _ h.deep (by show 0 ≤ cnt m.st; exact cnt_nonneg _)
    exact this
  · show plainL (m.out ++ [tokAt 8 t]) = done
    rw [plainL_app, h.plain, show layK (tokAt 8 t) = true from rfl, if_pos rfl, List.append_nil]
theorem Inv.close (h : Inv m done) (t : Tok) (hc : 0 < (topP m.st).col) : Inv (m.close t) done := by
  have hne : m.st ≠ [] := fun e => by rw [e] at hc; exact absurd hc (by decide)
  obtain ⟨s, c, hs⟩ := snoc_of_ne hne
  have hd := h.deep
  rw [hs, topP_app] at hc
  rw [hs, cnt_app, if_pos hc] at hd
  have h0 := cnt_nonneg s
  refine ⟨?_, ?_, fun c hc => h.cols c (by have : c ∈ m.st.dropLast := hc; exact List.dropLast_subset _ this)⟩
  · have hx := deepR_app (tokAt 7 t) m.out 0 _ hd (by show 0 ≤ cnt s + 1 - 1; omega)
    show deepR (m.out ++ [tokAt 7 t]) 0 = some (cnt m.st.dropLast)
    rw [hs, List.dropLast_concat, hx]
    show some (cnt s + 1 - 1) = _
    rw [Int.add_sub_cancel]
  · show plainL (m.out ++ [tokAt 7 t]) = done
    rw [plainL_app, h.plain, show layK (tokAt 7 t) = true from rfl, if_pos rfl, List.append_nil]
theorem Inv.pop (h : Inv m done) (hc : ¬ 0 < (topP m.st).col) : Inv m.pop done := by
  by_cases hne : m.st = []
  · have : m.pop = m := by cases m; simp only at hne; subst hne; rfl
    rw [this]; exact h
  · obtain ⟨s, c, hs⟩ := snoc_of_ne hne
    have hd := h.deep
    rw [hs, topP_app] at hc
    rw [hs, cnt_app, if_neg hc] at hd
    refine ⟨?_, h.plain, fun c hc => h.cols c (by have : c ∈ m.st.dropLast := hc; exact List.dropLast_subset _ this)⟩
    show deepR m.out 0 = some (cnt m.st.dropLast)
    rw [hs, List.dropLast_concat, hd, Int.add_zero]
theorem Inv.openPush (h : Inv m done) (t : Tok) (c : Ctx) (hc : 0 < c.col) : Inv ((m.put 6 t).push c) done := by
  have h0 := cnt_nonneg m.st
  refine ⟨?_, ?_, fun x hx => by
    have : x ∈ m.st ++ [c] := hx
    rcases List.mem_append.1 this with h1 | h1
    · exact h.cols x h1
    · rw [List.mem_singleton.1 h1]; omega⟩
  · have := deepR_app (tokAt 6 t) m.out 0 _ h.deep (by show 0 ≤ cnt m.st + 1; omega)
    show deepR (m.out ++ [tokAt 6 t]) 0 = some (cnt (m.st ++ [c]))
    rw [this, cnt_app, if_pos hc]; rfl
  · show plainL (m.out ++ [tokAt 6 t]) = done
    rw [plainL_app, h.plain, show layK (tokAt 6 t) = true from rfl, if_pos rfl, List.append_nil]
theorem Inv.openClose (h : Inv m done) (t : Tok) : Inv ((m.put 6 t).put 7 t) done := by
  have h0 := cnt_nonneg m.st
  refine ⟨?_, ?_, h.cols⟩
  · have h1 := deepR_app (tokAt 6 t) m.out 0 _ h.deep (by show 0 ≤ cnt m.st + 1; omega)
    have h2 := deepR_app (tokAt 7 t) (m.out ++ [tokAt 6 t]) 0 (cnt m.st + 1) h1 (by show 0 ≤ cnt m.st + 1 - 1; omega)
    show deepR (m.out ++ [tokAt 6 t] ++ [tokAt 7 t]) 0 = some (cnt m.st)
    rw [h2]
    show some (cnt m.st + 1 - 1) = _
    rw [Int.add_sub_cancel]
  · show plainL (m.out ++ [tokAt 6 t] ++ [tokAt 7 t]) = done
    have e6 : layK (tokAt 6 t) = true := rfl
    have e7 : layK (tokAt 7 t) = true := rfl
    rw [plainL_app, plainL_app, e6, e7]
    simp [h.plain]
theorem Inv.tok (h : Inv m done) (t : Tok) (ht : layK t = false) : Inv ⟨m.st, m.out ++ [t]⟩ (done ++ [t]) := by
  have hds : ∀ d, dstep t d = d := fun d => by
    unfold layK at ht
    simp only [Bool.or_eq_false_iff, decide_eq_false_iff_not] at ht
    unfold dstep
    rw [if_neg ht.1.1, if_neg ht.1.2]
  refine ⟨?_, ?_, h.cols⟩
  · have := deepR_app t m.out 0 _ h.deep (by rw [hds]; exact cnt_nonneg _)
    rw [hds] at this
    exact this
  · show plainL (m.out ++ [t]) = _
    rw [plainL_app, h.plain, ht]; rfl
theorem Inv.push (h : Inv m done) : Inv (m.push zCtx) done := by
  refine ⟨?_, h.plain, fun x hx => by
    have : x ∈ m.st ++ [zCtx] := hx
    rcases List.mem_append.1 this with h1 | h1
    · exact h.cols x h1
    · rw [List.mem_singleton.1 h1]; exact Int.le_refl _⟩
  show deepR m.out 0 = some (cnt (m.st ++ [zCtx]))
  rw [cnt_app, h.deep, if_neg (by decide), Int.add_zero]
theorem Inv.shutL (t : Tok) : ∀ (n : Nat) {m : Mk}, Inv m done → Inv (shutL t n m) done
  | 0, _, h => h
  | n + 1, m, h => by
    rw [Go.Proofs.YtcjoapmodaioiaaGreatDoor.shutL]
    split
    · rename_i hc; exact Inv.shutL t n (h.close t hc)
    · exact h
theorem Inv.lineL (t : Tok) (ht : 1 ≤ t.col) : ∀ (n : Nat) {m : Mk}, Inv m done → Inv (lineL t n m) done
  | 0, _, h => h
  | n + 1, m, h => by
    rw [Go.Proofs.YtcjoapmodaioiaaGreatDoor.lineL]
    split
    · rename_i hc; exact Inv.lineL t ht n (h.close t (by omega))
    · exact h
theorem Inv.lineP (h : Inv m done) (t : Tok) (ht : 1 ≤ t.col) : Inv (lineP t m) done := by
  unfold Go.Proofs.YtcjoapmodaioiaaGreatDoor.lineP
  dsimp only
  split
  · exact (h.lineL t ht _).semi t
  · exact h.lineL t ht _
theorem innerN_le (s : List Ctx) : ∀ k, innerN s k ≤ k
  | 0 => Nat.le_refl _
  | k + 1 => by
    rw [innerN]
    split
    · exact Nat.le_refl _
    · split
      · exact Nat.le_succ_of_le (innerN_le s k)
      · exact Nat.le_refl _
theorem innerN_snoc (s : List Ctx) (c : Ctx) : ∀ k, k ≤ s.length → innerN (s ++ [c]) k = innerN s k
  | 0, _ => rfl
  | k + 1, h => by
    rw [innerN, innerN, List.getElem?_append_left (by omega), innerN_snoc s c k (by omega)]
theorem innerP_snoc (s : List Ctx) (c : Ctx) : innerP (s ++ [c]) = if 0 < c.col then innerP s ++ [c] else [] := by
  unfold innerP
  rw [List.length_append, List.length_singleton, innerN]
  have hg : (s ++ [c])[s.length]? = some c := by simp
  rw [hg]
  dsimp only
  split
  · rw [innerN_snoc s c _ (Nat.le_refl _), List.drop_append_of_le_length (innerN_le s _)]
  · rw [List.drop_of_length_le (by simp)]
theorem letsP_snoc (s : List Ctx) (c : Ctx) (h : letsP (s ++ [c]) = true) : 0 < c.col ∧ (c.op ≠ sLet → letsP s = true) := by
  unfold letsP at h
  rw [innerP_snoc] at h
  split at h
  · rename_i hc
    refine ⟨hc, fun hn => ?_⟩
    rw [List.any_append] at h
    simp only [List.any_cons, List.any_nil, Bool.or_false, Bool.or_eq_true, decide_eq_true_eq] at h
    exact h.resolve_right hn
  · cases h
theorem Inv.inL (t : Tok) : ∀ (n : Nat) {m : Mk}, m.st.length = n → Inv m done → letsP m.st = true → Inv (inL t n m) done
  | 0, _, _, h, _ => h
  | n + 1, m, hn, h, hl => by
    rw [Go.Proofs.YtcjoapmodaioiaaGreatDoor.inL]
    have hne : m.st ≠ [] := fun e => by rw [e] at hn; cases hn
    obtain ⟨s, c, hs⟩ := snoc_of_ne hne
    rw [hs] at hl
    obtain ⟨h1, h2⟩ := letsP_snoc s c hl
    have hc : 0 < (topP m.st).col := by rw [hs, topP_app]; exact h1
    have hst : (m.close t).st = s := by show m.st.dropLast = s; rw [hs, List.dropLast_concat]
    split
    · exact h.close t hc
    · rename_i hop
      refine Inv.inL t n ?_ (h.close t hc) ?_
      · rw [hst]; rw [hs] at hn; simpa using hn
      · rw [hst]
        exact h2 (fun e => hop (by rw [hs, topP_app]; exact e))
theorem shutL_top (t : Tok) : ∀ (n : Nat) {m : Mk}, m.st.length ≤ n → ¬ 0 < (topP (shutL t n m).st).col
  | 0, m, h => by
    have : m.st = [] := List.eq_nil_of_length_eq_zero (by omega)
    rw [shutL, this]; decide
  | n + 1, m, h => by
    rw [shutL]
    split
    · refine shutL_top t n ?_
      show m.st.dropLast.length ≤ n
      rw [List.length_dropLast]; omega
    · assumption
theorem Inv.beforeP (h : Inv m done) (t : Tok) : Inv (beforeP t m) done := by
  unfold Go.Proofs.YtcjoapmodaioiaaGreatDoor.beforeP
  split
  · dsimp only
    split
    · exact Inv.pop (h.shutL t _) (shutL_top t _ (Nat.le_refl _))
    · exact h.shutL t _
  · split
    · split
      · exact h.shutL t _
      · exact h
    · split
      · split
        · rename_i hl; exact Inv.inL t _ rfl h hl
        · exact h
      · exact h
theorem Inv.blockP (h : Inv m done) (p : Option Tok) (t : Tok) (ht : 1 ≤ t.col) : Inv (blockP p t m).1 done := by
  cases p with
  | none => exact h
  | some q =>
    unfold Go.Proofs.YtcjoapmodaioiaaGreatDoor.blockP
    dsimp only
    split
    · exact h
    · split
      · exact h
      · split
        · exact h.openPush t ⟨t.col, q.text⟩ (by show 0 < t.col; omega)
        · exact h.openClose t
theorem Inv.stepP (h : Inv m done) (p : Option Tok) (t : Tok) (ht : 1 ≤ t.col) (hk : layK t = false) : Inv (stepP p t m) (if t.kind = 9 then done else done ++ [t]) := by
  unfold Go.Proofs.YtcjoapmodaioiaaGreatDoor.stepP
  dsimp only
  split
  · exact h.blockP p t ht
  · have h1 : Inv (if (Go.Proofs.YtcjoapmodaioiaaGreatDoor.blockP p t m).2 = true then Go.Proofs.YtcjoapmodaioiaaGreatDoor.lineP t (Go.Proofs.YtcjoapmodaioiaaGreatDoor.blockP p t m).1 else (Go.Proofs.YtcjoapmodaioiaaGreatDoor.blockP p t m).1) done := by
      split
      · exact (h.blockP p t ht).lineP t ht
      · exact h.blockP p t ht
    have h2 := (h1.beforeP t).tok t hk
    split
    · exact h2.push
    · exact h2
theorem okL_tok : ∀ (l : List Tok) (p : Option Tok), okL p l = 0 → ∀ (a : List Tok) (e : Tok), l = a ++ [e] → (∀ t ∈ l, 1 ≤ t.line ∧ 1 ≤ t.col ∧ 0 ≤ t.kind ∧ t.kind ≤ 9 ∧ layK t = false) ∧ (∀ t ∈ a, t.kind ≠ 9) ∧ e.kind = 9
  | [], p, _, a, e, h => by simp at h
  | t :: r, p, h, a, e, he => by
    rw [okL] at h
    split at h
    · rename_i hn; exact absurd h hn
    rename_i hn
    have hok : okTok p t r.isEmpty = 0 := Classical.not_not.1 hn
    unfold okTok at hok
    split at hok
    · cases hok
    rename_i h1
    split at hok
    · cases hok
    rename_i h2
    have hk : layK t = false := by
      unfold layK
      simp only [Bool.or_eq_false_iff, decide_eq_false_iff_not]
      omega
    have hl : decide (t.kind = 9) = r.isEmpty := by
      cases hd : decide (t.kind = 9) <;> cases he : r.isEmpty
      · rfl
      · exact absurd (Or.inr (Or.inr (Or.inr (by rw [hd, he]; decide)))) h2
      · exact absurd (Or.inr (Or.inr (Or.inr (by rw [hd, he]; decide)))) h2
      · rfl
    have ht : 1 ≤ t.line ∧ 1 ≤ t.col ∧ 0 ≤ t.kind ∧ t.kind ≤ 9 ∧ layK t = false := ⟨by omega, by omega, by omega, by omega, hk⟩
    cases a with
    | nil =>
      have he := List.cons.inj he
      obtain ⟨rfl, rfl⟩ := he
      exact ⟨fun x hx => by rw [List.mem_singleton.1 hx]; exact ht, (fun x hx => by cases hx), of_decide_eq_true (by rw [hl]; rfl)⟩
    | cons b a =>
      have he := List.cons.inj he
      obtain ⟨rfl, hr⟩ := he
      obtain ⟨g1, g2, g3⟩ := okL_tok r (some t) h a e hr
      refine ⟨fun x hx => ?_, fun x hx => ?_, g3⟩
      · rcases List.mem_cons.1 hx with rfl | hx
        · exact ht
        · exact g1 x hx
      · rcases List.mem_cons.1 hx with rfl | hx
        · refine of_decide_eq_false ?_
          rw [hl, hr]
          cases a <;> rfl
        · exact g2 x hx
theorem Inv.goM : ∀ (l : List Tok) (p : Option Tok) {m : Mk} {done : List Tok}, Inv m done → (∀ t ∈ l, 1 ≤ t.col ∧ layK t = false ∧ t.kind ≠ 9) → Inv (goM p l m) (done ++ l)
  | [], p, m, done, h, _ => by rw [Go.Proofs.YtcjoapmodaioiaaGreatDoor.goM, List.append_nil]; exact h
  | t :: r, p, m, done, h, hl => by
    rw [Go.Proofs.YtcjoapmodaioiaaGreatDoor.goM]
    have ht := hl t List.mem_cons_self
    have h1 := h.stepP p t ht.1 ht.2.1
    rw [if_neg ht.2.2] at h1
    have h2 := Inv.goM r (some t) h1 (fun x hx => hl x (List.mem_cons_of_mem _ hx))
    rw [List.append_assoc] at h2
    exact h2
theorem Inv.endL (t : Tok) : ∀ (n : Nat) {m : Mk}, m.st.length = n → Inv m done → Inv (endL t n m) done ∧ (endL t n m).st = []
  | 0, m, hn, h => ⟨h, List.eq_nil_of_length_eq_zero hn⟩
  | n + 1, m, hn, h => by
    rw [Go.Proofs.YtcjoapmodaioiaaGreatDoor.endL]
    split
    · rename_i hc
      exact Inv.endL t n (by show m.st.dropLast.length = n; rw [List.length_dropLast]; omega) (h.close t hc)
    · rename_i hc
      exact Inv.endL t n (by show m.st.dropLast.length = n; rw [List.length_dropLast]; omega) (h.pop hc)
theorem goM_app : ∀ (a : List Tok) (p : Option Tok) (e : Tok) (m : Mk), ∃ q, goM p (a ++ [e]) m = stepP q e (goM p a m)
  | [], p, _, _ => ⟨p, rfl⟩
  | t :: a, p, e, m => goM_app a (some t) e (stepP p t m)
theorem mark_balanced {l : List Tok} {e : Tok} (h : layChk l = 0) (he : l.getLast? = some e) : deepR (markP l e) 0 = some 0 ∧ plainL (markP l e) = l := by
  unfold layChk at h
  split at h
  · cases h
  rw [he] at h
  dsimp only at h
  split at h
  · cases h
  have hne : l ≠ [] := fun hh => by rw [hh] at he; cases he
  obtain ⟨a, e', hl⟩ := snoc_of_ne hne
  obtain rfl : e = e' := by rw [hl] at he; simpa using he.symm
  obtain ⟨g1, g2, g3⟩ := okL_tok l none h a e hl
  have hem : e ∈ l := by rw [hl]; simp
  have ham : ∀ t ∈ a, t ∈ l := fun t ht => by rw [hl]; exact List.mem_append_left _ ht
  have h0 : Inv ⟨[], []⟩ [] := ⟨rfl, rfl, fun c hc => by cases hc⟩
  have h1 := h0.goM a none (fun t ht => ⟨(g1 t (ham t ht)).2.1, (g1 t (ham t ht)).2.2.2.2, g2 t ht⟩)
  rw [List.nil_append] at h1
  obtain ⟨q, hq⟩ := goM_app a none e ⟨[], []⟩
  have h2 := h1.stepP q e (g1 e hem).2.1 (g1 e hem).2.2.2.2
  rw [if_pos g3, ← hq, ← hl] at h2
  obtain ⟨h3, h4⟩ := Inv.endL e _ rfl h2
  have h5 := h3.tok e (g1 e hem).2.2.2.2
  have hd := h5.deep
  have hp := h5.plain
  unfold markP
  dsimp only at hd hp ⊢
  rw [h4] at hd
  exact ⟨hd, by rw [hp, hl]⟩
end Go.Proofs.YtcjoapmodaioiaaGreatDoor
end

section
namespace Go.Proofs.YtcjoapmodaioiaaGreatDoor
open Go

section
variable {P : Program} {ops : Array Oper} {Q : Exit → Act → World → Prop} {md : Region.Mode} {S : World → Prop} {st : List Nat}
end
end Go.Proofs.YtcjoapmodaioiaaGreatDoor
end
