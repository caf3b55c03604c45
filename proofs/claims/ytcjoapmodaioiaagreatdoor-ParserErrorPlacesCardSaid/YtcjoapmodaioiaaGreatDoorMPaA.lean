/- The parser: PaSt, PaOp, PaF. -/
import Derived.Test.YtcjoapmodaioiaaGreatDoorTokTypes
import Derived.Test.YtcjoapmodaioiaaGreatDoorMKept
import Derived.Deep.RegionHeld3
import Derived.WalkSmall
import Derived.WalkLawsBesides
import Derived.Deep.Cut
import Derived.Deep.RegionWith
import Derived.Test.YtcjoapmodaioiaaGreatDoorSlices
import Derived.Test.YtcjoapmodaioiaaGreatDoorPar
import Derived.Defers
import Derived.Recover
section
namespace Go.Proofs.YtcjoapmodaioiaaGreatDoor
open Go.RowKit Go.Shelf Pa

structure Nv where
  nd : Nd
  kv : Value
  line : Int
  col : Int
def Nv.cells (x : Nv) : List Value := [.int .i64 x.nd.kind, .string x.nd.text, .int .i64 x.nd.n, x.kv, .int .i64 x.line, .int .i64 x.col]
def kidD (i : Nat) : D := .int .i64 (i : Int)
def kidC (i : Nat) : Value := .int .i64 (i : Int)
def Tok.bt (t : Tok) : Bt := ⟨t.kind, t.text, t.n⟩
def endTok : Tok := ⟨9, ⟨#[]⟩, 0, 1, 1⟩
def badCells (l : List Tok) (b : Int × Nat) : List Value := [.int .i64 b.1, .int .i64 (l.getD b.2 endTok).line, .int .i64 (l.getD b.2 endTok).col, .string ⟨#[]⟩]
structure Cx where
  l : List Tok
  lv : Value
  F : Nat → Prop
  B : Nat
  bp : Nat
def OwnT (bp : Nat) (nv bv : Value) (i : Nat) : Prop := i = bp ∨ nv.ownBlock = some i ∨ bv.ownBlock = some i
def OwnP (c : Cx) (nv bv : Value) (G : Nat → Prop) (i : Nat) : Prop := OwnT c.bp nv bv i ∨ G i
structure PaAt (c : Cx) (W : World) (nv bv : Value) (G : Nat → Prop) (ns : List Nv) (s : Ps) : Prop where
  box : Blk W c.bp 52 [c.lv, .int .i64 s.pos, .int .i64 s.deep, .int .i64 s.opn, nv, bv]
  toks : Sl W c.F Tok.d c.l c.lv
  far : ∀ i, c.F i → i < W.heap.size ∧ ¬ OwnP c nv bv G i
  nod : W.ownsRow c.B 35 6 nv ns.length (ns.flatMap Nv.cells)
  nds : ns.map Nv.nd = s.nodes
  kids : ∀ x ∈ ns, Sl W G kidD x.nd.kids x.kv
  old : ∀ i, G i → i < W.heap.size ∧ ¬ OwnT c.bp nv bv i
  bad : W.ownsRow c.B 28 4 bv s.bad.length (s.bad.flatMap (badCells c.l))
  pos : s.pos < c.l.length
  opn : -(s.pos : Int) ≤ s.opn ∧ s.opn ≤ s.pos
  deep : 0 ≤ s.deep ∧ s.deep ≤ 101
  few : ns.length ≤ 4096
  nbad : s.bad.length ≤ 1000000
structure TokSt (l : List Tok) : Prop where
  len : l.length ≤ 200000
  last : ∀ i (h : i < l.length), l[i].kind = 9 ↔ i + 1 = l.length
section
variable {c : Cx} {W W' : World} {nv bv : Value} {G : Nat → Prop} {ns : List Nv} {s : Ps}
theorem PaAt.keeps {X : Nat → Prop} (h : PaAt c W nv bv G ns s) (hk : Keeps X W W') (hX : ∀ i, OwnP c nv bv G i ∨ c.F i → ¬ X i) : PaAt c W' nv bv G ns s where
  box := h.box.keeps hk (hX _ (.inl (.inl (.inl rfl))))
  toks := h.toks.keeps hk (fun i hi => hX i (.inr hi))
  far := fun i hi => ⟨Nat.lt_of_lt_of_le (h.far i hi).1 hk.size, (h.far i hi).2⟩
  nod := own_keeps h.nod hk (fun i hi => hX i (.inl (.inl (.inr (.inl hi)))))
  nds := h.nds
  kids := fun x hx => (h.kids x hx).keeps hk (fun i hi => hX i (.inl (.inr hi)))
  old := fun i hi => ⟨Nat.lt_of_lt_of_le (h.old i hi).1 hk.size, (h.old i hi).2⟩
  bad := own_keeps h.bad hk (fun i hi => hX i (.inl (.inl (.inr (.inr hi)))))
  pos := h.pos
  opn := h.opn
  deep := h.deep
  few := h.few
  nbad := h.nbad
theorem PaAt.same (h : PaAt c W nv bv G ns s) (hk : Keeps (fun _ => False) W W') : PaAt c W' nv bv G ns s := h.keeps hk (fun _ _ h => h)
theorem PaAt.lt (h : PaAt c W nv bv G ns s) (i : Nat) (hi : OwnP c nv bv G i) : i < W.heap.size := by
  rcases hi with (rfl | hi | hi) | hi
  · exact h.box.lt
  · exact (h.nod.lt i hi).2
  · exact (h.bad.lt i hi).2
  · exact (h.old i hi).1
end
def PaTo (c : Cx) (W : World) (nv bv : Value) (G : Nat → Prop) (s' : Ps) (w' : World) : Prop :=
  ∃ nv' bv' G' ns', PaAt c w' nv' bv' G' ns' s' ∧ Keeps (OwnT c.bp nv bv) W w' ∧ (∀ i, G i → G' i) ∧ ∀ i, OwnP c nv' bv' G' i → OwnP c nv bv G i ∨ W.heap.size ≤ i
abbrev failed : Ending := .panicked [{ v := .iface 54 (.agg #[]), recovered := false }]
section
variable {c : Cx} {W W' : World} {nv bv : Value} {G : Nat → Prop} {ns : List Nv} {s : Ps}
theorem PaAt.nN (h : PaAt c W nv bv G ns s) : ¬ nv.ownBlock = some c.bp := own_ne_blk h.nod h.box (by decide)
theorem PaAt.nB (h : PaAt c W nv bv G ns s) : ¬ bv.ownBlock = some c.bp := own_ne_blk h.bad h.box (by decide)
theorem PaAt.turn (h : PaAt c W nv bv G ns s) {p' : Nat} {d' o' : Int} (hk : Keeps (· = c.bp) W W') (hb : Blk W' c.bp 52 [c.lv, .int .i64 p', .int .i64 d', .int .i64 o', nv, bv])
    (hp : p' < c.l.length) (ho : -(p' : Int) ≤ o' ∧ o' ≤ p') (hd : 0 ≤ d' ∧ d' ≤ 101) : PaAt c W' nv bv G ns { s with pos := p', deep := d', opn := o' } where
  box := hb
  toks := h.toks.keeps hk (fun i hi e => (h.far i hi).2 (.inl (.inl e)))
  far := fun i hi => ⟨Nat.lt_of_lt_of_le (h.far i hi).1 hk.size, (h.far i hi).2⟩
  nod := own_keeps h.nod hk (fun i hi e => h.nN (by rw [hi, e]))
  nds := h.nds
  kids := fun x hx => (h.kids x hx).keeps hk (fun i hi e => (h.old i hi).2 (.inl e))
  old := fun i hi => ⟨Nat.lt_of_lt_of_le (h.old i hi).1 hk.size, (h.old i hi).2⟩
  bad := own_keeps h.bad hk (fun i hi e => h.nB (by rw [hi, e]))
  pos := hp
  opn := ho
  deep := hd
  few := h.few
  nbad := h.nbad
theorem PaAt.turned (h : PaAt c W nv bv G ns s) {p' : Nat} {d' o' : Int} (hk : Keeps (· = c.bp) W W') (hb : Blk W' c.bp 52 [c.lv, .int .i64 p', .int .i64 d', .int .i64 o', nv, bv])
    (hp : p' < c.l.length) (ho : -(p' : Int) ≤ o' ∧ o' ≤ p') (hd : 0 ≤ d' ∧ d' ≤ 101) : PaTo c W nv bv G { s with pos := p', deep := d', opn := o' } W' :=
  ⟨nv, bv, G, ns, h.turn hk hb hp ho hd, hk.mono (fun _ _ e => .inl e), fun _ h => h, fun _ hi => .inl hi⟩
theorem PaTo.same (h : PaAt c W nv bv G ns s) (hk : Keeps (fun _ => False) W W') : PaTo c W nv bv G s W' :=
  ⟨nv, bv, G, ns, h.same hk, hk.mono (fun _ _ h => h.elim), fun _ h => h, fun _ hi => .inl hi⟩
theorem PaTo.trans {w1 w2 : World} {nv1 bv1 : Value} {G1 : Nat → Prop} {s2 : Ps} (hG : ∀ i, G i → G1 i) (hk : Keeps (OwnT c.bp nv bv) W w1)
    (hn : ∀ i, OwnP c nv1 bv1 G1 i → OwnP c nv bv G i ∨ W.heap.size ≤ i) (hd : ∀ i, G1 i → ¬ OwnT c.bp nv1 bv1 i) (h2 : PaTo c w1 nv1 bv1 G1 s2 w2) : PaTo c W nv bv G s2 w2 := by
  obtain ⟨nv2, bv2, G2, ns2, g1, g2, g3, g4⟩ := h2
  have hs := hk.size
  refine ⟨nv2, bv2, G2, ns2, g1, hk.trans g2 (fun i hi hx => ?_), fun i hi => g3 i (hG i hi), fun i hi => ?_⟩
  · rcases hn i (.inl hx) with (h | h) | h
    · exact h
    · exact absurd hx (hd i (hG i h))
    · omega
  · rcases g4 i hi with h | h
    · exact hn i h
    · exact .inr (by omega)
end
end Go.Proofs.YtcjoapmodaioiaaGreatDoor
end

section
namespace Go.Proofs.YtcjoapmodaioiaaGreatDoor
open Go.RowKit Go.Shelf Pa

def tokVP (t : Tok) : Value := .agg #[.int .i64 t.kind, .string t.text, .int .i64 t.n, .int .i64 t.line, .int .i64 t.col]
def tokT (c : Cx) (s : Ps) : Tok := c.l.getD s.pos endTok
theorem tokT_bt (c : Cx) (s : Ps) : tokAt (c.l.map Tok.bt) s.pos = (tokT c s).bt := by
  unfold tokAt tokT; simp only [List.getD_eq_getElem?_getD, List.getElem?_map]; cases c.l[s.pos]? <;> rfl
set_option maxRecDepth 100000 in
set_option maxHeartbeats 4000000 in
theorem ptok_any {c : Cx} {W : World} {nv bv : Value} {G : Nat → Prop} {ns : List Nv} {s : Ps} (h : PaAt c W nv bv G ns s) :
    Calls Tryz.prog 50 #[.pointer (some ⟨c.bp, 0, none⟩)] W (fun e w' => e = .returned (tokVP (tokT c s)) ∧ Keeps (fun _ => False) W w') := by
  obtain ⟨b2, hb2⟩ : ∃ b2, W.heap.size = b2 := ⟨_, rfl⟩; obtain ⟨W0, hW0⟩ : ∃ W0, W.alloc (.cells #[.int .i64 0, .string ⟨#[]⟩, .int .i64 0, .int .i64 0, .int .i64 0] 59) = W0 := ⟨_, rfl⟩; (have hk0 : Keeps (fun _ => False) W W0 := by rw [← hW0]; exact (Keeps.refl _ _).alloc _); (have hB2 : Blk W0 b2 59 [.int .i64 0, .string ⟨#[]⟩, .int .i64 0, .int .i64 0, .int .i64 0] := by rw [← hW0, ← hb2]; exact Blk.new W _ [_, _, _, _, _]); have h0 := h.same hk0; obtain ⟨A, q, hlv, hq1, hq2, _⟩ := h0.toks.form; have htk := h0.toks; have hbox := h0.box; rw [hlv] at htk hbox; have hp := h0.pos; (have hT : tokT c s = c.l[s.pos] := by unfold tokT; rw [List.getD_eq_getElem?_getD, List.getElem?_eq_getElem hp]; rfl); rw [hT]; obtain ⟨g, off, rfl, -, l0, l1, l2, l3, l4, -⟩ := Tok.get htk hp; have c0 := hbox.cell (i := 0) rfl; have c1 := hbox.cell (i := 1) rfl; have r0 := hB2.cell (i := 0) rfl; have r1 := hB2.cell (i := 1) rfl; have r2 := hB2.cell (i := 2) rfl; have r3 := hB2.cell (i := 3) rfl; have r4 := hB2.cell (i := 4) rfl; have f0 := hB2.free 0; have f1 := hB2.free 1; have f2 := hB2.free 2; have f3 := hB2.free 3; have f4 := hB2.free 4; have hl2 := hB2.lt; have hl3 := hbox.lt; obtain ⟨t, ht⟩ : ∃ t, c.l[s.pos] = t := ⟨_, rfl⟩; rw [ht] at l0 l1 l2 l3 l4 ⊢; obtain ⟨m, hm⟩ : ∃ m, c.l.length = m := ⟨_, rfl⟩; obtain ⟨n, hn⟩ : ∃ n, s.pos = n := ⟨_, rfl⟩; obtain ⟨bp, hbp⟩ : ∃ bp, c.bp = bp := ⟨_, rfl⟩; rw [hm] at hp hq1 c0; rw [hn] at hp c1 l0 l1 l2 l3 l4; rw [hbp] at c0 c1 hl3 ⊢; (have hcm : m ≤ 9223372036854775807 := by unfold maxLen at hq2; omega); (have hw1 : (IntKind.i64.wrap (n : Int)) = (n : Int) := by rw [IntKind.wrap_i64]; omega); (have hn0 : (0 : Int) ≤ (n : Int) := by omega); (have hn1 : (n : Int) < (m : Int) := by omega); have HB2 := Lib.hid hB2; have HK0 := Lib.hid hk0; have HW0 := Lib.hid hW0; have HBn := Lib.hid hb2; clear h h0 htk hbox hT hlv hB2 hk0 hW0 hb2 ht hm hn hbp hq1 hq2; go_enter Tryz.func50, Tryz.ntmps50; go_upto_region 1 with (fail); rw [HW0.out, HBn.out]; go_region; go_wp2_with fail; (refine ret_row Tryz.results50 rfl (((((HB2.out.set_ 0 _).set_ 1 _).set_ 2 _).set_ 3 _).set_ 4 _).drew Tryz.underlying59 (by kernel_rfl) rfl ⟨rfl, ?_⟩); have hb := HBn.out; have hz := HK0.out.size; exact Keeps.of_below (X := fun _ => False) (((HK0.out.mono (Y := (· = b2)) (fun _ _ h => h.elim)).trans (((((((Keeps.refl (· = b2) W0).setCell (p := ⟨b2, 0, none⟩) (fun _ => rfl) _).setCell (p := ⟨b2, 1, none⟩) (fun _ => rfl) _).setCell (p := ⟨b2, 2, none⟩) (fun _ => rfl) _).setCell (p := ⟨b2, 3, none⟩) (fun _ => rfl) _).setCell (p := ⟨b2, 4, none⟩) (fun _ => rfl) _).drew) (fun _ _ h => h)).below (fun i hi => by omega) (Nat.le_refl _))
section
variable {c : Cx} {W : World} {nv bv : Value} {G : Nat → Prop} {ns : List Nv} {s : Ps}
set_option maxRecDepth 100000 in
set_option maxHeartbeats 4000000 in
theorem pis_any (h : PaAt c W nv bv G ns s) (kd : Int) (x : ByteArray) :
    Calls Tryz.prog 48 #[.pointer (some ⟨c.bp, 0, none⟩), .int .i64 kd, .string x] W (fun e w' => e = .returned (.bool (isB (tokT c s).bt kd x)) ∧ Keeps (fun _ => False) W w') := by
  have HT := Lib.hid (ptok_any h); unfold tokVP at HT; obtain ⟨t, ht⟩ : ∃ t, tokT c s = t := ⟨_, rfl⟩; obtain ⟨bp, hbp⟩ : ∃ bp, c.bp = bp := ⟨_, rfl⟩; rw [ht, hbp] at HT; rw [ht, hbp]; clear ht hbp h; unfold isB isX Tok.bt; dsimp only; by_cases h1 : t.kind = kd
  · by_cases h2 : t.text = x
    · have h3 := str_yes h2; (have hr : ((t.kind == kd) && decide (t.text = x)) = true := by simp [h1, h2]); (have hk : (t.kind == kd) = true := by simpa using h1); rw [hr]; clear hr h1 h2; go_enter Tryz.func48, Tryz.ntmps48; go_wp2_with fail
      with_reducible refine HT.out.mono ?_
      rintro e w1 ⟨rfl, hk1⟩; have HK1 := Lib.hid hk1; clear hk1; go_wp2_with fail; go_ret; exact ⟨rfl, HK1.out.alloc _⟩
    · have h3 := str_no h2; (have hr : ((t.kind == kd) && decide (t.text = x)) = false := by simp [h1, h2]); (have hk : (t.kind == kd) = true := by simpa using h1); rw [hr]; clear hr h1 h2; go_enter Tryz.func48, Tryz.ntmps48; go_wp2_with fail
      with_reducible refine HT.out.mono ?_
      rintro e w1 ⟨rfl, hk1⟩; have HK1 := Lib.hid hk1; clear hk1; go_wp2_with fail; go_ret; exact ⟨rfl, HK1.out.alloc _⟩
  · (have hr : ((t.kind == kd) && decide (t.text = x)) = false := by simp [h1]); (have hk : (t.kind == kd) = false := by simpa using h1); rw [hr]; clear hr h1; go_enter Tryz.func48, Tryz.ntmps48; go_wp2_with fail
    with_reducible refine HT.out.mono ?_
    rintro e w1 ⟨rfl, hk1⟩; have HK1 := Lib.hid hk1; clear hk1; go_wp2_with fail; go_ret; exact ⟨rfl, HK1.out.alloc _⟩
theorem pkey_any (h : PaAt c W nv bv G ns s) (x : ByteArray) :
    Calls Tryz.prog 140 #[.pointer (some ⟨c.bp, 0, none⟩), .string x] W (fun e w' => e = .returned (.bool (isB (tokT c s).bt 4 x)) ∧ Keeps (fun _ => False) W w') := by
  have HT := Lib.hid (pis_any h 4 x); obtain ⟨r, hr⟩ : ∃ r, isB (tokT c s).bt 4 x = r := ⟨_, rfl⟩; obtain ⟨bp, hbp⟩ : ∃ bp, c.bp = bp := ⟨_, rfl⟩; rw [hr, hbp] at HT; rw [hr, hbp]; clear hr hbp h; go_enter Tryz.func140, Tryz.ntmps140; go_wp2_with fail
  with_reducible refine HT.out.mono ?_
  rintro e w1 ⟨rfl, hk1⟩; have HK1 := Lib.hid hk1; clear hk1; go_wp2_with fail; go_ret; exact ⟨rfl, HK1.out⟩
theorem isX_eq (t : Tok) (x : ByteArray) : isX t.bt x = (t.text.toList == x.toList) := by
  unfold isX Tok.bt; dsimp only; by_cases h : t.text = x
  · rw [str_yes h, decide_eq_true h]
  · rw [str_no h, decide_eq_false h]
theorem l123 : (⟨#[123]⟩ : ByteArray).toList = [123] := by kernel_rfl
theorem l125 : (⟨#[125]⟩ : ByteArray).toList = [125] := by kernel_rfl
set_option maxRecDepth 100000 in
set_option maxHeartbeats 8000000 in
theorem popens_any (t : Tok) (W : World) :
    Calls Tryz.prog 89 #[.agg #[.int .i64 t.kind, .string t.text, .int .i64 t.n, .int .i64 t.line, .int .i64 t.col]] W (fun e w' => e = .returned (.int .i64 (opens t.bt)) ∧ Keeps (fun _ => False) W w') := by
  obtain ⟨q1, h1⟩ : ∃ q, (t.kind == 6) = q := ⟨_, rfl⟩; obtain ⟨q2, h2⟩ : ∃ q, (t.kind == 5) = q := ⟨_, rfl⟩; obtain ⟨q3, h3⟩ : ∃ q, (t.kind == 7) = q := ⟨_, rfl⟩; obtain ⟨q4, h4⟩ : ∃ q, (t.text.toList == [123]) = q := ⟨_, rfl⟩; obtain ⟨q5, h5⟩ : ∃ q, (t.text.toList == [125]) = q := ⟨_, rfl⟩
  have hr : opens t.bt = (if q1 || (q2 && q4) then 1 else if q3 || (q2 && q5) then -1 else 0) := by
    unfold opens isB; rw [isX_eq, isX_eq, l123, l125, ← h1, ← h2, ← h3, ← h4, ← h5]; rfl
  rw [hr]; clear hr
  cases q1 <;> cases q2 <;> cases q3 <;> cases q4 <;> cases q5 <;> (
    go_enter Tryz.func89, Tryz.ntmps89; go_wp2_with fail; go_ret
    exact ⟨rfl, (Keeps.refl _ _).alloc _⟩)
set_option maxRecDepth 100000 in
theorem pup_any (u : FrameMode) (h : PaAt c W nv bv G ns s) (hd : 1 ≤ s.deep) :
    CallsD Tryz.prog 158 #[.pointer (some ⟨c.bp, 0, none⟩)] u W (fun e u' w' => u' = u ∧ e = .returned (.tuple #[]) ∧ PaTo c W nv bv G { s with deep := s.deep - 1 } w') := by
  have h2 := h.deep; obtain ⟨d, hdd⟩ : ∃ d, s.deep = d := ⟨_, rfl⟩
  have hT : Hid (∀ w', w' = W.setCell ⟨c.bp, 2, none⟩ (.int .i64 (d - 1)) → PaTo c W nv bv G { s with deep := d - 1 } w') := fun w' e => by
    rw [e]; exact h.turned (((Keeps.refl (· = c.bp) W).setCell (p := ⟨c.bp, 2, none⟩) (fun _ => rfl) _)) (h.box.set_ 2 _) h.pos h.opn ⟨by omega, by omega⟩
  have c2 := h.box.cell (i := 2) rfl; have f2 := h.box.free 2; have hl := h.box.lt; rw [hdd] at c2 hd h2 ⊢; (have hw : IntKind.i64.wrap (d - 1) = d - 1 := by rw [IntKind.wrap_i64]; omega); obtain ⟨bp, hbp⟩ : ∃ bp, c.bp = bp := ⟨_, rfl⟩; rw [hbp] at c2 f2 hl hT ⊢; clear h hdd hbp; go_enter_d Tryz.func158, Tryz.ntmps158; go_wp2_with fail; go_end0; exact ⟨rfl, hT.out _ rfl⟩
end
end Go.Proofs.YtcjoapmodaioiaaGreatDoor
end

section
namespace Go.Proofs.YtcjoapmodaioiaaGreatDoor
open Go.RowKit Go.Shelf Pa

section
variable {c : Cx} {W w2 : World} {nv bv : Value} {G : Nat → Prop} {ns : List Nv} {s : Ps}
theorem PaAt.nNB (h : PaAt c W nv bv G ns s) (i : Nat) (hi : nv.ownBlock = some i) : ¬ bv.ownBlock = some i := by
  intro ho; obtain ⟨_, h1⟩ := h.nod; obtain ⟨_, h2⟩ := h.bad; rcases h1 with ⟨rfl, _⟩ | ⟨g, cap, cur, rfl, _, hg, _⟩
  · cases hi
  · rcases h2 with ⟨rfl, _⟩ | ⟨g2, cap2, cur2, rfl, _, hg2, _⟩
    · cases ho
    · (have e1 : g = i := by simpa [Value.ownBlock] using hi); (have e2 : g2 = i := by simpa [Value.ownBlock] using ho); subst e1; subst e2; rw [hg] at hg2; simp only [Option.some.injEq, Obj.cells.injEq] at hg2; exact absurd hg2.2.1 (by decide)
theorem PaAt.worse (h : PaAt c W nv bv G ns s) (e : Int) {g1 cap1 : Nat} (hk1 : Keeps (fun k => bv.ownBlock = some k) W w2)
    (hown : w2.ownsRow c.B 28 4 (.slice (some ⟨g1, 0, none⟩) (s.bad.length + 1) cap1) (s.bad.length + 1) (s.bad.flatMap (badCells c.l) ++ badCells c.l (e, s.pos))) (hat : bv.ownBlock = some g1 ∨ W.heap.size ≤ g1)
    (hn : s.bad.length < 1000000) : PaTo c W nv bv G { s with bad := s.bad ++ [(e, s.pos)] } (w2.setCell ⟨c.bp, 5, none⟩ (.slice (some ⟨g1, 0, none⟩) (s.bad.length + 1) cap1)) := by
  have hb2 := h.box.keeps hk1 h.nB; (have k2 : Keeps (· = c.bp) w2 (w2.setCell ⟨c.bp, 5, none⟩ (.slice (some ⟨g1, 0, none⟩) (s.bad.length + 1) cap1)) := (Keeps.refl (· = c.bp) w2).setCell (p := ⟨c.bp, 5, none⟩) (fun _ => rfl) _); have hs1 := hk1.size; have hs2 := k2.size; have hk : Keeps (fun i => i = c.bp ∨ bv.ownBlock = some i) W (w2.setCell ⟨c.bp, 5, none⟩ (.slice (some ⟨g1, 0, none⟩) (s.bad.length + 1) cap1)) := (hk1.mono (Y := fun i => i = c.bp ∨ bv.ownBlock = some i) (fun i _ hi => .inr hi)).trans k2 (fun i _ e => .inl e)
  have hg : ∀ i, (Value.slice (some ⟨g1, 0, none⟩) (s.bad.length + 1) cap1).ownBlock = some i → bv.ownBlock = some i ∨ W.heap.size ≤ i := fun i hi => by
    (have e1 : g1 = i := by simpa [Value.ownBlock] using hi); rw [← e1]; exact hat
  refine ⟨nv, .slice (some ⟨g1, 0, none⟩) (s.bad.length + 1) cap1, G, ns, ⟨hb2.set_ 5 _, ?_, fun i hi => ⟨by have := (h.far i hi).1; omega, ?_⟩, ?_, h.nds, fun x hx => ?_, fun i hi => ⟨by have := (h.old i hi).1; omega, ?_⟩, ?_, h.pos, h.opn, h.deep, h.few, ?_⟩, hk.mono (fun i _ hi => hi.elim .inl (fun hi => .inr (.inr hi))), fun _ h => h, fun i hi => ?_⟩
  · exact h.toks.keeps hk (fun i hi hx => (h.far i hi).2 (.inl (hx.elim .inl (fun hx => .inr (.inr hx)))))
  · rintro ((e | e | e) | e)
    · exact (h.far i hi).2 (.inl (.inl e))
    · exact (h.far i hi).2 (.inl (.inr (.inl e)))
    · rcases hg i e with e | e
      · exact (h.far i hi).2 (.inl (.inr (.inr e)))
      · have := (h.far i hi).1; omega
    · exact (h.far i hi).2 (.inr e)
  · exact own_keeps h.nod hk (fun i hi hx => hx.elim (fun e => h.nN (by rw [hi, e])) (fun e => h.nNB i hi e))
  · exact (h.kids x hx).keeps hk (fun i hi hx => (h.old i hi).2 (hx.elim .inl (fun hx => .inr (.inr hx))))
  · rintro (e | e | e)
    · exact (h.old i hi).2 (.inl e)
    · exact (h.old i hi).2 (.inr (.inl e))
    · rcases hg i e with e | e
      · exact (h.old i hi).2 (.inr (.inr e))
      · have := (h.old i hi).1; omega
  · (have := own_keeps hown k2 (fun i hi e => own_ne_blk hown hb2 (by decide) (by rw [hi, e]))); simpa [List.length_append, List.flatMap_append] using this
  · show (s.bad ++ [(e, s.pos)]).length ≤ 1000000
    rw [List.length_append]; simp only [List.length_cons, List.length_nil]; omega
  · rcases hi with (e | e | e) | e
    · exact .inl (.inl (.inl e))
    · exact .inl (.inl (.inr (.inl e)))
    · rcases hg i e with e | e
      · exact .inl (.inl (.inr (.inr e)))
      · exact .inr e
    · exact .inl (.inr e)
theorem infoDiagP : (Tryz.prog.info? 28).map (fun i => (i.zero, i.size, i.bytes)) = some (some (.agg #[.int .i64 0, .int .i64 0, .int .i64 0, .string ⟨#[]⟩]), 4, 40) := by kernel_rfl
set_option maxRecDepth 100000 in
set_option maxHeartbeats 8000000 in
theorem pfail_any (h : PaAt c W nv bv G ns s) (hB : c.B ≤ W.heap.size) (e : Int) (hn : s.bad.length < 1000000) :
    Calls Tryz.prog 88 #[.pointer (some ⟨c.bp, 0, none⟩), .int .i64 e] W (fun r w' => r = failed ∧ PaTo c W nv bv G { s with bad := s.bad ++ [(e, s.pos)] } w') := by
  obtain ⟨i0, hi0, hz0, hz1, hz2⟩ := info_parts infoDiagP; have HT := Lib.hid (ptok_any h); unfold tokVP at HT; obtain ⟨t, ht⟩ : ∃ t, tokT c s = t := ⟨_, rfl⟩; rw [ht] at HT; (have hbc : badCells c.l (e, s.pos) = [.int .i64 e, .int .i64 t.line, .int .i64 t.col, .string ⟨#[]⟩] := by rw [← ht]; rfl); have HH : Hid (PaAt c W nv bv G ns s) := h; obtain ⟨n, hnl⟩ : ∃ n, s.bad.length = n := ⟨_, rfl⟩; (have HMq : Hid (n + 1 ≤ maxLen) := by show _ ≤ _; unfold maxLen; omega); (have HBq : Hid ((n + 1) * 40 ≤ 140737488355328) := by show _ ≤ _; omega); have HBC := Lib.hid hbc; have HNL := Lib.hid hnl; have HNN := Lib.hid hn; have HBb := Lib.hid hB; obtain ⟨bp, hbp⟩ : ∃ bp, c.bp = bp := ⟨_, rfl⟩; have HBp := Lib.hid hbp; rw [hbp] at HT ⊢; clear h ht hbc hnl hn hB hbp; go_enter Tryz.func88, Tryz.ntmps88; go_wp2_with fail
  with_reducible refine HT.out.mono ?_
  rintro e1 w1 ⟨rfl, hk1⟩; obtain ⟨b4, hb4⟩ : ∃ b4, w1.heap.size = b4 := ⟨_, rfl⟩; obtain ⟨W0, hW0⟩ : ∃ W0, w1.alloc (.cells #[.int .i64 t.kind, .string t.text, .int .i64 t.n, .int .i64 t.line, .int .i64 t.col] 59) = W0 := ⟨_, rfl⟩; (have hk0 : Keeps (fun _ => False) W W0 := by rw [← hW0]; exact hk1.alloc _); (have hB4 : Blk W0 b4 59 [.int .i64 t.kind, .string t.text, .int .i64 t.n, .int .i64 t.line, .int .i64 t.col] := by rw [← hW0, ← hb4]; exact Blk.new w1 _ [_, _, _, _, _]); have h0 := HH.out.same hk0; have hs0 := hk0.size; have hs1 := hk1.size
  have HOut : Hid (∀ (w2 : World) (g1 cap1 : Nat), Keeps (fun k => bv.ownBlock = some k) W0 w2 → w2.ownsRow c.B 28 4 (.slice (some ⟨g1, 0, none⟩) (n + 1) cap1) (n + 1) (s.bad.flatMap (badCells c.l) ++ [.int .i64 e, .int .i64 t.line, .int .i64 t.col, .string ⟨#[]⟩]) → (bv.ownBlock = some g1 ∨ W0.heap.size ≤ g1) →
      PaTo c W nv bv G { s with bad := s.bad ++ [(e, s.pos)] } (w2.setCell ⟨bp, 5, none⟩ (.slice (some ⟨g1, 0, none⟩) (n + 1) cap1))) := fun w2 g1 cap1 q1 q2 q3 => by
    rw [← HNL.out, ← HBC.out] at q2; rw [← HNL.out, ← HBp.out]; exact PaTo.trans (fun _ h => h) (hk0.mono (fun _ _ h => h.elim)) (fun i hi => .inl hi) (fun i hi => (h0.old i hi).2) (h0.worse e q1 q2 q3 HNN.out)
  have hown := h0.bad; rw [HNL.out] at hown; (have HBZ : Hid (c.B ≤ W0.heap.size) := by have := HBb.out; show _ ≤ _; omega); have HNO := Lib.hid h0.nB; have HOwn := Lib.hid hown; have hbx := h0.box; rw [HBp.out] at hbx HNO; have HBox := Lib.hid hbx
  have hQ : Hid (∀ X, Keeps (fun i => bv.ownBlock = some i) W0 X → (X.cell? ⟨bp, 5, none⟩ = some bv ∧ X.cell? ⟨b4, 3, none⟩ = some (.int .i64 t.line) ∧ X.cell? ⟨b4, 4, none⟩ = some (.int .i64 t.col))) := fun X hk => by
    have hx := hbx.keeps hk HNO.out; (have hy := hB4.keeps hk (fun e => by have := HH.out.lt b4 (.inl (.inr (.inr e))); omega)); exact ⟨hx.cell (i := 5) rfl, hy.cell (i := 3) rfl, hy.cell (i := 4) rfl⟩
  have HW0 := Lib.hid hW0; have HBn := Lib.hid hb4; clear h0 hB4 hk0 hk1 hW0 hb4 hown hs0 hs1 hbx; go_upto_region 1 with (fail); rw [HW0.out, HBn.out]; refine wp_region_noPanic ?_; refine wp_region_till [15] (fun X => X.cell? ⟨bp, 5, none⟩ = some bv ∧ X.cell? ⟨b4, 3, none⟩ = some (.int .i64 t.line) ∧ X.cell? ⟨b4, 4, none⟩ = some (.int .i64 t.col)) (by kernel_rfl) ?_ (fun hE => ?_)
  · first | exact hQ.out _ hk1 | exact hQ.out _ (Keeps.mono (show Keeps (fun _ => False) W0 _ from (by repeat (first | (with_reducible exact Keeps.refl _ _) | (with_reducible refine Keeps.drew ?_) | (with_reducible refine Keeps.drewN ?_ _) | (with_reducible refine Keeps.alloc ?_ _) | (with_reducible refine Keeps.trans ?_ (by assumption) (fun _ _ h => h))))) (fun _ _ h => h.elim))
  (have hS := hE (by kernel_rfl)); refine wpAnyT_pure (i := 0) (v := ?v1_0_1) rfl (by kernel_rfl) (fun _ _ _ h => h) (Or.inl ⟨by rfl, ?y1_0_1⟩) (fun _ => hS) ?_
  case y1_0_1 => (intro w hSw; go_simp; try with_reducible rfl)
  (try simp only [AP]); refine wpAnyT_pure (i := 1) (v := ?v1_1_2) rfl (by kernel_rfl) (fun _ _ _ h => h) (Or.inl ⟨by rfl, ?y1_1_2⟩) (fun _ => hS) ?_
  case y1_1_2 => (intro w hSw; go_simp; try with_reducible rfl)
  (try simp only [AP]); refine wpAnyT_pure (i := 2) (v := ?v1_2_3) rfl (by kernel_rfl) (fun _ _ _ h => h) (Or.inl ⟨by rfl, ?y1_2_3⟩) (fun _ => hS) ?_
  case y1_2_3 => (intro w hSw; go_simp; try with_reducible rfl)
  (try simp only [AP]); refine wpAnyT_pure (i := 3) (v := ?v1_3_4) rfl (by kernel_rfl) (fun _ _ _ h => h) (Or.inl ⟨by rfl, ?y1_3_4⟩) (fun _ => hS) ?_
  case y1_3_4 => (intro w hSw; go_simp; try with_reducible rfl)
  (try simp only [AP]); refine wpAnyT_take (i := 4) (v := ?v1_4_5) rfl (by kernel_rfl) (fun _ _ _ h => h) (Or.inl ⟨by rfl, ?y1_4_5⟩) hS ?_
  case y1_4_5 => (intro w hSw; (try dsimp only at hSw); go_simp; try with_reducible rfl)
  (try simp only [AP]); refine wpAnyT_pure (i := 5) (v := ?v1_5_6) rfl (by kernel_rfl) (fun _ _ _ h => h) (Or.inl ⟨by rfl, ?y1_5_6⟩) (fun _ => hS) ?_
  case y1_5_6 => (intro w hSw; go_simp; try with_reducible rfl)
  (try simp only [AP]); refine wpAnyT_pure (i := 6) (v := ?v1_6_7) rfl (by kernel_rfl) (fun _ _ _ h => h) (Or.inl ⟨by rfl, ?y1_6_7⟩) (fun _ => hS) ?_
  case y1_6_7 => (intro w hSw; go_simp; try with_reducible rfl)
  (try simp only [AP]); refine wpAnyT_take (i := 7) (v := ?v1_7_8) rfl (by kernel_rfl) (fun _ _ _ h => h) (Or.inl ⟨by rfl, ?y1_7_8⟩) hS ?_
  case y1_7_8 => (intro w hSw; (try dsimp only at hSw); go_simp; try with_reducible rfl)
  (try simp only [AP]); refine wpAnyT_pure (i := 8) (v := ?v1_8_9) rfl (by kernel_rfl) (fun _ _ _ h => h) (Or.inl ⟨by rfl, ?y1_8_9⟩) (fun _ => hS) ?_
  case y1_8_9 => (intro w hSw; go_simp; try with_reducible rfl)
  (try simp only [AP]); refine wpAnyT_take (i := 9) (v := ?v1_9_10) rfl (by kernel_rfl) (fun _ _ _ h => h) (Or.inl ⟨by rfl, ?y1_9_10⟩) hS ?_
  case y1_9_10 => (intro w hSw; (try dsimp only at hSw); go_simp; try with_reducible rfl)
  (try simp only [AP]); refine wpAnyT_pure (i := 10) (v := ?v1_10_11) rfl (by kernel_rfl) (fun _ _ _ h => h) (Or.inl ⟨by rfl, ?y1_10_11⟩) (fun _ => hS) ?_
  case y1_10_11 => (intro w hSw; go_simp; try with_reducible rfl)
  (try simp only [AP]); (refine wpAnyT_ready (rs := [11]) (by kernel_rfl) rfl ?_); refine AllT.cons rfl (fun K hK => ?_) ?_
  · go_simp; refine hK.out _ _ (fun _ => ?_) (fun hE => ?_)
    · first | exact hQ.out _ hk1 | exact hQ.out _ (Keeps.mono (show Keeps (fun _ => False) W0 _ from (by repeat (first | (with_reducible exact Keeps.refl _ _) | (with_reducible refine Keeps.drew ?_) | (with_reducible refine Keeps.drewN ?_ _) | (with_reducible refine Keeps.alloc ?_ _) | (with_reducible refine Keeps.trans ?_ (by assumption) (fun _ _ h => h))))) (fun _ _ h => h.elim))
    (have hS := hE (by kernel_rfl)); clear hK K hE; (try simp only [AP]); (refine wpAnyT_ready (rs := [12]) (by kernel_rfl) rfl ?_); refine AllT.cons rfl (fun K hK => ?_) ?_
    · (refine step_append_kept2 (W0 := W0) rfl (.tmp 11) (.tmp 18) 23 rfl c.B 28 i0 _ 4 40 Tryz.underlying23 hi0 hz0 hz1 hz2 rfl (by decide) bv n (s.bad.flatMap (badCells c.l)) rfl HOwn.out (by repeat (first | (with_reducible exact Keeps.refl _ _) | (with_reducible refine Keeps.drew ?_) | (with_reducible refine Keeps.drewN ?_ _) | (with_reducible refine Keeps.alloc ?_ _) | (with_reducible refine Keeps.trans ?_ (by assumption) (fun _ _ h => h)))) _ _ #[.int .i64 e, .int .i64 t.line, .int .i64 t.col, .string ⟨#[]⟩] rfl rfl (by first | exact heap_new_at (by simp) | exact heap_new_at (w := W0) (by simp)) (by simp [Value.oneCell']) HMq.out HBq.out HBZ.out ?_; intro g1 cap1 w2 hown1 hk1 hkp1 hat1; have hb2 := HBox.out.keeps hk1 HNO.out); refine hK.out _ _ (fun _ => ?_) (fun hE => ?_)
      · first | exact hQ.out _ hk1 | exact hQ.out _ (Keeps.mono (show Keeps (fun _ => False) W0 _ from (by repeat (first | (with_reducible exact Keeps.refl _ _) | (with_reducible refine Keeps.drew ?_) | (with_reducible refine Keeps.drewN ?_ _) | (with_reducible refine Keeps.alloc ?_ _) | (with_reducible refine Keeps.trans ?_ (by assumption) (fun _ _ h => h))))) (fun _ _ h => h.elim))
      (have hS := hE (by kernel_rfl)); clear hK K hE; (try simp only [AP]); refine wpAnyT_pure (i := 13) (v := ?v1_13_12) rfl (by kernel_rfl) (fun _ _ _ h => h) (Or.inl ⟨by rfl, ?y1_13_12⟩) (fun _ => hS) ?_
      case y1_13_12 => (intro w hSw; go_simp; try with_reducible rfl)
      (try simp only [AP]); refine wpAnyT_pure (i := 14) (v := ?v1_14_13) rfl (by kernel_rfl) (fun _ _ _ h => h) (Or.inl ⟨by rfl, ?y1_14_13⟩) (fun _ => hS) ?_
      case y1_14_13 => (intro w hSw; go_simp; try with_reducible rfl)
      (try simp only [AP]); (refine wpAnyT_ready (rs := [15]) (by kernel_rfl) rfl ?_); refine AllT.cons rfl (fun K hK => ?_) ?_
      · (have z1 := hb2.cell (i := 5) rfl; have zf := hb2.free 5; have zl := hb2.lt; go_simp); (refine hK.out _ _ (fun he => Bool.noConfusion (show false = true from he)) (fun hE => ?_)); clear hK K hE; (try simp only [AP]); (refine wpAnyT_done (by kernel_rfl) ?_ _); refine NoPanic.normal ?_; (have HTo := Lib.hid (HOut.out _ _ _ hk1 hown1 (hat1.imp id (fun h => Nat.le_trans (Keeps.size (show Keeps (fun _ => False) W0 _ from (by repeat (first | (with_reducible exact Keeps.refl _ _) | (with_reducible refine Keeps.drew ?_) | (with_reducible refine Keeps.drewN ?_ _) | (with_reducible refine Keeps.alloc ?_ _) | (with_reducible refine Keeps.trans ?_ (by assumption) (fun _ _ h => h)))))) h)))); clear hown1 hk1 hkp1 hat1 hb2; go_wp2_with fail; exact ⟨rfl, rfl, HTo.out⟩
      exact AllT.nil
    exact AllT.nil
  exact AllT.nil
end
end Go.Proofs.YtcjoapmodaioiaaGreatDoor
end
