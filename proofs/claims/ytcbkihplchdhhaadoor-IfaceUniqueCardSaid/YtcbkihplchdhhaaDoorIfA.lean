/- iface.all at every element type. -/
import Derived.Test.YtcbkihplchdhhaaDoorIfR
import Derived.Test.YtcbkihplchdhhaaDoorStepKept
namespace Go.Proofs.YtcbkihplchdhhaaDoor
open Go.RowKit Go.Shelf

namespace If
section
variable {α : Type}
/-- What a reading function leaves. -/
def RPost (W : World) (br : Nat) (deep : Int) (f : α → D) (arg : List Value → Value) (y : α × R) (e : Ending) (w' : World) : Prop :=
  ∃ cs, e = .returned (arg cs) ∧ Rp w' (fun b => W.heap.size ≤ b ∧ b < w'.heap.size) (f y.1) cs ∧ RdAt w' br y.2 deep ∧ Keeps (· = br) W w'
def RFn (m : FuncId) (pre : Array Value) (arg : List Value → Value) (f : α → D) (g : R → α × R) (br : Nat) (deep : Int) : Prop :=
  ∀ (W : World) (r : R), RdAt W br r deep → r.s.length ≤ 1048576 → Calls Tryd.prog m pre W (RPost W br deep f arg (g r))
def Short (g : R → α × R) : Prop := ∀ r, (g r).2.s.length ≤ r.s.length
theorem loopR_len {g : R → α × R} (hg : Short g) : ∀ n r, (loopR g n r).2.s.length ≤ r.s.length
  | 0, r => Nat.le_refl _
  | n + 1, r => by
    rw [loopR]
    split
    · exact Nat.le_refl _
    · have := loopR_len hg n (g r).2
      have := hg r
      dsimp only; omega
theorem allR_len {g : R → α × R} (hg : Short g) : Short (allR g) := fun r => by
  unfold allR
  have := manyR_len 4 r
  have := loopR_len hg (manyR 4 r).1 (manyR 4 r).2
  dsimp only; omega
/-- At the head of the loop of all. -/
structure Al (f : α → D) (te : TypeId) (k : Nat) (W : World) (br : Nat) (deep : Int) (g : R → α × R) (n0 : Nat) (r0 : R) (m : Nat) (ov : Value) (U : List (α × List Value)) (r : R) (wr : World) : Prop where
  own : wr.ownsRow W.heap.size te k ov U.length (U.flatMap Prod.snd)
  each : ∀ p ∈ U, Rp wr (fun b => (W.heap.size ≤ b ∧ b < wr.heap.size) ∧ ¬ ov.ownBlock = some b) (f p.1) p.2
  rd : RdAt wr br r deep
  keeps : Keeps (· = br) W wr
  plain : loopR g n0 r0 = (U.map Prod.fst ++ (loopR g m r).1, (loopR g m r).2)
  few : U.length + m ≤ 262144
  short : r.s.length ≤ 1048576
  brl : br < W.heap.size
section
variable {f : α → D} {te : TypeId} {k : Nat} {W : World} {br : Nat} {deep : Int} {g : R → α × R} {n0 m : Nat} {r0 r : R} {ov : Value} {U : List (α × List Value)} {wr w1 w3 : World}
theorem Al.next {gg cap : Nat} {cs : List Value} (h : Al f te k W br deep g n0 r0 (m + 1) ov U r wr) (hg : Short g) (hb : r.bad = false) (hte : te ≠ 65)
    (hR : Rp w1 (fun b => wr.heap.size ≤ b ∧ b < w1.heap.size) (f (g r).1) cs) (hrd : RdAt w1 br (g r).2 deep) (hk : Keeps (· = br) wr w1) (o : Obj)
    (hown : w3.ownsRow W.heap.size te k (.slice (some ⟨gg, 0, none⟩) (U.length + 1) cap) (U.length + 1) (U.flatMap Prod.snd ++ cs)) (hgrow : (w1.alloc o).grownBy w3 ov.ownBlock) (hat : ov.ownBlock = some gg ∨ gg = w1.heap.size + 1) :
    Al f te k W br deep g n0 r0 m (.slice (some ⟨gg, 0, none⟩) (U.length + 1) cap) (U ++ [((g r).1, cs)]) (g r).2 w3 := by
  have hne : ¬ ov.ownBlock = some br := own_ne_blk h.own h.rd hte
  have hol : ∀ i, ov.ownBlock = some i → W.heap.size ≤ i ∧ i < wr.heap.size := fun i hi => h.own.lt i hi
  have hz1 := hk.size
  have hk3 : Keeps (fun i => ov.ownBlock = some i) w1 w3 := ((Keeps.refl _ w1).alloc o).grown hgrow (fun i hi _ => hi)
  have hz3 := hk3.size
  have hz := h.keeps.size
  have hbrl := h.brl
  have hz4 : w1.heap.size + 1 ≤ w3.heap.size := by have := hgrow.size; simpa using this
  have hggl := (hown.lt gg rfl).2
  have hnew : ∀ b, (Value.slice (some ⟨gg, 0, none⟩) (U.length + 1) cap).ownBlock = some b → gg = b := fun b hb => by simpa [Value.ownBlock] using hb
  have hk13 : Keeps (fun i => i = br ∨ ov.ownBlock = some i) wr w3 := (hk.mono (Y := fun i => i = br ∨ ov.ownBlock = some i) (fun _ _ h => .inl h)).trans hk3 (fun i _ hi => .inr hi)
  have hkW : Keeps (· = br) W w3 := h.keeps.trans hk13 (fun i hi hx => by
    rcases hx with hx | hx
    · exact hx
    · have := (hol i hx).1; omega)
  refine ⟨?_, fun p hp => ?_, hrd.keeps hk3 hne, hkW, ?_, ?_, Nat.le_trans (hg r) h.short, h.brl⟩
  · rw [List.length_append, List.flatMap_append]
    simpa using hown
  · rcases List.mem_append.1 hp with hp | hp
    · refine ((h.each p hp).keeps hk13 (fun i hi hx => ?_)).mono (fun b hb => ⟨⟨hb.1.1, by have := hb.1.2; omega⟩, fun hx => ?_⟩)
      · rcases hx with hx | hx
        · have := hi.1.1; omega
        · exact hi.2 hx
      · have e := hnew b hx
        subst e
        rcases hat with h1 | h1
        · exact hb.2 h1
        · have := hb.1.2; omega
    · rw [List.mem_singleton] at hp
      subst hp
      refine (hR.keeps hk3 (fun i hi hx => ?_)).mono (fun b hb => ⟨⟨by have := hb.1; omega, by have := hb.2; omega⟩, fun hx => ?_⟩)
      · have := (hol i hx).2; have := hi.1; omega
      · have e := hnew b hx
        subst e
        rcases hat with h1 | h1
        · have := (hol _ h1).2; have := hb.1; omega
        · have := hb.2; omega
  · rw [h.plain, loopR, if_neg (by rw [hb]; decide)]
    simp only [List.map_append, List.map_cons, List.map_nil, List.append_assoc, List.cons_append, List.nil_append]
  · have := h.few
    rw [List.length_append]; simp only [List.length_cons, List.length_nil]; omega
theorem rpAll_pairs {w : World} {F : Nat → Prop} : ∀ {U : List (α × List Value)}, (∀ p ∈ U, Rp w F (f p.1) p.2) → RpAll w F ((U.map Prod.fst).map f) (U.flatMap Prod.snd)
  | [], _ => by simp [RpAll]
  | p :: U, h => by
    simp only [List.map_cons, rpAll_cons, List.flatMap_cons]
    exact ⟨_, _, rfl, h p List.mem_cons_self, rpAll_pairs (fun q hq => h q (List.mem_cons_of_mem _ hq))⟩
theorem Al.out (h : Al f te k W br deep g n0 r0 m ov U r wr) (hend : (loopR g m r) = ([], r)) : loopR g n0 r0 = (U.map Prod.fst, r) ∧ Sl wr (fun b => W.heap.size ≤ b ∧ b < wr.heap.size) f (U.map Prod.fst) ov := by
  have h1 := h.plain
  rw [hend, List.append_nil] at h1
  refine ⟨h1, Sl.of_own h.own (List.length_map _).symm (rpAll_pairs h.each) (fun b hb => hb.1) (fun b hb => ?_)⟩
  have := h.own.lt b hb
  exact ⟨this.1, this.2⟩
theorem loopR_end0 (r : R) : loopR g 0 r = ([], r) := rfl
theorem loopR_bad (n : Nat) (r : R) (h : r.bad = true) : loopR g n r = ([], r) := by
  cases n with
  | zero => rfl
  | succ n => rw [loopR, if_pos h]
end
end
theorem infoStr : (Tryd.prog.info? 9).map (fun i => (i.zero, i.size, i.bytes)) = some (some (.string ⟨#[]⟩), 1, 16) := by kernel_rfl
set_option maxRecDepth 100000 in
set_option maxHeartbeats 8000000 in
theorem allStr_any (br : Nat) (deep : Int) (m : FuncId) (pre : Array Value) (eg : Enters Tryd.prog m) (g : R → ByteArray × R) (hs : Short g) (hf : RFn m pre argS dStr g br deep) (W : World) (r : R) (h : RdAt W br r deep) (hl : r.s.length ≤ 1048576) :
    Calls Tryd.prog 14 #[.pointer (some ⟨br, 0, none⟩), .func (.func m) pre #[]] W (fun e w' => ∃ v, e = .returned v ∧ Sl w' (fun b => W.heap.size ≤ b ∧ b < w'.heap.size) dStr (allR g r).1 v ∧ RdAt w' br (allR g r).2 deep ∧ Keeps (· = br) W w') := by
  obtain ⟨it, hit, htz0, htz1, htz2⟩ := info_parts infoStr
  have hN := rmany_any W br r deep 4 (by decide) (by decide) h hl
  rw [show ((4 : Nat) : Int) = 4 from rfl] at hN
  have HN := Lib.hid hN
  have hw := manyR_le 4 r
  have hle := manyR_len 4 r
  have hbl : br < W.heap.size := Blk.lt h
  have hA : allR g r = loopR g (manyR 4 r).1 (manyR 4 r).2 := rfl
  rw [hA]
  generalize manyR 4 r = y at HN hw hle
  obtain ⟨n, r1⟩ := y
  dsimp only at HN hw hle ⊢
  have hr1 : r1.s.length ≤ 1048576 := by omega
  have hn1 : n ≤ 262144 := by omega
  have HF := Lib.hid hf
  have HS := Lib.hid hs
  clear h hA hN hf hs
  unfold Enters at eg
  go_enter Tryd.func14, Tryd.ntmps14
  go_wp2_with fail
  with_reducible refine HN.out.mono ?_
  rintro e w1 ⟨rfl, h1, hk1⟩
  have HA0 : Hid (Al dStr 9 1 W br deep g n r1 n (.slice none 0 0) [] r1 w1) := ⟨⟨rfl, .inl ⟨rfl, rfl⟩⟩, fun p hp => (by cases hp), h1, hk1, by simp, by simpa using hn1, hr1, hbl⟩
  clear h1 hk1 hbl hr1 hn1 hw hle
  go_wp2_with fail
  go_loopw [5, 6] (fun oo nv wr => ∃ (k : Nat) (U : List (ByteArray × List Value)) (r : R) (ov : Value), ov = oo ∧ .int .i64 (k : Int) = nv ∧ k ≤ 262144 ∧ Hid (Al dStr 9 1 W br deep g n r1 k ov U r wr)) (fun _ nv _ => (intOf nv).toNat)
  case atStart => exact ⟨n, [], r1, _, rfl, rfl, by have := HA0.out.few; simpa using this, HA0.out⟩
  case round =>
    obtain ⟨k, U, r, ov, rfl, rfl, hk, hU⟩ := hrel
    obtain ⟨s, bad⟩ := r
    have hrd := hU.out.rd
    unfold RdAt at hrd
    have c1 := hrd.cell (i := 1) rfl
    clear hrd
    cases k with
    | zero =>
      have HO := Lib.hid (hU.out.out (loopR_end0 _))
      have HK := Lib.hid hU.out.keeps
      have HR := Lib.hid hU.out.rd
      have k0 : ¬ (0 : Int) < ((0 : Nat) : Int) := by omega
      go_wp2_with fail
      go_ret
      exact ⟨_, rfl, by rw [HO.out.1]; exact HO.out.2, by rw [HO.out.1]; exact HR.out, HK.out⟩
    | succ k =>
    cases bad with
    | true =>
      have HO := Lib.hid (hU.out.out (loopR_bad _ _ rfl))
      have HK := Lib.hid hU.out.keeps
      have HR := Lib.hid hU.out.rd
      have k0 : (0 : Int) < ((k + 1 : Nat) : Int) := by omega
      go_wp2_with fail
      go_ret
      exact ⟨_, rfl, by rw [HO.out.1]; exact HO.out.2, by rw [HO.out.1]; exact HR.out, HK.out⟩
    | false =>
      have k0 : (0 : Int) < ((k + 1 : Nat) : Int) := by omega
      have k1 : (k : Int) ≤ 262143 := by omega
      have HC := Lib.hid (HF.out wr ⟨s, false⟩ hU.out.rd hU.out.short)
      go_wp2_with fail
      refine HC.out.mono ?_
      rintro e w2 ⟨cs, rfl, hR, hrd, hkw⟩
      obtain ⟨x, hx⟩ : ∃ x, (g ⟨s, false⟩).1 = x := ⟨_, rfl⟩
      have hcs : cs = [.string x] := by have h := (rp_str.1 hR).1; rw [hx] at h; exact h
      subst hcs
      have HR := Lib.hid hR
      have HD := Lib.hid hrd
      have HK := Lib.hid hkw
      have HX := Lib.hid hx
      have hown : w2.ownsRow W.heap.size 9 1 ov U.length (U.flatMap Prod.snd) := own_keeps hU.out.own hkw (fun i hi e => own_ne_blk hU.out.own hU.out.rd (by decide) (by rw [hi, e]))
      have HO := Lib.hid hown
      have hul : U.length + (k + 1) ≤ 262144 := hU.out.few
      have hWl : W.heap.size ≤ w2.heap.size := Nat.le_trans hU.out.keeps.size hkw.size
      have HWl := Lib.hid hWl
      clear hR hrd hkw HC hx hown hWl
      unfold argS
      go_wp2_with (at_builtin; go_loud (refine wpList_append_lies _ rfl _ _ 25 rfl W.heap.size 9 it _ 1 16 Tryd.underlying25 hit htz0 htz1 htz2 rfl (by omega) ov U.length (U.flatMap Prod.snd) rfl (World.ownsRow.alloc HO.out _) ⟨w2.heap.size, 0, none⟩ 1 1 [.string x] rfl rfl (World.news_of_block (cs := #[.string x]) (t := 9) (fr := (0, 0)) (heap_alloc_new _ _)) (by simp [Value.oneCell']) (by omega) (by unfold maxLen; omega) (by omega) (by have := HWl.out; simp; omega) (w2.heap.size + 1) (by simp) ?_; intro gg cap w3 hown1 hgrow hat hlt1; have HNx := Lib.hid (hU.out.next HS.out rfl (by decide) HR.out HD.out HK.out _ hown1 hgrow hat); clear hown1 hgrow hat hlt1))
      go_roundw
      case rel => exact ⟨k, _, _, _, rfl, by go_num, by omega, HNx.out⟩
      case measure => simp [intOf]
theorem infoTy : (Tryd.prog.info? 47).map (fun i => (i.zero, i.size, i.bytes)) = some (some (.agg #[.int .i64 0, .string ⟨#[]⟩, .int .i64 0, .slice none 0 0]), 4, 56) := by kernel_rfl
set_option maxRecDepth 100000 in
set_option maxHeartbeats 8000000 in
theorem allTy_any (br : Nat) (deep : Int) (m : FuncId) (pre : Array Value) (eg : Enters Tryd.prog m) (g : R → Ty × R) (hs : Short g) (hf : RFn m pre argA tyD g br deep) (W : World) (r : R) (h : RdAt W br r deep) (hl : r.s.length ≤ 1048576) :
    Calls Tryd.prog 85 #[.pointer (some ⟨br, 0, none⟩), .func (.func m) pre #[]] W (fun e w' => ∃ v, e = .returned v ∧ Sl w' (fun b => W.heap.size ≤ b ∧ b < w'.heap.size) tyD (allR g r).1 v ∧ RdAt w' br (allR g r).2 deep ∧ Keeps (· = br) W w') := by
  obtain ⟨it, hit, htz0, htz1, htz2⟩ := info_parts infoTy
  have hN := rmany_any W br r deep 4 (by decide) (by decide) h hl
  rw [show ((4 : Nat) : Int) = 4 from rfl] at hN
  have HN := Lib.hid hN
  have hw := manyR_le 4 r
  have hle := manyR_len 4 r
  have hbl : br < W.heap.size := Blk.lt h
  have hA : allR g r = loopR g (manyR 4 r).1 (manyR 4 r).2 := rfl
  rw [hA]
  generalize manyR 4 r = y at HN hw hle
  obtain ⟨n, r1⟩ := y
  dsimp only at HN hw hle ⊢
  have hr1 : r1.s.length ≤ 1048576 := by omega
  have hn1 : n ≤ 262144 := by omega
  have HF := Lib.hid hf
  have HS := Lib.hid hs
  clear h hA hN hf hs
  unfold Enters at eg
  go_enter Tryd.func85, Tryd.ntmps85
  go_wp2_with fail
  with_reducible refine HN.out.mono ?_
  rintro e w1 ⟨rfl, h1, hk1⟩
  have HA0 : Hid (Al tyD 47 4 W br deep g n r1 n (.slice none 0 0) [] r1 w1) := ⟨⟨rfl, .inl ⟨rfl, rfl⟩⟩, fun p hp => (by cases hp), h1, hk1, by simp, by simpa using hn1, hr1, hbl⟩
  clear h1 hk1 hbl hr1 hn1 hw hle
  go_wp2_with fail
  go_loopw [5, 6] (fun oo nv wr => ∃ (k : Nat) (U : List (Ty × List Value)) (r : R) (ov : Value), ov = oo ∧ .int .i64 (k : Int) = nv ∧ k ≤ 262144 ∧ Hid (Al tyD 47 4 W br deep g n r1 k ov U r wr)) (fun _ nv _ => (intOf nv).toNat)
  case atStart => exact ⟨n, [], r1, _, rfl, rfl, by have := HA0.out.few; simpa using this, HA0.out⟩
  case round =>
    obtain ⟨k, U, r, ov, rfl, rfl, hk, hU⟩ := hrel
    obtain ⟨s, bad⟩ := r
    have hrd := hU.out.rd
    unfold RdAt at hrd
    have c1 := hrd.cell (i := 1) rfl
    clear hrd
    cases k with
    | zero =>
      have HO := Lib.hid (hU.out.out (loopR_end0 _))
      have HK := Lib.hid hU.out.keeps
      have HR := Lib.hid hU.out.rd
      have k0 : ¬ (0 : Int) < ((0 : Nat) : Int) := by omega
      go_wp2_with fail
      go_ret
      exact ⟨_, rfl, by rw [HO.out.1]; exact HO.out.2, by rw [HO.out.1]; exact HR.out, HK.out⟩
    | succ k =>
    cases bad with
    | true =>
      have HO := Lib.hid (hU.out.out (loopR_bad _ _ rfl))
      have HK := Lib.hid hU.out.keeps
      have HR := Lib.hid hU.out.rd
      have k0 : (0 : Int) < ((k + 1 : Nat) : Int) := by omega
      go_wp2_with fail
      go_ret
      exact ⟨_, rfl, by rw [HO.out.1]; exact HO.out.2, by rw [HO.out.1]; exact HR.out, HK.out⟩
    | false =>
      have k0 : (0 : Int) < ((k + 1 : Nat) : Int) := by omega
      have k1 : (k : Int) ≤ 262143 := by omega
      have HC := Lib.hid (HF.out wr ⟨s, false⟩ hU.out.rd hU.out.short)
      go_wp2_with fail
      refine HC.out.mono ?_
      rintro e w2 ⟨cs, rfl, hR, hrd, hkw⟩
      obtain ⟨x, hx⟩ : ∃ x, (g ⟨s, false⟩).1 = x := ⟨_, rfl⟩
      have hR' := hR
      rw [hx] at hR'
      obtain ⟨v3, rfl, s3⟩ := tyD.rp.1 hR'
      obtain ⟨A3, q3, rfl, -, -, -⟩ := s3.form
      clear hR' s3
      have HR := Lib.hid hR
      have HD := Lib.hid hrd
      have HK := Lib.hid hkw
      have HX := Lib.hid hx
      have hown : w2.ownsRow W.heap.size 47 4 ov U.length (U.flatMap Prod.snd) := own_keeps hU.out.own hkw (fun i hi e => own_ne_blk hU.out.own hU.out.rd (by decide) (by rw [hi, e]))
      have HO := Lib.hid hown
      have hul : U.length + (k + 1) ≤ 262144 := hU.out.few
      have hWl : W.heap.size ≤ w2.heap.size := Nat.le_trans hU.out.keeps.size hkw.size
      have HWl := Lib.hid hWl
      clear hR hrd hkw HC hx hown hWl
      unfold argA
      unfold Ty.cells
      go_wp2_with (at_builtin; go_loud (refine wpList_append_lies _ rfl _ _ 45 rfl W.heap.size 47 it _ 4 56 Tryd.underlying45 hit htz0 htz1 htz2 rfl (by omega) ov U.length (U.flatMap Prod.snd) rfl (World.ownsRow.alloc HO.out _) ⟨w2.heap.size, 0, none⟩ 1 1 [.int .i64 x.kind, .string x.name, .int .i64 x.var, .slice A3 x.args.length q3] rfl rfl (World.news_of_block (cs := #[.int .i64 x.kind, .string x.name, .int .i64 x.var, .slice A3 x.args.length q3]) (t := 47) (fr := (0, 0)) (heap_alloc_new _ _)) (by simp [Value.oneCell']) (by omega) (by unfold maxLen; omega) (by omega) (by have := HWl.out; simp; omega) (w2.heap.size + 1) (by simp) ?_; intro gg cap w3 hown1 hgrow hat hlt1; have HNx := Lib.hid (hU.out.next HS.out rfl (by decide) HR.out HD.out HK.out _ hown1 hgrow hat); clear hown1 hgrow hat hlt1))
      go_roundw
      case rel => exact ⟨k, _, _, _, rfl, by go_num, by omega, HNx.out⟩
      case measure => simp [intOf]
theorem infoConSig : (Tryd.prog.info? 56).map (fun i => (i.zero, i.size, i.bytes)) = some (some (.agg #[.string ⟨#[]⟩, .slice none 0 0]), 2, 40) := by kernel_rfl
set_option maxRecDepth 100000 in
set_option maxHeartbeats 8000000 in
theorem allConSig_any (br : Nat) (deep : Int) (m : FuncId) (pre : Array Value) (eg : Enters Tryd.prog m) (g : R → ConSig × R) (hs : Short g) (hf : RFn m pre argA ConSig.d g br deep) (W : World) (r : R) (h : RdAt W br r deep) (hl : r.s.length ≤ 1048576) :
    Calls Tryd.prog 51 #[.pointer (some ⟨br, 0, none⟩), .func (.func m) pre #[]] W (fun e w' => ∃ v, e = .returned v ∧ Sl w' (fun b => W.heap.size ≤ b ∧ b < w'.heap.size) ConSig.d (allR g r).1 v ∧ RdAt w' br (allR g r).2 deep ∧ Keeps (· = br) W w') := by
  obtain ⟨it, hit, htz0, htz1, htz2⟩ := info_parts infoConSig
  have hN := rmany_any W br r deep 4 (by decide) (by decide) h hl
  rw [show ((4 : Nat) : Int) = 4 from rfl] at hN
  have HN := Lib.hid hN
  have hw := manyR_le 4 r
  have hle := manyR_len 4 r
  have hbl : br < W.heap.size := Blk.lt h
  have hA : allR g r = loopR g (manyR 4 r).1 (manyR 4 r).2 := rfl
  rw [hA]
  generalize manyR 4 r = y at HN hw hle
  obtain ⟨n, r1⟩ := y
  dsimp only at HN hw hle ⊢
  have hr1 : r1.s.length ≤ 1048576 := by omega
  have hn1 : n ≤ 262144 := by omega
  have HF := Lib.hid hf
  have HS := Lib.hid hs
  clear h hA hN hf hs
  unfold Enters at eg
  go_enter Tryd.func51, Tryd.ntmps51
  go_wp2_with fail
  with_reducible refine HN.out.mono ?_
  rintro e w1 ⟨rfl, h1, hk1⟩
  have HA0 : Hid (Al ConSig.d 56 2 W br deep g n r1 n (.slice none 0 0) [] r1 w1) := ⟨⟨rfl, .inl ⟨rfl, rfl⟩⟩, fun p hp => (by cases hp), h1, hk1, by simp, by simpa using hn1, hr1, hbl⟩
  clear h1 hk1 hbl hr1 hn1 hw hle
  go_wp2_with fail
  go_loopw [5, 6] (fun oo nv wr => ∃ (k : Nat) (U : List (ConSig × List Value)) (r : R) (ov : Value), ov = oo ∧ .int .i64 (k : Int) = nv ∧ k ≤ 262144 ∧ Hid (Al ConSig.d 56 2 W br deep g n r1 k ov U r wr)) (fun _ nv _ => (intOf nv).toNat)
  case atStart => exact ⟨n, [], r1, _, rfl, rfl, by have := HA0.out.few; simpa using this, HA0.out⟩
  case round =>
    obtain ⟨k, U, r, ov, rfl, rfl, hk, hU⟩ := hrel
    obtain ⟨s, bad⟩ := r
    have hrd := hU.out.rd
    unfold RdAt at hrd
    have c1 := hrd.cell (i := 1) rfl
    clear hrd
    cases k with
    | zero =>
      have HO := Lib.hid (hU.out.out (loopR_end0 _))
      have HK := Lib.hid hU.out.keeps
      have HR := Lib.hid hU.out.rd
      have k0 : ¬ (0 : Int) < ((0 : Nat) : Int) := by omega
      go_wp2_with fail
      go_ret
      exact ⟨_, rfl, by rw [HO.out.1]; exact HO.out.2, by rw [HO.out.1]; exact HR.out, HK.out⟩
    | succ k =>
    cases bad with
    | true =>
      have HO := Lib.hid (hU.out.out (loopR_bad _ _ rfl))
      have HK := Lib.hid hU.out.keeps
      have HR := Lib.hid hU.out.rd
      have k0 : (0 : Int) < ((k + 1 : Nat) : Int) := by omega
      go_wp2_with fail
      go_ret
      exact ⟨_, rfl, by rw [HO.out.1]; exact HO.out.2, by rw [HO.out.1]; exact HR.out, HK.out⟩
    | false =>
      have k0 : (0 : Int) < ((k + 1 : Nat) : Int) := by omega
      have k1 : (k : Int) ≤ 262143 := by omega
      have HC := Lib.hid (HF.out wr ⟨s, false⟩ hU.out.rd hU.out.short)
      go_wp2_with fail
      refine HC.out.mono ?_
      rintro e w2 ⟨cs, rfl, hR, hrd, hkw⟩
      obtain ⟨x, hx⟩ : ∃ x, (g ⟨s, false⟩).1 = x := ⟨_, rfl⟩
      have hR' := hR
      rw [hx] at hR'
      obtain ⟨v1, rfl, s0, s1⟩ := ConSig.rp.1 hR'
      obtain ⟨A1, q1, rfl, -, -, -⟩ := s1.form
      clear hR' s0 s1
      have HR := Lib.hid hR
      have HD := Lib.hid hrd
      have HK := Lib.hid hkw
      have HX := Lib.hid hx
      have hown : w2.ownsRow W.heap.size 56 2 ov U.length (U.flatMap Prod.snd) := own_keeps hU.out.own hkw (fun i hi e => own_ne_blk hU.out.own hU.out.rd (by decide) (by rw [hi, e]))
      have HO := Lib.hid hown
      have hul : U.length + (k + 1) ≤ 262144 := hU.out.few
      have hWl : W.heap.size ≤ w2.heap.size := Nat.le_trans hU.out.keeps.size hkw.size
      have HWl := Lib.hid hWl
      clear hR hrd hkw HC hx hown hWl
      unfold argA
      go_wp2_with (at_builtin; go_loud (refine wpList_append_lies _ rfl _ _ 52 rfl W.heap.size 56 it _ 2 40 Tryd.underlying52 hit htz0 htz1 htz2 rfl (by omega) ov U.length (U.flatMap Prod.snd) rfl (World.ownsRow.alloc HO.out _) ⟨w2.heap.size, 0, none⟩ 1 1 [.string x.name, .slice A1 x.args.length q1] rfl rfl (World.news_of_block (cs := #[.string x.name, .slice A1 x.args.length q1]) (t := 56) (fr := (0, 0)) (heap_alloc_new _ _)) (by simp [Value.oneCell']) (by omega) (by unfold maxLen; omega) (by omega) (by have := HWl.out; simp; omega) (w2.heap.size + 1) (by simp) ?_; intro gg cap w3 hown1 hgrow hat hlt1; have HNx := Lib.hid (hU.out.next HS.out rfl (by decide) HR.out HD.out HK.out _ hown1 hgrow hat); clear hown1 hgrow hat hlt1))
      go_roundw
      case rel => exact ⟨k, _, _, _, rfl, by go_num, by omega, HNx.out⟩
      case measure => simp [intOf]
theorem infoDataSig : (Tryd.prog.info? 54).map (fun i => (i.zero, i.size, i.bytes)) = some (some (.agg #[.string ⟨#[]⟩, .int .i64 0, .slice none 0 0]), 3, 48) := by kernel_rfl
set_option maxRecDepth 100000 in
set_option maxHeartbeats 8000000 in
theorem allDataSig_any (br : Nat) (deep : Int) (m : FuncId) (pre : Array Value) (eg : Enters Tryd.prog m) (g : R → DataSig × R) (hs : Short g) (hf : RFn m pre argA DataSig.d g br deep) (W : World) (r : R) (h : RdAt W br r deep) (hl : r.s.length ≤ 1048576) :
    Calls Tryd.prog 17 #[.pointer (some ⟨br, 0, none⟩), .func (.func m) pre #[]] W (fun e w' => ∃ v, e = .returned v ∧ Sl w' (fun b => W.heap.size ≤ b ∧ b < w'.heap.size) DataSig.d (allR g r).1 v ∧ RdAt w' br (allR g r).2 deep ∧ Keeps (· = br) W w') := by
  obtain ⟨it, hit, htz0, htz1, htz2⟩ := info_parts infoDataSig
  have hN := rmany_any W br r deep 4 (by decide) (by decide) h hl
  rw [show ((4 : Nat) : Int) = 4 from rfl] at hN
  have HN := Lib.hid hN
  have hw := manyR_le 4 r
  have hle := manyR_len 4 r
  have hbl : br < W.heap.size := Blk.lt h
  have hA : allR g r = loopR g (manyR 4 r).1 (manyR 4 r).2 := rfl
  rw [hA]
  generalize manyR 4 r = y at HN hw hle
  obtain ⟨n, r1⟩ := y
  dsimp only at HN hw hle ⊢
  have hr1 : r1.s.length ≤ 1048576 := by omega
  have hn1 : n ≤ 262144 := by omega
  have HF := Lib.hid hf
  have HS := Lib.hid hs
  clear h hA hN hf hs
  unfold Enters at eg
  go_enter Tryd.func17, Tryd.ntmps17
  go_wp2_with fail
  with_reducible refine HN.out.mono ?_
  rintro e w1 ⟨rfl, h1, hk1⟩
  have HA0 : Hid (Al DataSig.d 54 3 W br deep g n r1 n (.slice none 0 0) [] r1 w1) := ⟨⟨rfl, .inl ⟨rfl, rfl⟩⟩, fun p hp => (by cases hp), h1, hk1, by simp, by simpa using hn1, hr1, hbl⟩
  clear h1 hk1 hbl hr1 hn1 hw hle
  go_wp2_with fail
  go_loopw [5, 6] (fun oo nv wr => ∃ (k : Nat) (U : List (DataSig × List Value)) (r : R) (ov : Value), ov = oo ∧ .int .i64 (k : Int) = nv ∧ k ≤ 262144 ∧ Hid (Al DataSig.d 54 3 W br deep g n r1 k ov U r wr)) (fun _ nv _ => (intOf nv).toNat)
  case atStart => exact ⟨n, [], r1, _, rfl, rfl, by have := HA0.out.few; simpa using this, HA0.out⟩
  case round =>
    obtain ⟨k, U, r, ov, rfl, rfl, hk, hU⟩ := hrel
    obtain ⟨s, bad⟩ := r
    have hrd := hU.out.rd
    unfold RdAt at hrd
    have c1 := hrd.cell (i := 1) rfl
    clear hrd
    cases k with
    | zero =>
      have HO := Lib.hid (hU.out.out (loopR_end0 _))
      have HK := Lib.hid hU.out.keeps
      have HR := Lib.hid hU.out.rd
      have k0 : ¬ (0 : Int) < ((0 : Nat) : Int) := by omega
      go_wp2_with fail
      go_ret
      exact ⟨_, rfl, by rw [HO.out.1]; exact HO.out.2, by rw [HO.out.1]; exact HR.out, HK.out⟩
    | succ k =>
    cases bad with
    | true =>
      have HO := Lib.hid (hU.out.out (loopR_bad _ _ rfl))
      have HK := Lib.hid hU.out.keeps
      have HR := Lib.hid hU.out.rd
      have k0 : (0 : Int) < ((k + 1 : Nat) : Int) := by omega
      go_wp2_with fail
      go_ret
      exact ⟨_, rfl, by rw [HO.out.1]; exact HO.out.2, by rw [HO.out.1]; exact HR.out, HK.out⟩
    | false =>
      have k0 : (0 : Int) < ((k + 1 : Nat) : Int) := by omega
      have k1 : (k : Int) ≤ 262143 := by omega
      have HC := Lib.hid (HF.out wr ⟨s, false⟩ hU.out.rd hU.out.short)
      go_wp2_with fail
      refine HC.out.mono ?_
      rintro e w2 ⟨cs, rfl, hR, hrd, hkw⟩
      obtain ⟨x, hx⟩ : ∃ x, (g ⟨s, false⟩).1 = x := ⟨_, rfl⟩
      have hR' := hR
      rw [hx] at hR'
      obtain ⟨v2, rfl, s0, s1, s2⟩ := DataSig.rp.1 hR'
      obtain ⟨A2, q2, rfl, -, -, -⟩ := s2.form
      clear hR' s0 s1 s2
      have HR := Lib.hid hR
      have HD := Lib.hid hrd
      have HK := Lib.hid hkw
      have HX := Lib.hid hx
      have hown : w2.ownsRow W.heap.size 54 3 ov U.length (U.flatMap Prod.snd) := own_keeps hU.out.own hkw (fun i hi e => own_ne_blk hU.out.own hU.out.rd (by decide) (by rw [hi, e]))
      have HO := Lib.hid hown
      have hul : U.length + (k + 1) ≤ 262144 := hU.out.few
      have hWl : W.heap.size ≤ w2.heap.size := Nat.le_trans hU.out.keeps.size hkw.size
      have HWl := Lib.hid hWl
      clear hR hrd hkw HC hx hown hWl
      unfold argA
      go_wp2_with (at_builtin; go_loud (refine wpList_append_lies _ rfl _ _ 27 rfl W.heap.size 54 it _ 3 48 Tryd.underlying27 hit htz0 htz1 htz2 rfl (by omega) ov U.length (U.flatMap Prod.snd) rfl (World.ownsRow.alloc HO.out _) ⟨w2.heap.size, 0, none⟩ 1 1 [.string x.name, .int .i64 x.params, .slice A2 x.cons.length q2] rfl rfl (World.news_of_block (cs := #[.string x.name, .int .i64 x.params, .slice A2 x.cons.length q2]) (t := 54) (fr := (0, 0)) (heap_alloc_new _ _)) (by simp [Value.oneCell']) (by omega) (by unfold maxLen; omega) (by omega) (by have := HWl.out; simp; omega) (w2.heap.size + 1) (by simp) ?_; intro gg cap w3 hown1 hgrow hat hlt1; have HNx := Lib.hid (hU.out.next HS.out rfl (by decide) HR.out HD.out HK.out _ hown1 hgrow hat); clear hown1 hgrow hat hlt1))
      go_roundw
      case rel => exact ⟨k, _, _, _, rfl, by go_num, by omega, HNx.out⟩
      case measure => simp [intOf]
theorem infoFixSig : (Tryd.prog.info? 51).map (fun i => (i.zero, i.size, i.bytes)) = some (some (.agg #[.string ⟨#[]⟩, .int .i64 0, .int .i64 0]), 3, 32) := by kernel_rfl
set_option maxRecDepth 100000 in
set_option maxHeartbeats 8000000 in
theorem allFixSig_any (br : Nat) (deep : Int) (m : FuncId) (pre : Array Value) (eg : Enters Tryd.prog m) (g : R → FixSig × R) (hs : Short g) (hf : RFn m pre argA FixSig.d g br deep) (W : World) (r : R) (h : RdAt W br r deep) (hl : r.s.length ≤ 1048576) :
    Calls Tryd.prog 15 #[.pointer (some ⟨br, 0, none⟩), .func (.func m) pre #[]] W (fun e w' => ∃ v, e = .returned v ∧ Sl w' (fun b => W.heap.size ≤ b ∧ b < w'.heap.size) FixSig.d (allR g r).1 v ∧ RdAt w' br (allR g r).2 deep ∧ Keeps (· = br) W w') := by
  obtain ⟨it, hit, htz0, htz1, htz2⟩ := info_parts infoFixSig
  have hN := rmany_any W br r deep 4 (by decide) (by decide) h hl
  rw [show ((4 : Nat) : Int) = 4 from rfl] at hN
  have HN := Lib.hid hN
  have hw := manyR_le 4 r
  have hle := manyR_len 4 r
  have hbl : br < W.heap.size := Blk.lt h
  have hA : allR g r = loopR g (manyR 4 r).1 (manyR 4 r).2 := rfl
  rw [hA]
  generalize manyR 4 r = y at HN hw hle
  obtain ⟨n, r1⟩ := y
  dsimp only at HN hw hle ⊢
  have hr1 : r1.s.length ≤ 1048576 := by omega
  have hn1 : n ≤ 262144 := by omega
  have HF := Lib.hid hf
  have HS := Lib.hid hs
  clear h hA hN hf hs
  unfold Enters at eg
  go_enter Tryd.func15, Tryd.ntmps15
  go_wp2_with fail
  with_reducible refine HN.out.mono ?_
  rintro e w1 ⟨rfl, h1, hk1⟩
  have HA0 : Hid (Al FixSig.d 51 3 W br deep g n r1 n (.slice none 0 0) [] r1 w1) := ⟨⟨rfl, .inl ⟨rfl, rfl⟩⟩, fun p hp => (by cases hp), h1, hk1, by simp, by simpa using hn1, hr1, hbl⟩
  clear h1 hk1 hbl hr1 hn1 hw hle
  go_wp2_with fail
  go_loopw [5, 6] (fun oo nv wr => ∃ (k : Nat) (U : List (FixSig × List Value)) (r : R) (ov : Value), ov = oo ∧ .int .i64 (k : Int) = nv ∧ k ≤ 262144 ∧ Hid (Al FixSig.d 51 3 W br deep g n r1 k ov U r wr)) (fun _ nv _ => (intOf nv).toNat)
  case atStart => exact ⟨n, [], r1, _, rfl, rfl, by have := HA0.out.few; simpa using this, HA0.out⟩
  case round =>
    obtain ⟨k, U, r, ov, rfl, rfl, hk, hU⟩ := hrel
    obtain ⟨s, bad⟩ := r
    have hrd := hU.out.rd
    unfold RdAt at hrd
    have c1 := hrd.cell (i := 1) rfl
    clear hrd
    cases k with
    | zero =>
      have HO := Lib.hid (hU.out.out (loopR_end0 _))
      have HK := Lib.hid hU.out.keeps
      have HR := Lib.hid hU.out.rd
      have k0 : ¬ (0 : Int) < ((0 : Nat) : Int) := by omega
      go_wp2_with fail
      go_ret
      exact ⟨_, rfl, by rw [HO.out.1]; exact HO.out.2, by rw [HO.out.1]; exact HR.out, HK.out⟩
    | succ k =>
    cases bad with
    | true =>
      have HO := Lib.hid (hU.out.out (loopR_bad _ _ rfl))
      have HK := Lib.hid hU.out.keeps
      have HR := Lib.hid hU.out.rd
      have k0 : (0 : Int) < ((k + 1 : Nat) : Int) := by omega
      go_wp2_with fail
      go_ret
      exact ⟨_, rfl, by rw [HO.out.1]; exact HO.out.2, by rw [HO.out.1]; exact HR.out, HK.out⟩
    | false =>
      have k0 : (0 : Int) < ((k + 1 : Nat) : Int) := by omega
      have k1 : (k : Int) ≤ 262143 := by omega
      have HC := Lib.hid (HF.out wr ⟨s, false⟩ hU.out.rd hU.out.short)
      go_wp2_with fail
      refine HC.out.mono ?_
      rintro e w2 ⟨cs, rfl, hR, hrd, hkw⟩
      obtain ⟨x, hx⟩ : ∃ x, (g ⟨s, false⟩).1 = x := ⟨_, rfl⟩
      have hR' := hR
      rw [hx] at hR'
      obtain ⟨rfl, s0, s1, s2⟩ := FixSig.rp.1 hR'
      clear hR' s0 s1 s2
      have HR := Lib.hid hR
      have HD := Lib.hid hrd
      have HK := Lib.hid hkw
      have HX := Lib.hid hx
      have hown : w2.ownsRow W.heap.size 51 3 ov U.length (U.flatMap Prod.snd) := own_keeps hU.out.own hkw (fun i hi e => own_ne_blk hU.out.own hU.out.rd (by decide) (by rw [hi, e]))
      have HO := Lib.hid hown
      have hul : U.length + (k + 1) ≤ 262144 := hU.out.few
      have hWl : W.heap.size ≤ w2.heap.size := Nat.le_trans hU.out.keeps.size hkw.size
      have HWl := Lib.hid hWl
      clear hR hrd hkw HC hx hown hWl
      unfold argA
      go_wp2_with (at_builtin; go_loud (refine wpList_append_lies _ rfl _ _ 26 rfl W.heap.size 51 it _ 3 32 Tryd.underlying26 hit htz0 htz1 htz2 rfl (by omega) ov U.length (U.flatMap Prod.snd) rfl (World.ownsRow.alloc HO.out _) ⟨w2.heap.size, 0, none⟩ 1 1 [.string x.op, .int .i64 x.side, .int .i64 x.level] rfl rfl (World.news_of_block (cs := #[.string x.op, .int .i64 x.side, .int .i64 x.level]) (t := 51) (fr := (0, 0)) (heap_alloc_new _ _)) (by simp [Value.oneCell']) (by omega) (by unfold maxLen; omega) (by omega) (by have := HWl.out; simp; omega) (w2.heap.size + 1) (by simp) ?_; intro gg cap w3 hown1 hgrow hat hlt1; have HNx := Lib.hid (hU.out.next HS.out rfl (by decide) HR.out HD.out HK.out _ hown1 hgrow hat); clear hown1 hgrow hat hlt1))
      go_roundw
      case rel => exact ⟨k, _, _, _, rfl, by go_num, by omega, HNx.out⟩
      case measure => simp [intOf]
theorem infoPred : (Tryd.prog.info? 104).map (fun i => (i.zero, i.size, i.bytes)) = some (some (.agg #[.string ⟨#[]⟩, .int .i64 0, .string ⟨#[]⟩, .int .i64 0, .slice none 0 0]), 5, 72) := by kernel_rfl
set_option maxRecDepth 100000 in
set_option maxHeartbeats 8000000 in
theorem allPred_any (br : Nat) (deep : Int) (m : FuncId) (pre : Array Value) (eg : Enters Tryd.prog m) (g : R → Pred × R) (hs : Short g) (hf : RFn m pre argA Pred.d g br deep) (W : World) (r : R) (h : RdAt W br r deep) (hl : r.s.length ≤ 1048576) :
    Calls Tryd.prog 54 #[.pointer (some ⟨br, 0, none⟩), .func (.func m) pre #[]] W (fun e w' => ∃ v, e = .returned v ∧ Sl w' (fun b => W.heap.size ≤ b ∧ b < w'.heap.size) Pred.d (allR g r).1 v ∧ RdAt w' br (allR g r).2 deep ∧ Keeps (· = br) W w') := by
  obtain ⟨it, hit, htz0, htz1, htz2⟩ := info_parts infoPred
  have hN := rmany_any W br r deep 4 (by decide) (by decide) h hl
  rw [show ((4 : Nat) : Int) = 4 from rfl] at hN
  have HN := Lib.hid hN
  have hw := manyR_le 4 r
  have hle := manyR_len 4 r
  have hbl : br < W.heap.size := Blk.lt h
  have hA : allR g r = loopR g (manyR 4 r).1 (manyR 4 r).2 := rfl
  rw [hA]
  generalize manyR 4 r = y at HN hw hle
  obtain ⟨n, r1⟩ := y
  dsimp only at HN hw hle ⊢
  have hr1 : r1.s.length ≤ 1048576 := by omega
  have hn1 : n ≤ 262144 := by omega
  have HF := Lib.hid hf
  have HS := Lib.hid hs
  clear h hA hN hf hs
  unfold Enters at eg
  go_enter Tryd.func54, Tryd.ntmps54
  go_wp2_with fail
  with_reducible refine HN.out.mono ?_
  rintro e w1 ⟨rfl, h1, hk1⟩
  have HA0 : Hid (Al Pred.d 104 5 W br deep g n r1 n (.slice none 0 0) [] r1 w1) := ⟨⟨rfl, .inl ⟨rfl, rfl⟩⟩, fun p hp => (by cases hp), h1, hk1, by simp, by simpa using hn1, hr1, hbl⟩
  clear h1 hk1 hbl hr1 hn1 hw hle
  go_wp2_with fail
  go_loopw [5, 6] (fun oo nv wr => ∃ (k : Nat) (U : List (Pred × List Value)) (r : R) (ov : Value), ov = oo ∧ .int .i64 (k : Int) = nv ∧ k ≤ 262144 ∧ Hid (Al Pred.d 104 5 W br deep g n r1 k ov U r wr)) (fun _ nv _ => (intOf nv).toNat)
  case atStart => exact ⟨n, [], r1, _, rfl, rfl, by have := HA0.out.few; simpa using this, HA0.out⟩
  case round =>
    obtain ⟨k, U, r, ov, rfl, rfl, hk, hU⟩ := hrel
    obtain ⟨s, bad⟩ := r
    have hrd := hU.out.rd
    unfold RdAt at hrd
    have c1 := hrd.cell (i := 1) rfl
    clear hrd
    cases k with
    | zero =>
      have HO := Lib.hid (hU.out.out (loopR_end0 _))
      have HK := Lib.hid hU.out.keeps
      have HR := Lib.hid hU.out.rd
      have k0 : ¬ (0 : Int) < ((0 : Nat) : Int) := by omega
      go_wp2_with fail
      go_ret
      exact ⟨_, rfl, by rw [HO.out.1]; exact HO.out.2, by rw [HO.out.1]; exact HR.out, HK.out⟩
    | succ k =>
    cases bad with
    | true =>
      have HO := Lib.hid (hU.out.out (loopR_bad _ _ rfl))
      have HK := Lib.hid hU.out.keeps
      have HR := Lib.hid hU.out.rd
      have k0 : (0 : Int) < ((k + 1 : Nat) : Int) := by omega
      go_wp2_with fail
      go_ret
      exact ⟨_, rfl, by rw [HO.out.1]; exact HO.out.2, by rw [HO.out.1]; exact HR.out, HK.out⟩
    | false =>
      have k0 : (0 : Int) < ((k + 1 : Nat) : Int) := by omega
      have k1 : (k : Int) ≤ 262143 := by omega
      have HC := Lib.hid (HF.out wr ⟨s, false⟩ hU.out.rd hU.out.short)
      go_wp2_with fail
      refine HC.out.mono ?_
      rintro e w2 ⟨cs, rfl, hR, hrd, hkw⟩
      obtain ⟨x, hx⟩ : ∃ x, (g ⟨s, false⟩).1 = x := ⟨_, rfl⟩
      have hR' := hR
      rw [hx] at hR'
      obtain ⟨v1, rfl, s0, s1⟩ := Pred.rp.1 hR'
      obtain ⟨A1, q1, rfl, -, -, -⟩ := s1.form
      clear hR' s0 s1
      have HR := Lib.hid hR
      have HD := Lib.hid hrd
      have HK := Lib.hid hkw
      have HX := Lib.hid hx
      have hown : w2.ownsRow W.heap.size 104 5 ov U.length (U.flatMap Prod.snd) := own_keeps hU.out.own hkw (fun i hi e => own_ne_blk hU.out.own hU.out.rd (by decide) (by rw [hi, e]))
      have HO := Lib.hid hown
      have hul : U.length + (k + 1) ≤ 262144 := hU.out.few
      have hWl : W.heap.size ≤ w2.heap.size := Nat.le_trans hU.out.keeps.size hkw.size
      have HWl := Lib.hid hWl
      clear hR hrd hkw HC hx hown hWl
      unfold argA
      go_wp2_with (at_builtin; go_loud (refine wpList_append_lies _ rfl _ _ 57 rfl W.heap.size 104 it _ 5 72 Tryd.underlying57 hit htz0 htz1 htz2 rfl (by omega) ov U.length (U.flatMap Prod.snd) rfl (World.ownsRow.alloc HO.out _) ⟨w2.heap.size, 0, none⟩ 1 1 [.string x.cls, .int .i64 x.ty.kind, .string x.ty.name, .int .i64 x.ty.var, .slice A1 x.ty.args.length q1] rfl rfl (World.news_of_block (cs := #[.string x.cls, .int .i64 x.ty.kind, .string x.ty.name, .int .i64 x.ty.var, .slice A1 x.ty.args.length q1]) (t := 104) (fr := (0, 0)) (heap_alloc_new _ _)) (by simp [Value.oneCell']) (by omega) (by unfold maxLen; omega) (by omega) (by have := HWl.out; simp; omega) (w2.heap.size + 1) (by simp) ?_; intro gg cap w3 hown1 hgrow hat hlt1; have HNx := Lib.hid (hU.out.next HS.out rfl (by decide) HR.out HD.out HK.out _ hown1 hgrow hat); clear hown1 hgrow hat hlt1))
      go_roundw
      case rel => exact ⟨k, _, _, _, rfl, by go_num, by omega, HNx.out⟩
      case measure => simp [intOf]
theorem infoValSig : (Tryd.prog.info? 61).map (fun i => (i.zero, i.size, i.bytes)) = some (some (.agg #[.string ⟨#[]⟩, .int .i64 0, .slice none 0 0, .int .i64 0, .string ⟨#[]⟩, .int .i64 0, .slice none 0 0]), 7, 104) := by kernel_rfl
set_option maxRecDepth 100000 in
set_option maxHeartbeats 8000000 in
theorem allValSig_any (br : Nat) (deep : Int) (m : FuncId) (pre : Array Value) (eg : Enters Tryd.prog m) (g : R → ValSig × R) (hs : Short g) (hf : RFn m pre argA ValSig.d g br deep) (W : World) (r : R) (h : RdAt W br r deep) (hl : r.s.length ≤ 1048576) :
    Calls Tryd.prog 25 #[.pointer (some ⟨br, 0, none⟩), .func (.func m) pre #[]] W (fun e w' => ∃ v, e = .returned v ∧ Sl w' (fun b => W.heap.size ≤ b ∧ b < w'.heap.size) ValSig.d (allR g r).1 v ∧ RdAt w' br (allR g r).2 deep ∧ Keeps (· = br) W w') := by
  obtain ⟨it, hit, htz0, htz1, htz2⟩ := info_parts infoValSig
  have hN := rmany_any W br r deep 4 (by decide) (by decide) h hl
  rw [show ((4 : Nat) : Int) = 4 from rfl] at hN
  have HN := Lib.hid hN
  have hw := manyR_le 4 r
  have hle := manyR_len 4 r
  have hbl : br < W.heap.size := Blk.lt h
  have hA : allR g r = loopR g (manyR 4 r).1 (manyR 4 r).2 := rfl
  rw [hA]
  generalize manyR 4 r = y at HN hw hle
  obtain ⟨n, r1⟩ := y
  dsimp only at HN hw hle ⊢
  have hr1 : r1.s.length ≤ 1048576 := by omega
  have hn1 : n ≤ 262144 := by omega
  have HF := Lib.hid hf
  have HS := Lib.hid hs
  clear h hA hN hf hs
  unfold Enters at eg
  go_enter Tryd.func25, Tryd.ntmps25
  go_wp2_with fail
  with_reducible refine HN.out.mono ?_
  rintro e w1 ⟨rfl, h1, hk1⟩
  have HA0 : Hid (Al ValSig.d 61 7 W br deep g n r1 n (.slice none 0 0) [] r1 w1) := ⟨⟨rfl, .inl ⟨rfl, rfl⟩⟩, fun p hp => (by cases hp), h1, hk1, by simp, by simpa using hn1, hr1, hbl⟩
  clear h1 hk1 hbl hr1 hn1 hw hle
  go_wp2_with fail
  go_loopw [5, 6] (fun oo nv wr => ∃ (k : Nat) (U : List (ValSig × List Value)) (r : R) (ov : Value), ov = oo ∧ .int .i64 (k : Int) = nv ∧ k ≤ 262144 ∧ Hid (Al ValSig.d 61 7 W br deep g n r1 k ov U r wr)) (fun _ nv _ => (intOf nv).toNat)
  case atStart => exact ⟨n, [], r1, _, rfl, rfl, by have := HA0.out.few; simpa using this, HA0.out⟩
  case round =>
    obtain ⟨k, U, r, ov, rfl, rfl, hk, hU⟩ := hrel
    obtain ⟨s, bad⟩ := r
    have hrd := hU.out.rd
    unfold RdAt at hrd
    have c1 := hrd.cell (i := 1) rfl
    clear hrd
    cases k with
    | zero =>
      have HO := Lib.hid (hU.out.out (loopR_end0 _))
      have HK := Lib.hid hU.out.keeps
      have HR := Lib.hid hU.out.rd
      have k0 : ¬ (0 : Int) < ((0 : Nat) : Int) := by omega
      go_wp2_with fail
      go_ret
      exact ⟨_, rfl, by rw [HO.out.1]; exact HO.out.2, by rw [HO.out.1]; exact HR.out, HK.out⟩
    | succ k =>
    cases bad with
    | true =>
      have HO := Lib.hid (hU.out.out (loopR_bad _ _ rfl))
      have HK := Lib.hid hU.out.keeps
      have HR := Lib.hid hU.out.rd
      have k0 : (0 : Int) < ((k + 1 : Nat) : Int) := by omega
      go_wp2_with fail
      go_ret
      exact ⟨_, rfl, by rw [HO.out.1]; exact HO.out.2, by rw [HO.out.1]; exact HR.out, HK.out⟩
    | false =>
      have k0 : (0 : Int) < ((k + 1 : Nat) : Int) := by omega
      have k1 : (k : Int) ≤ 262143 := by omega
      have HC := Lib.hid (HF.out wr ⟨s, false⟩ hU.out.rd hU.out.short)
      go_wp2_with fail
      refine HC.out.mono ?_
      rintro e w2 ⟨cs, rfl, hR, hrd, hkw⟩
      obtain ⟨x, hx⟩ : ∃ x, (g ⟨s, false⟩).1 = x := ⟨_, rfl⟩
      have hR' := hR
      rw [hx] at hR'
      obtain ⟨v2, v3, rfl, s0, s1, s2, s3⟩ := ValSig.rp.1 hR'
      obtain ⟨A2, q2, rfl, -, -, -⟩ := s2.form
      obtain ⟨A3, q3, rfl, -, -, -⟩ := s3.form
      clear hR' s0 s1 s2 s3
      have HR := Lib.hid hR
      have HD := Lib.hid hrd
      have HK := Lib.hid hkw
      have HX := Lib.hid hx
      have hown : w2.ownsRow W.heap.size 61 7 ov U.length (U.flatMap Prod.snd) := own_keeps hU.out.own hkw (fun i hi e => own_ne_blk hU.out.own hU.out.rd (by decide) (by rw [hi, e]))
      have HO := Lib.hid hown
      have hul : U.length + (k + 1) ≤ 262144 := hU.out.few
      have hWl : W.heap.size ≤ w2.heap.size := Nat.le_trans hU.out.keeps.size hkw.size
      have HWl := Lib.hid hWl
      clear hR hrd hkw HC hx hown hWl
      unfold argA
      go_wp2_with (at_builtin; go_loud (refine wpList_append_lies _ rfl _ _ 31 rfl W.heap.size 61 it _ 7 104 Tryd.underlying31 hit htz0 htz1 htz2 rfl (by omega) ov U.length (U.flatMap Prod.snd) rfl (World.ownsRow.alloc HO.out _) ⟨w2.heap.size, 0, none⟩ 1 1 [.string x.name, .int .i64 x.vars, .slice A2 x.preds.length q2, .int .i64 x.ty.kind, .string x.ty.name, .int .i64 x.ty.var, .slice A3 x.ty.args.length q3] rfl rfl (World.news_of_block (cs := #[.string x.name, .int .i64 x.vars, .slice A2 x.preds.length q2, .int .i64 x.ty.kind, .string x.ty.name, .int .i64 x.ty.var, .slice A3 x.ty.args.length q3]) (t := 61) (fr := (0, 0)) (heap_alloc_new _ _)) (by simp [Value.oneCell']) (by omega) (by unfold maxLen; omega) (by omega) (by have := HWl.out; simp; omega) (w2.heap.size + 1) (by simp) ?_; intro gg cap w3 hown1 hgrow hat hlt1; have HNx := Lib.hid (hU.out.next HS.out rfl (by decide) HR.out HD.out HK.out _ hown1 hgrow hat); clear hown1 hgrow hat hlt1))
      go_roundw
      case rel => exact ⟨k, _, _, _, rfl, by go_num, by omega, HNx.out⟩
      case measure => simp [intOf]
theorem infoClassSig : (Tryd.prog.info? 74).map (fun i => (i.zero, i.size, i.bytes)) = some (some (.agg #[.string ⟨#[]⟩, .slice none 0 0, .slice none 0 0]), 3, 64) := by kernel_rfl
set_option maxRecDepth 100000 in
set_option maxHeartbeats 8000000 in
theorem allClassSig_any (br : Nat) (deep : Int) (m : FuncId) (pre : Array Value) (eg : Enters Tryd.prog m) (g : R → ClassSig × R) (hs : Short g) (hf : RFn m pre argA ClassSig.d g br deep) (W : World) (r : R) (h : RdAt W br r deep) (hl : r.s.length ≤ 1048576) :
    Calls Tryd.prog 19 #[.pointer (some ⟨br, 0, none⟩), .func (.func m) pre #[]] W (fun e w' => ∃ v, e = .returned v ∧ Sl w' (fun b => W.heap.size ≤ b ∧ b < w'.heap.size) ClassSig.d (allR g r).1 v ∧ RdAt w' br (allR g r).2 deep ∧ Keeps (· = br) W w') := by
  obtain ⟨it, hit, htz0, htz1, htz2⟩ := info_parts infoClassSig
  have hN := rmany_any W br r deep 4 (by decide) (by decide) h hl
  rw [show ((4 : Nat) : Int) = 4 from rfl] at hN
  have HN := Lib.hid hN
  have hw := manyR_le 4 r
  have hle := manyR_len 4 r
  have hbl : br < W.heap.size := Blk.lt h
  have hA : allR g r = loopR g (manyR 4 r).1 (manyR 4 r).2 := rfl
  rw [hA]
  generalize manyR 4 r = y at HN hw hle
  obtain ⟨n, r1⟩ := y
  dsimp only at HN hw hle ⊢
  have hr1 : r1.s.length ≤ 1048576 := by omega
  have hn1 : n ≤ 262144 := by omega
  have HF := Lib.hid hf
  have HS := Lib.hid hs
  clear h hA hN hf hs
  unfold Enters at eg
  go_enter Tryd.func19, Tryd.ntmps19
  go_wp2_with fail
  with_reducible refine HN.out.mono ?_
  rintro e w1 ⟨rfl, h1, hk1⟩
  have HA0 : Hid (Al ClassSig.d 74 3 W br deep g n r1 n (.slice none 0 0) [] r1 w1) := ⟨⟨rfl, .inl ⟨rfl, rfl⟩⟩, fun p hp => (by cases hp), h1, hk1, by simp, by simpa using hn1, hr1, hbl⟩
  clear h1 hk1 hbl hr1 hn1 hw hle
  go_wp2_with fail
  go_loopw [5, 6] (fun oo nv wr => ∃ (k : Nat) (U : List (ClassSig × List Value)) (r : R) (ov : Value), ov = oo ∧ .int .i64 (k : Int) = nv ∧ k ≤ 262144 ∧ Hid (Al ClassSig.d 74 3 W br deep g n r1 k ov U r wr)) (fun _ nv _ => (intOf nv).toNat)
  case atStart => exact ⟨n, [], r1, _, rfl, rfl, by have := HA0.out.few; simpa using this, HA0.out⟩
  case round =>
    obtain ⟨k, U, r, ov, rfl, rfl, hk, hU⟩ := hrel
    obtain ⟨s, bad⟩ := r
    have hrd := hU.out.rd
    unfold RdAt at hrd
    have c1 := hrd.cell (i := 1) rfl
    clear hrd
    cases k with
    | zero =>
      have HO := Lib.hid (hU.out.out (loopR_end0 _))
      have HK := Lib.hid hU.out.keeps
      have HR := Lib.hid hU.out.rd
      have k0 : ¬ (0 : Int) < ((0 : Nat) : Int) := by omega
      go_wp2_with fail
      go_ret
      exact ⟨_, rfl, by rw [HO.out.1]; exact HO.out.2, by rw [HO.out.1]; exact HR.out, HK.out⟩
    | succ k =>
    cases bad with
    | true =>
      have HO := Lib.hid (hU.out.out (loopR_bad _ _ rfl))
      have HK := Lib.hid hU.out.keeps
      have HR := Lib.hid hU.out.rd
      have k0 : (0 : Int) < ((k + 1 : Nat) : Int) := by omega
      go_wp2_with fail
      go_ret
      exact ⟨_, rfl, by rw [HO.out.1]; exact HO.out.2, by rw [HO.out.1]; exact HR.out, HK.out⟩
    | false =>
      have k0 : (0 : Int) < ((k + 1 : Nat) : Int) := by omega
      have k1 : (k : Int) ≤ 262143 := by omega
      have HC := Lib.hid (HF.out wr ⟨s, false⟩ hU.out.rd hU.out.short)
      go_wp2_with fail
      refine HC.out.mono ?_
      rintro e w2 ⟨cs, rfl, hR, hrd, hkw⟩
      obtain ⟨x, hx⟩ : ∃ x, (g ⟨s, false⟩).1 = x := ⟨_, rfl⟩
      have hR' := hR
      rw [hx] at hR'
      obtain ⟨v1, v2, rfl, s0, s1, s2⟩ := ClassSig.rp.1 hR'
      obtain ⟨A1, q1, rfl, -, -, -⟩ := s1.form
      obtain ⟨A2, q2, rfl, -, -, -⟩ := s2.form
      clear hR' s0 s1 s2
      have HR := Lib.hid hR
      have HD := Lib.hid hrd
      have HK := Lib.hid hkw
      have HX := Lib.hid hx
      have hown : w2.ownsRow W.heap.size 74 3 ov U.length (U.flatMap Prod.snd) := own_keeps hU.out.own hkw (fun i hi e => own_ne_blk hU.out.own hU.out.rd (by decide) (by rw [hi, e]))
      have HO := Lib.hid hown
      have hul : U.length + (k + 1) ≤ 262144 := hU.out.few
      have hWl : W.heap.size ≤ w2.heap.size := Nat.le_trans hU.out.keeps.size hkw.size
      have HWl := Lib.hid hWl
      clear hR hrd hkw HC hx hown hWl
      unfold argA
      go_wp2_with (at_builtin; go_loud (refine wpList_append_lies _ rfl _ _ 28 rfl W.heap.size 74 it _ 3 64 Tryd.underlying28 hit htz0 htz1 htz2 rfl (by omega) ov U.length (U.flatMap Prod.snd) rfl (World.ownsRow.alloc HO.out _) ⟨w2.heap.size, 0, none⟩ 1 1 [.string x.name, .slice A1 x.super.length q1, .slice A2 x.ops.length q2] rfl rfl (World.news_of_block (cs := #[.string x.name, .slice A1 x.super.length q1, .slice A2 x.ops.length q2]) (t := 74) (fr := (0, 0)) (heap_alloc_new _ _)) (by simp [Value.oneCell']) (by omega) (by unfold maxLen; omega) (by omega) (by have := HWl.out; simp; omega) (w2.heap.size + 1) (by simp) ?_; intro gg cap w3 hown1 hgrow hat hlt1; have HNx := Lib.hid (hU.out.next HS.out rfl (by decide) HR.out HD.out HK.out _ hown1 hgrow hat); clear hown1 hgrow hat hlt1))
      go_roundw
      case rel => exact ⟨k, _, _, _, rfl, by go_num, by omega, HNx.out⟩
      case measure => simp [intOf]
theorem infoInstSig : (Tryd.prog.info? 78).map (fun i => (i.zero, i.size, i.bytes)) = some (some (.agg #[.string ⟨#[]⟩, .int .i64 0, .string ⟨#[]⟩, .int .i64 0, .slice none 0 0, .slice none 0 0]), 6, 96) := by kernel_rfl
set_option maxRecDepth 100000 in
set_option maxHeartbeats 8000000 in
theorem allInstSig_any (br : Nat) (deep : Int) (m : FuncId) (pre : Array Value) (eg : Enters Tryd.prog m) (g : R → InstSig × R) (hs : Short g) (hf : RFn m pre argA InstSig.d g br deep) (W : World) (r : R) (h : RdAt W br r deep) (hl : r.s.length ≤ 1048576) :
    Calls Tryd.prog 21 #[.pointer (some ⟨br, 0, none⟩), .func (.func m) pre #[]] W (fun e w' => ∃ v, e = .returned v ∧ Sl w' (fun b => W.heap.size ≤ b ∧ b < w'.heap.size) InstSig.d (allR g r).1 v ∧ RdAt w' br (allR g r).2 deep ∧ Keeps (· = br) W w') := by
  obtain ⟨it, hit, htz0, htz1, htz2⟩ := info_parts infoInstSig
  have hN := rmany_any W br r deep 4 (by decide) (by decide) h hl
  rw [show ((4 : Nat) : Int) = 4 from rfl] at hN
  have HN := Lib.hid hN
  have hw := manyR_le 4 r
  have hle := manyR_len 4 r
  have hbl : br < W.heap.size := Blk.lt h
  have hA : allR g r = loopR g (manyR 4 r).1 (manyR 4 r).2 := rfl
  rw [hA]
  generalize manyR 4 r = y at HN hw hle
  obtain ⟨n, r1⟩ := y
  dsimp only at HN hw hle ⊢
  have hr1 : r1.s.length ≤ 1048576 := by omega
  have hn1 : n ≤ 262144 := by omega
  have HF := Lib.hid hf
  have HS := Lib.hid hs
  clear h hA hN hf hs
  unfold Enters at eg
  go_enter Tryd.func21, Tryd.ntmps21
  go_wp2_with fail
  with_reducible refine HN.out.mono ?_
  rintro e w1 ⟨rfl, h1, hk1⟩
  have HA0 : Hid (Al InstSig.d 78 6 W br deep g n r1 n (.slice none 0 0) [] r1 w1) := ⟨⟨rfl, .inl ⟨rfl, rfl⟩⟩, fun p hp => (by cases hp), h1, hk1, by simp, by simpa using hn1, hr1, hbl⟩
  clear h1 hk1 hbl hr1 hn1 hw hle
  go_wp2_with fail
  go_loopw [5, 6] (fun oo nv wr => ∃ (k : Nat) (U : List (InstSig × List Value)) (r : R) (ov : Value), ov = oo ∧ .int .i64 (k : Int) = nv ∧ k ≤ 262144 ∧ Hid (Al InstSig.d 78 6 W br deep g n r1 k ov U r wr)) (fun _ nv _ => (intOf nv).toNat)
  case atStart => exact ⟨n, [], r1, _, rfl, rfl, by have := HA0.out.few; simpa using this, HA0.out⟩
  case round =>
    obtain ⟨k, U, r, ov, rfl, rfl, hk, hU⟩ := hrel
    obtain ⟨s, bad⟩ := r
    have hrd := hU.out.rd
    unfold RdAt at hrd
    have c1 := hrd.cell (i := 1) rfl
    clear hrd
    cases k with
    | zero =>
      have HO := Lib.hid (hU.out.out (loopR_end0 _))
      have HK := Lib.hid hU.out.keeps
      have HR := Lib.hid hU.out.rd
      have k0 : ¬ (0 : Int) < ((0 : Nat) : Int) := by omega
      go_wp2_with fail
      go_ret
      exact ⟨_, rfl, by rw [HO.out.1]; exact HO.out.2, by rw [HO.out.1]; exact HR.out, HK.out⟩
    | succ k =>
    cases bad with
    | true =>
      have HO := Lib.hid (hU.out.out (loopR_bad _ _ rfl))
      have HK := Lib.hid hU.out.keeps
      have HR := Lib.hid hU.out.rd
      have k0 : (0 : Int) < ((k + 1 : Nat) : Int) := by omega
      go_wp2_with fail
      go_ret
      exact ⟨_, rfl, by rw [HO.out.1]; exact HO.out.2, by rw [HO.out.1]; exact HR.out, HK.out⟩
    | false =>
      have k0 : (0 : Int) < ((k + 1 : Nat) : Int) := by omega
      have k1 : (k : Int) ≤ 262143 := by omega
      have HC := Lib.hid (HF.out wr ⟨s, false⟩ hU.out.rd hU.out.short)
      go_wp2_with fail
      refine HC.out.mono ?_
      rintro e w2 ⟨cs, rfl, hR, hrd, hkw⟩
      obtain ⟨x, hx⟩ : ∃ x, (g ⟨s, false⟩).1 = x := ⟨_, rfl⟩
      have hR' := hR
      rw [hx] at hR'
      obtain ⟨v1, v2, rfl, s0, s1, s2⟩ := InstSig.rp.1 hR'
      obtain ⟨A1, q1, rfl, -, -, -⟩ := s1.form
      obtain ⟨A2, q2, rfl, -, -, -⟩ := s2.form
      clear hR' s0 s1 s2
      have HR := Lib.hid hR
      have HD := Lib.hid hrd
      have HK := Lib.hid hkw
      have HX := Lib.hid hx
      have hown : w2.ownsRow W.heap.size 78 6 ov U.length (U.flatMap Prod.snd) := own_keeps hU.out.own hkw (fun i hi e => own_ne_blk hU.out.own hU.out.rd (by decide) (by rw [hi, e]))
      have HO := Lib.hid hown
      have hul : U.length + (k + 1) ≤ 262144 := hU.out.few
      have hWl : W.heap.size ≤ w2.heap.size := Nat.le_trans hU.out.keeps.size hkw.size
      have HWl := Lib.hid hWl
      clear hR hrd hkw HC hx hown hWl
      unfold argA
      go_wp2_with (at_builtin; go_loud (refine wpList_append_lies _ rfl _ _ 29 rfl W.heap.size 78 it _ 6 96 Tryd.underlying29 hit htz0 htz1 htz2 rfl (by omega) ov U.length (U.flatMap Prod.snd) rfl (World.ownsRow.alloc HO.out _) ⟨w2.heap.size, 0, none⟩ 1 1 [.string x.cls, .int .i64 x.head.kind, .string x.head.name, .int .i64 x.head.var, .slice A1 x.head.args.length q1, .slice A2 x.preds.length q2] rfl rfl (World.news_of_block (cs := #[.string x.cls, .int .i64 x.head.kind, .string x.head.name, .int .i64 x.head.var, .slice A1 x.head.args.length q1, .slice A2 x.preds.length q2]) (t := 78) (fr := (0, 0)) (heap_alloc_new _ _)) (by simp [Value.oneCell']) (by omega) (by unfold maxLen; omega) (by omega) (by have := HWl.out; simp; omega) (w2.heap.size + 1) (by simp) ?_; intro gg cap w3 hown1 hgrow hat hlt1; have HNx := Lib.hid (hU.out.next HS.out rfl (by decide) HR.out HD.out HK.out _ hown1 hgrow hat); clear hown1 hgrow hat hlt1))
      go_roundw
      case rel => exact ⟨k, _, _, _, rfl, by go_num, by omega, HNx.out⟩
      case measure => simp [intOf]
theorem infoOpSig : (Tryd.prog.info? 82).map (fun i => (i.zero, i.size, i.bytes)) = some (some (.agg #[.string ⟨#[]⟩, .string ⟨#[]⟩, .int .i64 0, .string ⟨#[]⟩, .int .i64 0, .slice none 0 0, .int .i64 0, .string ⟨#[]⟩, .int .i64 0, .slice none 0 0]), 10, 144) := by kernel_rfl
set_option maxRecDepth 100000 in
set_option maxHeartbeats 8000000 in
theorem allOpSig_any (br : Nat) (deep : Int) (m : FuncId) (pre : Array Value) (eg : Enters Tryd.prog m) (g : R → OpSig × R) (hs : Short g) (hf : RFn m pre argA OpSig.d g br deep) (W : World) (r : R) (h : RdAt W br r deep) (hl : r.s.length ≤ 1048576) :
    Calls Tryd.prog 23 #[.pointer (some ⟨br, 0, none⟩), .func (.func m) pre #[]] W (fun e w' => ∃ v, e = .returned v ∧ Sl w' (fun b => W.heap.size ≤ b ∧ b < w'.heap.size) OpSig.d (allR g r).1 v ∧ RdAt w' br (allR g r).2 deep ∧ Keeps (· = br) W w') := by
  obtain ⟨it, hit, htz0, htz1, htz2⟩ := info_parts infoOpSig
  have hN := rmany_any W br r deep 4 (by decide) (by decide) h hl
  rw [show ((4 : Nat) : Int) = 4 from rfl] at hN
  have HN := Lib.hid hN
  have hw := manyR_le 4 r
  have hle := manyR_len 4 r
  have hbl : br < W.heap.size := Blk.lt h
  have hA : allR g r = loopR g (manyR 4 r).1 (manyR 4 r).2 := rfl
  rw [hA]
  generalize manyR 4 r = y at HN hw hle
  obtain ⟨n, r1⟩ := y
  dsimp only at HN hw hle ⊢
  have hr1 : r1.s.length ≤ 1048576 := by omega
  have hn1 : n ≤ 262144 := by omega
  have HF := Lib.hid hf
  have HS := Lib.hid hs
  clear h hA hN hf hs
  unfold Enters at eg
  go_enter Tryd.func23, Tryd.ntmps23
  go_wp2_with fail
  with_reducible refine HN.out.mono ?_
  rintro e w1 ⟨rfl, h1, hk1⟩
  have HA0 : Hid (Al OpSig.d 82 10 W br deep g n r1 n (.slice none 0 0) [] r1 w1) := ⟨⟨rfl, .inl ⟨rfl, rfl⟩⟩, fun p hp => (by cases hp), h1, hk1, by simp, by simpa using hn1, hr1, hbl⟩
  clear h1 hk1 hbl hr1 hn1 hw hle
  go_wp2_with fail
  go_loopw [5, 6] (fun oo nv wr => ∃ (k : Nat) (U : List (OpSig × List Value)) (r : R) (ov : Value), ov = oo ∧ .int .i64 (k : Int) = nv ∧ k ≤ 262144 ∧ Hid (Al OpSig.d 82 10 W br deep g n r1 k ov U r wr)) (fun _ nv _ => (intOf nv).toNat)
  case atStart => exact ⟨n, [], r1, _, rfl, rfl, by have := HA0.out.few; simpa using this, HA0.out⟩
  case round =>
    obtain ⟨k, U, r, ov, rfl, rfl, hk, hU⟩ := hrel
    obtain ⟨s, bad⟩ := r
    have hrd := hU.out.rd
    unfold RdAt at hrd
    have c1 := hrd.cell (i := 1) rfl
    clear hrd
    cases k with
    | zero =>
      have HO := Lib.hid (hU.out.out (loopR_end0 _))
      have HK := Lib.hid hU.out.keeps
      have HR := Lib.hid hU.out.rd
      have k0 : ¬ (0 : Int) < ((0 : Nat) : Int) := by omega
      go_wp2_with fail
      go_ret
      exact ⟨_, rfl, by rw [HO.out.1]; exact HO.out.2, by rw [HO.out.1]; exact HR.out, HK.out⟩
    | succ k =>
    cases bad with
    | true =>
      have HO := Lib.hid (hU.out.out (loopR_bad _ _ rfl))
      have HK := Lib.hid hU.out.keeps
      have HR := Lib.hid hU.out.rd
      have k0 : (0 : Int) < ((k + 1 : Nat) : Int) := by omega
      go_wp2_with fail
      go_ret
      exact ⟨_, rfl, by rw [HO.out.1]; exact HO.out.2, by rw [HO.out.1]; exact HR.out, HK.out⟩
    | false =>
      have k0 : (0 : Int) < ((k + 1 : Nat) : Int) := by omega
      have k1 : (k : Int) ≤ 262143 := by omega
      have HC := Lib.hid (HF.out wr ⟨s, false⟩ hU.out.rd hU.out.short)
      go_wp2_with fail
      refine HC.out.mono ?_
      rintro e w2 ⟨cs, rfl, hR, hrd, hkw⟩
      obtain ⟨x, hx⟩ : ∃ x, (g ⟨s, false⟩).1 = x := ⟨_, rfl⟩
      have hR' := hR
      rw [hx] at hR'
      obtain ⟨v2, v3, rfl, s0, s1, s2, s3⟩ := OpSig.rp.1 hR'
      obtain ⟨A2, q2, rfl, -, -, -⟩ := s2.form
      obtain ⟨A3, q3, rfl, -, -, -⟩ := s3.form
      clear hR' s0 s1 s2 s3
      have HR := Lib.hid hR
      have HD := Lib.hid hrd
      have HK := Lib.hid hkw
      have HX := Lib.hid hx
      have hown : w2.ownsRow W.heap.size 82 10 ov U.length (U.flatMap Prod.snd) := own_keeps hU.out.own hkw (fun i hi e => own_ne_blk hU.out.own hU.out.rd (by decide) (by rw [hi, e]))
      have HO := Lib.hid hown
      have hul : U.length + (k + 1) ≤ 262144 := hU.out.few
      have hWl : W.heap.size ≤ w2.heap.size := Nat.le_trans hU.out.keeps.size hkw.size
      have HWl := Lib.hid hWl
      clear hR hrd hkw HC hx hown hWl
      unfold argA
      go_wp2_with (at_builtin; go_loud (refine wpList_append_lies _ rfl _ _ 30 rfl W.heap.size 82 it _ 10 144 Tryd.underlying30 hit htz0 htz1 htz2 rfl (by omega) ov U.length (U.flatMap Prod.snd) rfl (World.ownsRow.alloc HO.out _) ⟨w2.heap.size, 0, none⟩ 1 1 [.string x.name, .string x.effect, .int .i64 x.arg.kind, .string x.arg.name, .int .i64 x.arg.var, .slice A2 x.arg.args.length q2, .int .i64 x.res.kind, .string x.res.name, .int .i64 x.res.var, .slice A3 x.res.args.length q3] rfl rfl (World.news_of_block (cs := #[.string x.name, .string x.effect, .int .i64 x.arg.kind, .string x.arg.name, .int .i64 x.arg.var, .slice A2 x.arg.args.length q2, .int .i64 x.res.kind, .string x.res.name, .int .i64 x.res.var, .slice A3 x.res.args.length q3]) (t := 82) (fr := (0, 0)) (heap_alloc_new _ _)) (by simp [Value.oneCell']) (by omega) (by unfold maxLen; omega) (by omega) (by have := HWl.out; simp; omega) (w2.heap.size + 1) (by simp) ?_; intro gg cap w3 hown1 hgrow hat hlt1; have HNx := Lib.hid (hU.out.next HS.out rfl (by decide) HR.out HD.out HK.out _ hown1 hgrow hat); clear hown1 hgrow hat hlt1))
      go_roundw
      case rel => exact ⟨k, _, _, _, rfl, by go_num, by omega, HNx.out⟩
      case measure => simp [intOf]
end If
end Go.Proofs.YtcbkihplchdhhaaDoor
