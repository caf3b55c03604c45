/- provenancekeep1.classList. -/
import Derived.Test.YtdljlpogljjldaaDoorCReduce
import Derived.Test.YtdljlpogljjldaaDoorShelfCls
namespace Go.Proofs.YtdljlpogljjldaaDoor
open Go.RowKit Go.Shelf Go.Sort

theorem infoCls : (Tryd.prog.info? 42).map (fun i => (i.zero, i.size, i.bytes)) = some (some (.agg #[.string ⟨#[]⟩, .slice none 0 0, .slice none 0 0]), 3, 64) := by kernel_rfl
def dgs (i : Nat) : ByteArray := ⟨(Lib.decDigits i).toArray⟩
theorem dgs_size : ∀ i : Fin 8, (dgs i.val).size = 1 := by decide +kernel
/-- The name of the class of a number. -/
def nm (i : Nat) : ByteArray := ({ data := #[67] } : ByteArray) ++ dgs i
def clsAt (i : Nat) : ClassSig := ⟨nm i, if 0 < i then [nm (i - 1)] else [], []⟩
def clsList (n : Nat) : List ClassSig := (List.range n).map clsAt
theorem nm_size : ∀ i : Fin 8, (nm i.val).size = 2 := by decide +kernel
theorem nm_len {i : Nat} (h : i < 8) : (nm i).size ≤ maxLen := by
  rw [nm_size ⟨i, h⟩]; unfold maxLen; omega
def clCells (u : ClassSig × Value) : List Value := [.string u.1.name, u.2, .slice none 0 0]
/-- The list so far, in memory. -/
structure Cl (B : Nat) (wr : World) (ov : Value) (U : List (ClassSig × Value)) (i : Nat) : Prop where
  own : wr.ownsRow B 42 3 ov U.length (U.flatMap clCells)
  each : ∀ u ∈ U, u.1.name.size ≤ maxLen ∧ u.1.ops = [] ∧ Sl wr (fun b => B ≤ b ∧ b < wr.heap.size ∧ ¬ ov.ownBlock = some b) dStr u.1.super u.2
  eq : U.map Prod.fst = clsList i
theorem cl_rp {w : World} {F : Nat → Prop} : ∀ {U : List (ClassSig × Value)}, (∀ u ∈ U, u.1.name.size ≤ maxLen ∧ u.1.ops = [] ∧ Sl w F dStr u.1.super u.2) → RpAll w F ((U.map Prod.fst).map ClassSig.d) (U.flatMap clCells)
  | [], _ => by simp [RpAll]
  | u :: U, h => by
    simp only [List.map_cons, rpAll_cons, List.flatMap_cons]
    have h1 := h u List.mem_cons_self
    exact ⟨_, _, rfl, ClassSig.rp.2 ⟨u.2, .slice none 0 0, rfl, h1.1, h1.2.2, by rw [h1.2.1]; exact Sl.nil_⟩, cl_rp (fun q hq => h q (List.mem_cons_of_mem _ hq))⟩
theorem Cl.sl {B : Nat} {wr : World} {ov : Value} {U : List (ClassSig × Value)} {i : Nat} (h : Cl B wr ov U i) : Sl wr (fun b => B ≤ b ∧ b < wr.heap.size) ClassSig.d (clsList i) ov := by
  have h1 := cl_rp h.each
  have h2 : U.length = (U.map Prod.fst).length := by simp
  have h3 := h.own
  rw [h2] at h3
  rw [← h.eq]
  exact Sl.of_own h3 rfl h1 (fun b hb => ⟨hb.1, hb.2.1⟩) (fun b hb => h3.lt b hb)
theorem sl_one {W : World} {F : Nat → Prop} {g : Nat} {s : ByteArray} (hF : F g) (hs : s.size ≤ maxLen) (hb : Blk W g 9 [.string s]) : Sl W F dStr [s] (.slice (some ⟨g, 0, none⟩) 1 1) := by
  unfold Sl
  simp only [Rp]
  refine ⟨_, 1, rfl, Nat.le_refl _, by unfold maxLen; omega, (fun h => nomatch h), fun _ => ⟨g, 0, _, rfl, hF, ?_, fun j u hj => by rw [Nat.zero_add]; exact hb.cell hj⟩⟩
  exact rp_strs W [s] (by simpa using hs) F
/-- One class more. -/
theorem cl_next {B g1 cap1 : Nat} {wr w w6 : World} {Ao : Option Addr} {co : Nat} {U : List (ClassSig × Value)} {i : Nat} {sv : Value}
    (h : Cl B wr (.slice Ao U.length co) U i) (hi : i < 8) (hk : Keeps (fun _ => False) wr w) (hk6 : Keeps (fun k => (Value.slice Ao U.length co).ownBlock = some k) w w6)
    (hown : w6.ownsRow B 42 3 (.slice (some ⟨g1, 0, none⟩) (U.length + 1) cap1) (U.length + 1) (U.flatMap clCells ++ [.string (nm i), sv, .slice none 0 0]))
    (hat : (Value.slice Ao U.length co).ownBlock = some g1 ∨ w.heap.size ≤ g1) (hs : Sl w (fun b => wr.heap.size ≤ b ∧ b < w.heap.size) dStr (clsAt i).super sv) (hB : B ≤ wr.heap.size) :
    Cl B w6 (.slice (some ⟨g1, 0, none⟩) (U.length + 1) cap1) (U ++ [(clsAt i, sv)]) (i + 1) := by
  have hob : ∀ b, (Value.slice (some ⟨g1, 0, none⟩) (U.length + 1) cap1).ownBlock = some b → b = g1 := fun i hi => by simpa [Value.ownBlock] using hi.symm
  have hlt : ∀ b, (Value.slice Ao U.length co).ownBlock = some b → b < wr.heap.size := fun b hb => (h.own.lt b hb).2
  have hz := hk.size
  have hz6 := hk6.size
  refine ⟨?_, fun u hu => ?_, ?_⟩
  · rw [List.length_append, List.flatMap_append]
    simpa [clCells, clsAt] using hown
  · rcases List.mem_append.1 hu with hu | hu
    · refine ⟨(h.each u hu).1, (h.each u hu).2.1, (((h.each u hu).2.2.keeps hk (fun _ _ h => h)).keeps hk6 (fun b hb hx => hb.2.2 hx)).mono (fun b hb => ⟨hb.1, by omega, fun hx => ?_⟩)⟩
      have := hob b hx
      subst this
      rcases hat with h1 | h1
      · exact hb.2.2 h1
      · omega
    · rw [List.mem_singleton.1 hu]
      refine ⟨nm_len hi, rfl, (hs.keeps hk6 (fun b hb hx => by have := hlt b hx; omega)).mono (fun b hb => ⟨by omega, by omega, fun hx => ?_⟩)⟩
      have := hob b hx
      subst this
      rcases hat with h1 | h1
      · have := hlt _ h1; omega
      · omega
  · rw [List.map_append, h.eq]
    simp [clsList, List.range_succ]
set_option maxRecDepth 100000 in
set_option maxHeartbeats 8000000 in
theorem classList_any (n : Nat) (hn : n ≤ 8) (W : World) :
    Calls Tryd.prog 8 #[.int .i64 (n : Int)] W (fun e w' => Keeps (fun _ => False) W w' ∧ ∃ u, e = .returned u ∧ Sl w' (fun b => W.heap.size ≤ b ∧ b < w'.heap.size) ClassSig.d (clsList n) u) := by
  obtain ⟨i0, hi0, hz0, hz1, hz2⟩ := info_parts infoCls
  obtain ⟨B, hB⟩ : ∃ B, W.heap.size = B := ⟨_, rfl⟩
  have HB := Lib.hid hB
  have HIt : Hid (∀ (v : Value) (i : Nat), v = .int .i64 (i : Int) → i < 100 → ∀ X, Calls Tryd.prog 21 #[v] X (fun e w' => e = .returned (.string (dgs i)) ∧ w' = X)) := fun v i hv hi X => by
    subst hv; exact Tryd.strconv_Itoa_small i hi X
  have hn64 : (n : Int) ≤ 8 := by omega
  clear hB
  go_enter Tryd.func8, Tryd.ntmps8
  go_wp2_with fail
  go_loopw [3, 7] (fun ov i wr => ∃ (j : Nat) (oo : Value) (U : List (ClassSig × Value)), oo = ov ∧ j ≤ n ∧ .int .i64 (j : Int) = i ∧ Cl B wr oo U j ∧ U.length = j ∧ Keeps (fun _ => False) W wr) (fun _ i _ => n - (intOf i).toNat)
  case atStart => exact ⟨0, _, [], rfl, Nat.zero_le _, rfl, ⟨World.ownsRow_nil _ _ _ _, (fun u hu => by cases hu), rfl⟩, rfl, Keeps.refl _ _⟩
  case round =>
    obtain ⟨j, oo, U, rfl, hj, rfl, hcl, hUl, hkr⟩ := hrel
    obtain ⟨wx, hwx⟩ : ∃ wx, wx = wr := ⟨_, rfl⟩
    rw [← hwx] at hcl hkr ⊢
    clear hwx
    obtain ⟨Ao, co, rfl⟩ := own_slform hcl.own
    have HUl := Lib.hid hUl
    clear hUl
    have hsx := hkr.size
    have hBx : B ≤ wx.heap.size := by have := HB.out; omega
    by_cases hlt : j < n
    · have hjl : (j : Int) < (n : Int) := by omega
      have HCl := Lib.hid hcl
      have HKr := Lib.hid hkr
      have HBx := Lib.hid hBx
      obtain ⟨b5, hb5⟩ : ∃ b5, wx.heap.size = b5 := ⟨_, rfl⟩
      have hdz : (dgs j).size = 1 := dgs_size ⟨j, by omega⟩
      clear hcl hkr hsx hBx
      go_wp2_with fail
      with_reducible refine (HIt.out _ j rfl (by omega) _).mono ?_
      rintro e w1 ⟨rfl, rfl⟩
      obtain ⟨X5, hX5⟩ : ∃ X5, w1.alloc (.cells #[.string (({ data := #[67] } : ByteArray) ++ dgs j), .slice none 0 0, .slice none 0 0] 42) = X5 := ⟨_, rfl⟩
      have hk5 : Keeps (fun _ => False) w1 X5 := by rw [← hX5]; exact (Keeps.refl _ _).alloc _
      have hB5 : Blk X5 b5 42 [.string (nm j), .slice none 0 0, .slice none 0 0] := by rw [← hX5, ← hb5]; exact Blk.new w1 _ [_, _, _]
      have hs5 := hk5.size
      have HX5 := Lib.hid hX5
      have HB5n := Lib.hid hb5
      have HB5 := Lib.hid hB5
      have HK5 := Lib.hid hk5
      have hul8 : U.length + 1 ≤ 100 := by have := HUl.out; omega
      have hl5 := hB5.lt
      clear hX5 hb5 hB5 hk5
      go_upto_region 6 with (fail)
      rw [HX5.out, HB5n.out]
      by_cases h0 : j = 0
      · have h0b : ¬ (0 : Int) < (j : Int) := by omega
        have r0 := HB5.out.cell (i := 0) rfl
        have r1 := HB5.out.cell (i := 1) rfl
        have r2 := HB5.out.cell (i := 2) rfl
        have HOw := Lib.hid (own_keeps HCl.out.own HK5.out (fun _ _ h => h))
        have H0 := Lib.hid h0
        have hBX : B ≤ X5.heap.size := by have := HBx.out; omega
        clear h0
        go_wp2_with (at_builtin; refine wpList_append_lies _ rfl _ _ 31 rfl B 42 i0 _ 3 64 Tryd.underlying31 hi0 hz0 hz1 hz2 rfl (by omega) _ U.length _ rfl (World.ownsRow.alloc HOw.out _) ⟨X5.heap.size, 0, none⟩ 1 1 [.string (nm j), .slice none 0 0, .slice none 0 0] rfl rfl (World.news_of_block (cs := #[.string (nm j), .slice none 0 0, .slice none 0 0]) (t := 42) (fr := (0, 0)) (heap_alloc_new _ _)) (by simp [Value.oneCell']) (by omega) (by unfold maxLen; omega) (by omega) (by simp; omega) (X5.heap.size + 1) (by simp) ?_; intro gg cap w7 hown1 hgrow hat hlt1; have hk7 : Keeps (fun i => (Value.slice Ao U.length co).ownBlock = some i) X5 w7 := ((Keeps.refl _ _).alloc _).grown hgrow (fun j hj hjl => hj))
        have HN := Lib.hid (cl_next (i := j) (sv := .slice none 0 0) HCl.out (by omega) HK5.out hk7 hown1 (hat.imp id (fun h => by omega)) (by unfold clsAt; rw [if_neg (by have := H0.out; omega)]; exact Sl.nil_) HBx.out)
        have HK7 := Lib.hid (Keeps.of_below (X := fun _ => False) ((((HKr.out.trans HK5.out (fun _ _ h => h)).mono (Y := fun i => B ≤ i) (fun _ _ h => h.elim)).trans hk7 (fun i _ h => (HOw.out.lt i h).1)).below (fun i hi => by have h2 : B ≤ i := hi; have := HB.out; omega) (Nat.le_refl _)))
        clear hown1 hgrow hat hlt1 hk7 r0 r1 r2
        go_roundw
        case rel => exact ⟨j + 1, _, _, rfl, by omega, by go_num, HN.out, by have := HUl.out; simp; omega, HK7.out⟩
        case measure => simp [intOf]; omega
      · have h0b : (0 : Int) < (j : Int) := by omega
        have hdz2 : (dgs (j - 1)).size = 1 := dgs_size ⟨j - 1, by omega⟩
        have hnum : (j : Int) - 1 = ((j - 1 : Nat) : Int) := by omega
        have H0 := Lib.hid h0
        have HNum := Lib.hid hnum
        clear h0 hnum
        go_wp2_with fail
        with_reducible refine (HIt.out _ (j - 1) (by rw [HNum.out]) (by omega) _).mono ?_
        rintro e w2 ⟨rfl, rfl⟩
        obtain ⟨b6, hb6⟩ : ∃ b6, w2.heap.size = b6 := ⟨_, rfl⟩
        obtain ⟨X6, hX6⟩ : ∃ X6, w2.setCell ⟨b5, 1, none⟩ (.slice (some ⟨b6, 0, none⟩) 1 1) = X6 := ⟨_, rfl⟩
        have hk6 : Keeps (· = b5) w2 X6 := by rw [← hX6]; exact (Keeps.refl (· = b5) w2).setCell (p := ⟨b5, 1, none⟩) (fun _ => rfl) _
        have hz6 : X6.heap.size = b6 := by rw [← hX6, ← hb6]; simp
        have hB56 : Blk X6 b5 42 [.string (nm j), .slice (some ⟨b6, 0, none⟩) 1 1, .slice none 0 0] := by rw [← hX6]; exact HB5.out.set_ 1 _
        obtain ⟨X7, hX7⟩ : ∃ X7, X6.alloc (.cells #[.string (({ data := #[67] } : ByteArray) ++ dgs (j - 1))] 9) = X7 := ⟨_, rfl⟩
        have hk7 : Keeps (fun _ => False) X6 X7 := by rw [← hX7]; exact (Keeps.refl _ _).alloc _
        have hB67 : Blk X7 b6 9 [.string (nm (j - 1))] := by rw [← hX7, ← hz6]; exact Blk.new X6 _ [_]
        have hB57 := hB56.keeps hk7 (fun h => h)
        have r1 := HB5.out.cell (i := 1) rfl
        have f1 := HB5.out.free 1
        have hb5n := HB5n.out
        have hs67 := hk7.size
        have hs26 := hk6.size
        have hl67 := hB67.lt
        have hs5w := HK5.out.size
        have hK17 : Keeps (fun _ => False) w1 X7 := Keeps.of_below (X := fun _ => False) ((((HK5.out.mono (Y := fun i => b5 ≤ i) (fun _ _ h => h.elim)).trans hk6 (fun i _ h => by have h2 : i = b5 := h; show b5 ≤ i; omega)).trans hk7 (fun _ _ h => h.elim)).below (fun i hi => by have h2 : b5 ≤ i := hi; omega) (Nat.le_refl _))
        have hSup : Sl X7 (fun b => w1.heap.size ≤ b ∧ b < X7.heap.size) dStr (clsAt j).super (.slice (some ⟨b6, 0, none⟩) 1 1) := by
          unfold clsAt
          rw [if_pos (by have := H0.out; omega)]
          exact sl_one ⟨by omega, by omega⟩ (nm_len (by omega)) hB67
        have HSup := Lib.hid hSup
        have HK17 := Lib.hid hK17
        have HB57 := Lib.hid hB57
        have HX6 := Lib.hid hX6
        have HX7 := Lib.hid hX7
        have HB6n := Lib.hid hb6
        have hBX : B ≤ X7.heap.size := by have := HBx.out; omega
        clear hk6 hB56 hk7 hB57 hB67 hs67 hs26 hl67 hs5w hz6 hK17 hSup hX6 hX7 hb6 hb5n
        go_upto_region 8 with (fail)
        rw [HB6n.out, HX6.out, HX7.out]
        clear r1 f1
        have r0 := HB57.out.cell (i := 0) rfl
        have r1 := HB57.out.cell (i := 1) rfl
        have r2 := HB57.out.cell (i := 2) rfl
        have hl57 := HB57.out.lt
        have HOw := Lib.hid (own_keeps HCl.out.own HK17.out (fun _ _ h => h))
        go_wp2_with (at_builtin; refine wpList_append_lies _ rfl _ _ 31 rfl B 42 i0 _ 3 64 Tryd.underlying31 hi0 hz0 hz1 hz2 rfl (by omega) _ U.length _ rfl (World.ownsRow.alloc HOw.out _) ⟨X7.heap.size, 0, none⟩ 1 1 [.string (nm j), .slice (some ⟨b6, 0, none⟩) 1 1, .slice none 0 0] rfl rfl (World.news_of_block (cs := #[.string (nm j), .slice (some ⟨b6, 0, none⟩) 1 1, .slice none 0 0]) (t := 42) (fr := (0, 0)) (heap_alloc_new _ _)) (by simp [Value.oneCell']) (by omega) (by unfold maxLen; omega) (by omega) (by simp; omega) (X7.heap.size + 1) (by simp) ?_; intro gg cap w7 hown1 hgrow hat hlt1; have hk7 : Keeps (fun i => (Value.slice Ao U.length co).ownBlock = some i) X7 w7 := ((Keeps.refl _ _).alloc _).grown hgrow (fun j hj hjl => hj))
        have HN := Lib.hid (cl_next (i := j) (sv := .slice (some ⟨b6, 0, none⟩) 1 1) HCl.out (by omega) HK17.out hk7 hown1 (hat.imp id (fun h => by omega)) HSup.out HBx.out)
        have HK7 := Lib.hid (Keeps.of_below (X := fun _ => False) ((((HKr.out.trans HK17.out (fun _ _ h => h)).mono (Y := fun i => B ≤ i) (fun _ _ h => h.elim)).trans hk7 (fun i _ h => (HOw.out.lt i h).1)).below (fun i hi => by have h2 : B ≤ i := hi; have := HB.out; omega) (Nat.le_refl _)))
        clear hown1 hgrow hat hlt1 hk7 r0 r1 r2
        go_roundw
        case rel => exact ⟨j + 1, _, _, rfl, by omega, by go_num, HN.out, by have := HUl.out; simp; omega, HK7.out⟩
        case measure => simp [intOf]; omega
    · obtain rfl : j = n := by omega
      have hjl : ¬ (j : Int) < (j : Int) := by omega
      have HSl := Lib.hid (hcl.sl)
      have HK := Lib.hid hkr
      clear hcl hkr hsx hBx
      have HP : Hid (Keeps (fun _ => False) W wx ∧ ∃ u, Ending.returned (.slice Ao U.length co) = .returned u ∧ Sl wx (fun b => W.heap.size ≤ b ∧ b < wx.heap.size) ClassSig.d (clsList j) u) :=
        ⟨HK.out, _, rfl, HSl.out.mono (fun b hb => ⟨by have := HB.out; have := hb.1; omega, hb.2⟩)⟩
      go_wp2_with fail
      go_ret
      exact HP.out
end Go.Proofs.YtdljlpogljjldaaDoor
