/- classes.Find. -/
import Derived.Test.YtdljlpogljjldaaDoorCHof
namespace Go.Proofs.YtdljlpogljjldaaDoor
open Go.RowKit Go.Shelf Go.Sort

/-- A function with a struct that lies in a block of its own, and one more value, as results. -/
theorem ret_row1 {P : Program} {fn : Func} {R : Ending → World → Prop} {a : Act} {w : World} {p r : Tmp} {ty : TypeId} {g : Nat} {t : TypeId} {cs : List Value} {fs : Array Field} {z : Value}
    (hr : fn.results = #[.cell p ty, .tmp r]) (hp : a.tmps.getD p undef = .pointer (some ⟨g, 0, none⟩)) (hz : a.tmps.getD r undef = z)
    (hb : Blk w g t cs) (hu : P.underlying ty = some (.struct fs)) (hi : (P.info? ty).map (·.size) = some cs.length) (hd : a.defers = []) (hR : R (.returned (.tuple #[.agg cs.toArray, z])) w) : bodyPost P fn R .ret a w := by
  refine bodyPost_ret (v := .tuple #[.agg cs.toArray, z]) ?_ hd hR
  have hp' : a.tmps[p]?.getD undef = .pointer (some ⟨g, 0, none⟩) := by simpa using hp
  have hz' : a.tmps[r]?.getD undef = z := by simpa using hz
  simp [results, hr, hp', hz', asAddr, run_loadVar_row w g t ty cs.toArray (0, 0) _ hb hu rfl (by simpa using hi)]
/-- Three stores into a block. -/
theorem three {w : World} {g : Nat} {t : TypeId} {a b c : Value} (h : Blk w g t [a, b, c]) (u0 u1 u2 : Value) :
    Blk (((w.setCell ⟨g, 0, none⟩ u0).setCell ⟨g, 1, none⟩ u1).setCell ⟨g, 2, none⟩ u2) g t [u0, u1, u2] ∧
      Keeps (· = g) w (((w.setCell ⟨g, 0, none⟩ u0).setCell ⟨g, 1, none⟩ u1).setCell ⟨g, 2, none⟩ u2) :=
  ⟨((h.set_ 0 u0).set_ 1 u1).set_ 2 u2, (((Keeps.refl (· = g) w).setCell (p := ⟨g, 0, none⟩) (fun _ => rfl) u0).setCell (p := ⟨g, 1, none⟩) (fun _ => rfl) u1).setCell (p := ⟨g, 2, none⟩) (fun _ => rfl) u2⟩
theorem findC_step (l : List ClassSig) (n : ByteArray) (k : Nat) (h : k < l.length) : findC (l.drop k) n = if l[k].name = n then some l[k] else findC (l.drop (k + 1)) n := by
  rw [List.drop_eq_getElem_cons h]
  unfold findC
  rw [List.find?_cons]
  by_cases e : l[k].name = n
  · simp [e]
  · simp [e]
/-- What Find answers. -/
def FindRet (l : List ClassSig) (n : ByteArray) (F : Nat → Prop) (W : World) (e : Ending) (w' : World) : Prop := Keeps (fun _ => False) W w' ∧
  ((∃ c A1 q1 A2 n2 q2, findC l n = some c ∧ e = .returned (.tuple #[.agg #[.string c.name, .slice A1 c.super.length q1, .slice A2 n2 q2], .bool true]) ∧ Sl w' F dStr c.super (.slice A1 c.super.length q1)) ∨
   (findC l n = none ∧ e = .returned (.tuple #[.agg #[.string ⟨#[]⟩, .slice none 0 0, .slice none 0 0], .bool false])))
set_option maxHeartbeats 4000000 in
theorem find_any (l : List ClassSig) (n : ByteArray) (v : Value) (F : Nat → Prop) (W : World) (hv : Sl W F ClassSig.d l v) (hF : ∀ b, F b → b < W.heap.size) :
    Calls Tryd.prog 14 #[v, .string n] W (FindRet l n F W) := by
  obtain ⟨A, c, rfl, hlc, hcm, _⟩ := hv.form
  have hl : l.length ≤ 9223372036854775807 := by unfold maxLen at hcm; omega
  obtain ⟨b0, hb0⟩ : ∃ b0, W.heap.size = b0 := ⟨_, rfl⟩
  obtain ⟨W0, hW0⟩ : ∃ W0, W.alloc (.cells #[.string ⟨#[]⟩, .slice none 0 0, .slice none 0 0] 42) = W0 := ⟨_, rfl⟩
  have hk0 : Keeps (fun _ => False) W W0 := by rw [← hW0]; exact (Keeps.refl _ _).alloc _
  have hr0 : Blk W0 b0 42 [.string ⟨#[]⟩, .slice none 0 0, .slice none 0 0] := by rw [← hW0, ← hb0]; exact Blk.new W _ [_, _, _]
  have HV := Lib.hid (hv.keeps hk0 (fun _ _ h => h))
  have HR0 := Lib.hid hr0
  have HK0 := Lib.hid hk0
  have HW0 := Lib.hid hW0
  have HB0 := Lib.hid hb0
  have HF := Lib.hid hF
  clear hv hk0 hr0 hW0 hb0 hlc hcm hF
  go_enter Tryd.func14, Tryd.ntmps14
  go_wp2_with fail
  rw [HW0.out, HB0.out]
  go_loopw [10] (fun i wr => ∃ k : Nat, k ≤ l.length ∧ .int .i64 (k : Int) = i ∧ Keeps (fun _ => False) W0 wr ∧ Hid (findC l n = findC (l.drop k) n)) (fun i _ => l.length - (intOf i).toNat)
  case atStart => exact ⟨0, Nat.zero_le _, rfl, Keeps.refl _ _, rfl⟩
  case round =>
    obtain ⟨k, hk, rfl, hkr, hno⟩ := hrel
    have hrw := HR0.out.keeps hkr (fun h => h)
    have r0 := hrw.cell (i := 0) rfl
    have r1 := hrw.cell (i := 1) rfl
    have r2 := hrw.cell (i := 2) rfl
    have f0 := hrw.free 0
    have f1 := hrw.free 1
    have f2 := hrw.free 2
    have hrl := hrw.lt
    have HRw := Lib.hid hrw
    have HKR := Lib.hid hkr
    by_cases hlt : k < l.length
    · have hst := findC_step l n k hlt
      obtain ⟨g, off, v1, v2, hadr, hg, c0, c1, c2, _, hsup, hops⟩ := ClassSig.get (HV.out.keeps hkr (fun _ _ h => h)) hlt
      obtain rfl := hadr
      obtain ⟨A1, q1, rfl, _⟩ := hsup.form
      obtain ⟨A2, q2, rfl, _⟩ := hops.form
      have HS := Lib.hid hsup
      have hgl : g < b0 := by have := HF.out g hg; have := HB0.out; omega
      clear hrw hkr hsup
      by_cases he : l[k].name = n
      · rw [if_pos he] at hst
        have e := str_yes he
        have HE := Lib.hid (hno.out.trans hst)
        clear hst he hno
        go_wp2_with fail
        obtain ⟨hB3, hK3⟩ := three HRw.out (.string l[k].name) (.slice A1 l[k].super.length q1) (.slice A2 l[k].ops.length q2)
        exact ret_row1 Tryd.results14 rfl rfl (hB3.alloc _) Tryd.underlying42 (by kernel_rfl) rfl
          ⟨Keeps.of_below (X := fun _ => False) ((((HK0.out.trans HKR.out (fun _ _ h => h)).mono (Y := fun i => b0 ≤ i) (fun _ _ h => h.elim)).trans (hK3.alloc (.cells #[.string l[k].name, .slice A1 l[k].super.length q1, .slice A2 l[k].ops.length q2] 42)) (fun i _ h => by have h2 : i = b0 := h; omega)).below (fun i hi => by have := HB0.out; omega) (Nat.le_refl _)),
            .inl ⟨l[k], _, _, _, _, _, HE.out, rfl, HS.out.keeps (hK3.alloc _) (fun i hi h => by have := HF.out i hi; have := HB0.out; have h2 : i = b0 := h; omega)⟩⟩
      · rw [if_neg he] at hst
        have e := str_no he
        have HE := Lib.hid (hno.out.trans hst)
        clear hst he hno
        go_wp2_with fail
        go_roundw
        case rel => exact ⟨k + 1, by omega, by go_num, HKR.out.alloc _, HE.out⟩
        case measure => simp [intOf]; omega
    · have hd : l.drop k = [] := List.drop_eq_nil_of_le (by omega)
      have HE : Hid (findC l n = none) := by show _ = _; rw [hno.out, hd]; rfl
      clear hrw hkr hd hno
      go_wp2_with fail
      obtain ⟨hB3, hK3⟩ := three HRw.out (.string ⟨#[]⟩) (.slice none 0 0) (.slice none 0 0)
      exact ret_row1 Tryd.results14 rfl rfl hB3 Tryd.underlying42 (by kernel_rfl) rfl
        ⟨Keeps.of_below (X := fun _ => False) ((((HK0.out.trans HKR.out (fun _ _ h => h)).mono (Y := fun i => b0 ≤ i) (fun _ _ h => h.elim)).trans hK3 (fun i _ h => by have h2 : i = b0 := h; omega)).below (fun i hi => by have := HB0.out; omega) (Nat.le_refl _)), .inr ⟨HE.out, rfl⟩⟩
end Go.Proofs.YtdljlpogljjldaaDoor
