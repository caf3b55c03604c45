/- The parser: PaPut, PaW. -/
import Derived.Test.YtcjoapmodaioiaaGreatDoorMPaB
import Derived.Deep.LoopGhost
import Derived.Deep.CutRange
import Derived.Deep.DeepCutAuto
section
namespace Go.Proofs.YtcjoapmodaioiaaGreatDoor
open Go.RowKit Go.Shelf Pa

section
variable {c : Cx} {W w2 : World} {nv bv : Value} {G : Nat → Prop} {ns : List Nv} {s : Ps}
theorem own_slc {w : World} {b : Nat} {e : TypeId} {s n : Nat} {v : Value} {xs : List Value} (h : w.ownsRow b e s v n xs) : ∃ A c, v = .slice A n c := by
  rcases h.2 with ⟨h1, h2⟩ | ⟨g, cap, _, h1, _⟩
  · exact ⟨none, 0, by rw [h1, h2]⟩
  · exact ⟨_, _, h1⟩
theorem PaAt.added (h : PaAt c W nv bv G ns s) (y : Nv) {Kb : Nat → Prop} (hs : Sl W Kb kidD y.nd.kids y.kv) (hKb : ∀ i, Kb i → i < W.heap.size ∧ ¬ OwnT c.bp nv bv i ∧ ¬ c.F i) {g1 cap1 : Nat} (hk1 : Keeps (fun k => nv.ownBlock = some k) W w2)
    (hown : w2.ownsRow c.B 35 6 (.slice (some ⟨g1, 0, none⟩) (ns.length + 1) cap1) (ns.length + 1) (ns.flatMap Nv.cells ++ y.cells)) (hat : nv.ownBlock = some g1 ∨ W.heap.size ≤ g1) (hn : ns.length < 4096) :
    PaAt c (w2.setCell ⟨c.bp, 4, none⟩ (.slice (some ⟨g1, 0, none⟩) (ns.length + 1) cap1)) (.slice (some ⟨g1, 0, none⟩) (ns.length + 1) cap1) bv (fun i => G i ∨ Kb i) (ns ++ [y]) { s with nodes := s.nodes ++ [y.nd] } ∧
      Keeps (OwnT c.bp nv bv) W (w2.setCell ⟨c.bp, 4, none⟩ (.slice (some ⟨g1, 0, none⟩) (ns.length + 1) cap1)) := by
  have hb2 := h.box.keeps hk1 h.nN; (have k2 : Keeps (· = c.bp) w2 (w2.setCell ⟨c.bp, 4, none⟩ (.slice (some ⟨g1, 0, none⟩) (ns.length + 1) cap1)) := (Keeps.refl (· = c.bp) w2).setCell (p := ⟨c.bp, 4, none⟩) (fun _ => rfl) _); have hs1 := hk1.size; have hs2 := k2.size; have hk : Keeps (fun i => i = c.bp ∨ nv.ownBlock = some i) W (w2.setCell ⟨c.bp, 4, none⟩ (.slice (some ⟨g1, 0, none⟩) (ns.length + 1) cap1)) := (hk1.mono (Y := fun i => i = c.bp ∨ nv.ownBlock = some i) (fun i _ hi => .inr hi)).trans k2 (fun i _ e => .inl e)
  have hg : ∀ i, (Value.slice (some ⟨g1, 0, none⟩) (ns.length + 1) cap1).ownBlock = some i → nv.ownBlock = some i ∨ W.heap.size ≤ i := fun i hi => by
    (have e1 : g1 = i := by simpa [Value.ownBlock] using hi); rw [← e1]; exact hat
  have hT : ∀ i, OwnT c.bp (.slice (some ⟨g1, 0, none⟩) (ns.length + 1) cap1) bv i → OwnT c.bp nv bv i ∨ W.heap.size ≤ i := fun i hi => by
    rcases hi with e | e | e
    · exact .inl (.inl e)
    · rcases hg i e with e | e
      · exact .inl (.inr (.inl e))
      · exact .inr e
    · exact .inl (.inr (.inr e))
  (have hkO : ∀ i, (i = c.bp ∨ nv.ownBlock = some i) → OwnT c.bp nv bv i := fun i hi => hi.elim .inl (fun e => .inr (.inl e))); refine ⟨⟨hb2.set_ 4 _, ?_, fun i hi => ⟨by have := (h.far i hi).1; omega, ?_⟩, ?_, by simp [h.nds], fun z hz => ?_, fun i hi => ?_, ?_, h.pos, h.opn, h.deep, by simp; omega, h.nbad⟩, hk.mono (fun i _ hi => hkO i hi)⟩
  · exact h.toks.keeps hk (fun i hi hx => (h.far i hi).2 (.inl (hkO i hx)))
  · rintro (e | e | e)
    · rcases hT i e with e | e
      · exact (h.far i hi).2 (.inl e)
      · have := (h.far i hi).1; omega
    · exact (h.far i hi).2 (.inr e)
    · exact (hKb i e).2.2 hi
  · (have := own_keeps hown k2 (fun i hi e => own_ne_blk hown hb2 (by decide) (by rw [hi, e]))); simpa [List.length_append, List.flatMap_append] using this
  · rcases List.mem_append.1 hz with hz | hz
    · exact ((h.kids z hz).keeps hk (fun i hi hx => (h.old i hi).2 (hkO i hx))).mono (fun i hi => .inl hi)
    · rw [List.mem_singleton.1 hz]; exact (hs.keeps hk (fun i hi hx => (hKb i hi).2.1 (hkO i hx))).mono (fun i hi => .inr hi)
  · have hold : i < W.heap.size ∧ ¬ OwnT c.bp nv bv i := by
      rcases hi with hi | hi
      · exact h.old i hi
      · exact ⟨(hKb i hi).1, (hKb i hi).2.1⟩
    exact ⟨by omega, fun ho => (hT i ho).elim hold.2 (fun e => by omega)⟩
  · exact own_keeps h.bad hk (fun i hi hx => hx.elim (fun e => h.nB (by rw [hi, e])) (fun e => h.nNB i e hi))
theorem infoNode : (Tryz.prog.info? 35).map (fun i => (i.zero, i.size, i.bytes)) = some (some (.agg #[.int .i64 0, .string ⟨#[]⟩, .int .i64 0, .slice none 0 0, .int .i64 0, .int .i64 0]), 6, 72) := by kernel_rfl
set_option maxRecDepth 100000 in
set_option maxHeartbeats 8000000 in
theorem pput_any (h : PaAt c W nv bv G ns s) (hB : c.B ≤ W.heap.size) (t : Tok) (y : Nv) {A : Option Addr} {cp : Nat} (hkv : y.kv = .slice A y.nd.kids.length cp) {Kb : Nat → Prop} (hs : Sl W Kb kidD y.nd.kids y.kv) (hKb : ∀ i, Kb i → i < W.heap.size ∧ ¬ OwnT c.bp nv bv i ∧ ¬ c.F i)
    (hl : y.line = t.line ∧ y.col = t.col) (hlt : s.nodes.length < 4096) :
    Calls Tryz.prog 51 #[.pointer (some ⟨c.bp, 0, none⟩), .agg #[.int .i64 t.kind, .string t.text, .int .i64 t.n, .int .i64 t.line, .int .i64 t.col], .agg #[.int .i64 y.nd.kind, .string y.nd.text, .int .i64 y.nd.n, y.kv, .int .i64 0, .int .i64 0]] W (fun e w' => e = .returned (kidC s.nodes.length) ∧
      ∃ nv', PaAt c w' nv' bv (fun i => G i ∨ Kb i) (ns ++ [y]) { s with nodes := s.nodes ++ [y.nd] } ∧ Keeps (OwnT c.bp nv bv) W w' ∧ ∀ i, nv'.ownBlock = some i → nv.ownBlock = some i ∨ W.heap.size ≤ i) := by
  obtain ⟨i0, hi0, hz0, hz1, hz2⟩ := info_parts infoNode; (have hlen : ns.length = s.nodes.length := by rw [← h.nds]; simp); (have hyc : y.cells = [.int .i64 y.nd.kind, .string y.nd.text, .int .i64 y.nd.n, y.kv, .int .i64 t.line, .int .i64 t.col] := by unfold Nv.cells; rw [hl.1, hl.2]); rw [hkv] at hyc; obtain ⟨b4, hb4⟩ : ∃ b, W.heap.size = b := ⟨_, rfl⟩; obtain ⟨W0, hW0⟩ : ∃ W0, (W.alloc (.cells #[.int .i64 t.kind, .string t.text, .int .i64 t.n, .int .i64 t.line, .int .i64 t.col] 59)).alloc (.cells #[.int .i64 y.nd.kind, .string y.nd.text, .int .i64 y.nd.n, .slice A y.nd.kids.length cp, .int .i64 0, .int .i64 0] 35) = W0 := ⟨_, rfl⟩; (have hk0 : Keeps (fun _ => False) W W0 := by rw [← hW0]; exact ((Keeps.refl _ _).alloc _).alloc _); have hB4 : Blk W0 b4 59 [.int .i64 t.kind, .string t.text, .int .i64 t.n, .int .i64 t.line, .int .i64 t.col] := by rw [← hW0, ← hb4]; exact (Blk.new W _ [_, _, _, _, _]).alloc _
  have hB5 : Blk W0 (b4 + 1) 35 [.int .i64 y.nd.kind, .string y.nd.text, .int .i64 y.nd.n, .slice A y.nd.kids.length cp, .int .i64 0, .int .i64 0] := by
    have := Blk.new (W.alloc (.cells #[.int .i64 t.kind, .string t.text, .int .i64 t.n, .int .i64 t.line, .int .i64 t.col] 59)) 35 [.int .i64 y.nd.kind, .string y.nd.text, .int .i64 y.nd.n, .slice A y.nd.kids.length cp, .int .i64 0, .int .i64 0]; rw [← hW0, ← hb4]; simpa using this
  rw [hkv]; obtain ⟨n, hn⟩ : ∃ n, s.nodes.length = n := ⟨_, rfl⟩; rw [hn] at hlen hlt ⊢; obtain ⟨An, cn, hnv⟩ := own_slc h.nod; rw [hlen] at hnv; subst hnv; have h0 := h.same hk0; (have hne : b4 + 1 ≠ c.bp := by have := h.box.lt; omega); have HH : Hid (PaAt c W0 (.slice An n cn) bv G ns s) := h0; have HHW : Hid (PaAt c W (.slice An n cn) bv G ns s) := h; have hB0 : c.B ≤ W0.heap.size := Nat.le_trans hB hk0.size; have HB0 := Lib.hid hB0; (have HMq : Hid (n + 1 ≤ maxLen) := by show _ ≤ _; unfold maxLen; omega); (have HBq : Hid ((n + 1) * 72 ≤ 140737488355328) := by show _ ≤ _; omega); obtain ⟨o, ho⟩ : ∃ o, y.nd.kids.length = o := ⟨_, rfl⟩; rw [ho] at hB5 hyc hW0 ⊢
  have HAdd : Hid (∀ w3 : World, Keeps (· = b4 + 1) W0 w3 → (W0.heap.size ≤ w3.heap.size ∧ w3.cell? ⟨c.bp, 4, none⟩ = some (.slice An n cn) ∧ w3.frozen? ⟨c.bp, 4, none⟩ = false ∧ c.bp < w3.heap.size ∧ w3.ownsRow c.B 35 6 (.slice An n cn) n (ns.flatMap Nv.cells) ∧ ¬ (Value.slice An n cn).ownBlock = some (b4 + 1) ∧ ¬ (Value.slice An n cn).ownBlock = some c.bp) ∧ ∀ (w2 : World) (g1 cap1 : Nat), Keeps (fun k => (Value.slice An n cn).ownBlock = some k) w3 w2 → w2.ownsRow c.B 35 6 (.slice (some ⟨g1, 0, none⟩) (n + 1) cap1) (n + 1) (ns.flatMap Nv.cells ++ [.int .i64 y.nd.kind, .string y.nd.text, .int .i64 y.nd.n, .slice A o cp, .int .i64 t.line, .int .i64 t.col]) →
      ((Value.slice An n cn).ownBlock = some g1 ∨ w3.heap.size ≤ g1) → Blk w2 c.bp 52 [c.lv, .int .i64 s.pos, .int .i64 s.deep, .int .i64 s.opn, .slice An n cn, bv] ∧ ∃ nv', (PaAt c (w2.setCell ⟨c.bp, 4, none⟩ (.slice (some ⟨g1, 0, none⟩) (n + 1) cap1)) nv' bv (fun i => G i ∨ Kb i) (ns ++ [y]) { s with nodes := s.nodes ++ [y.nd] } ∧
        Keeps (OwnT c.bp (.slice An n cn) bv) W (w2.setCell ⟨c.bp, 4, none⟩ (.slice (some ⟨g1, 0, none⟩) (n + 1) cap1)) ∧ ∀ i, nv'.ownBlock = some i → (Value.slice An n cn).ownBlock = some i ∨ W.heap.size ≤ i)) := fun w3 hk3 => by
    have hb5 : ∀ i, OwnP c (.slice An n cn) bv G i ∨ c.F i → ¬ i = b4 + 1 := fun i hi e => by
      rcases hi with hi | hi
      · have := h.lt i hi; omega
      · have := (h.far i hi).1; omega
    have h3 := h0.keeps hk3 hb5; (have hkW : Keeps (fun _ => False) W w3 := hk0.trans (hk3.mono (Y := fun i => i = b4 + 1) (fun _ _ e => e)) (fun i hi e => by omega)); (refine ⟨⟨hk3.size, h3.box.cell (i := 4) rfl, h3.box.free 4, h3.box.lt, by have := h3.nod; rw [hlen] at this; exact this, fun e => hb5 _ (.inl (.inl (.inr (.inl e)))) rfl, h3.nN⟩, fun w2 g1 cap1 q1 q2 q3 => ⟨h3.box.keeps q1 h3.nN, ?_⟩⟩); rw [← hyc] at q2; (have hKs3 : ∀ i, Kb i → i < w3.heap.size ∧ ¬ OwnT c.bp (.slice An n cn) bv i ∧ ¬ c.F i := fun i hi => ⟨Nat.lt_of_lt_of_le (hKb i hi).1 hkW.size, (hKb i hi).2⟩); (have hq := h3.added y (hs.keeps hkW (fun _ _ h => h)) hKs3 q1 (by rw [hlen]; exact q2) q3 (by omega)); rw [hlen] at hq; (refine ⟨_, hq.1, (hkW.mono (Y := OwnT c.bp (.slice An n cn) bv) (fun _ _ h => h.elim)).trans hq.2 (fun _ _ h => h), fun i hi => ?_⟩); (have e1 : g1 = i := by simpa [Value.ownBlock] using hi); rw [← e1]; exact q3.imp id (fun h => Nat.le_trans hkW.size h)
  have c4 := h0.box.cell (i := 4) rfl; (have hg0 : decide ((4096 : Int) ≤ (n : Int)) = false := by simp; omega); (have hg1 : ¬ (4096 : Int) ≤ (n : Int) := by omega); have HNn : Hid (n < 4096) := hlt; have HB4 := Lib.hid hB4; have HB5 := Lib.hid hB5; have HW0 := Lib.hid hW0; have HBn := Lib.hid hb4; have HNe := Lib.hid hne; have HK0 := Lib.hid hk0
  have hQ3 : Hid (∀ X, Keeps (fun _ => False) W0 X → (X.cell? ⟨b4, 3, none⟩ = some (.int .i64 t.line) ∧ X.cell? ⟨b4, 4, none⟩ = some (.int .i64 t.col) ∧ X.cell? ⟨b4 + 1, 4, none⟩ = some (.int .i64 0) ∧ X.cell? ⟨b4 + 1, 5, none⟩ = some (.int .i64 0) ∧ X.frozen? ⟨b4 + 1, 4, none⟩ = false ∧ X.frozen? ⟨b4 + 1, 5, none⟩ = false ∧ b4 + 1 < X.heap.size)) := fun X hk => by
    (have hx := hB4.keeps hk (fun h => h)); (have hy := hB5.keeps hk (fun h => h)); exact ⟨hx.cell (i := 3) rfl, hx.cell (i := 4) rfl, hy.cell (i := 4) rfl, hy.cell (i := 5) rfl, hy.free 4, hy.free 5, hy.lt⟩
  clear h h0 hkv hyc hs hKb hl hlt hk0 hB4 hB5 hb4 hW0 hlen hne hB hB0 ho hn; go_enter Tryz.func51, Tryz.ntmps51; go_upto_region 1 with (fail); rw [HBn.out, HW0.out]; go_upto_region 3 with (fail); clear c4 hg0 hg1; refine wp_region_noPanic ?_; refine wp_region_till [5, 7] (fun X => X.cell? ⟨b4, 3, none⟩ = some (.int .i64 t.line) ∧ X.cell? ⟨b4, 4, none⟩ = some (.int .i64 t.col) ∧ X.cell? ⟨b4 + 1, 4, none⟩ = some (.int .i64 0) ∧ X.cell? ⟨b4 + 1, 5, none⟩ = some (.int .i64 0) ∧ X.frozen? ⟨b4 + 1, 4, none⟩ = false ∧ X.frozen? ⟨b4 + 1, 5, none⟩ = false ∧ b4 + 1 < X.heap.size) (by kernel_rfl) ?_ (fun hE => ?_)
  · exact hQ3.out _ (show Keeps (fun _ => False) W0 _ from (by repeat (first | (with_reducible exact Keeps.refl _ _) | (with_reducible refine Keeps.drew ?_) | (with_reducible refine Keeps.drewN ?_ _) | (with_reducible refine Keeps.alloc ?_ _) | (with_reducible refine Keeps.trans ?_ (by assumption) (fun _ _ h => h)))))
  (have hS := hE (by kernel_rfl)); refine wpAnyT_pure (i := 0) (v := ?v3_0_1) rfl (by kernel_rfl) (fun _ _ _ h => h) (Or.inl ⟨by rfl, ?y3_0_1⟩) (fun _ => hS) ?_
  case y3_0_1 => (intro w hSw; go_simp; try with_reducible rfl)
  (try simp only [AP]); refine wpAnyT_take (i := 1) (v := ?v3_1_2) rfl (by kernel_rfl) (fun _ _ _ h => h) (Or.inl ⟨by rfl, ?y3_1_2⟩) hS ?_
  case y3_1_2 => (intro w hSw; (try dsimp only at hSw); go_simp; try with_reducible rfl)
  (try simp only [AP]); refine wpAnyT_pure (i := 2) (v := ?v3_2_3) rfl (by kernel_rfl) (fun _ _ _ h => h) (Or.inl ⟨by rfl, ?y3_2_3⟩) (fun _ => hS) ?_
  case y3_2_3 => (intro w hSw; go_simp; try with_reducible rfl)
  (try simp only [AP]); refine wpAnyT_pure (i := 4) (v := ?v3_4_4) rfl (by kernel_rfl) (fun _ _ _ h => h) (Or.inl ⟨by rfl, ?y3_4_4⟩) (fun _ => hS) ?_
  case y3_4_4 => (intro w hSw; go_simp; try with_reducible rfl)
  (try simp only [AP]); (refine wpAnyT_ready (rs := [3, 5]) (by kernel_rfl) rfl ?_); refine AllT.cons rfl (fun K hK => ?_) ?_
  · go_simp; refine hK.out _ _ (fun _ => ?_) (fun hE => ?_)
    · exact hQ3.out _ (show Keeps (fun _ => False) W0 _ from (by repeat (first | (with_reducible exact Keeps.refl _ _) | (with_reducible refine Keeps.drew ?_) | (with_reducible refine Keeps.drewN ?_ _) | (with_reducible refine Keeps.alloc ?_ _) | (with_reducible refine Keeps.trans ?_ (by assumption) (fun _ _ h => h)))))
    (have hS := hE (by kernel_rfl)); clear hK K hE; (try simp only [AP]); (refine wpAnyT_ready (rs := [5]) (by kernel_rfl) rfl ?_); refine AllT.cons rfl (fun K hK => ?_) ?_
    · (obtain ⟨_, _, z4, z5, y4, y5, zl⟩ := hQ3.out W0 (Keeps.refl _ _); go_simp); (refine hK.out _ _ (fun he => Bool.noConfusion (show false = true from he)) (fun hE => ?_)); clear hK K hE; (try simp only [AP]); refine wpAnyT_pure (i := 6) (v := ?v3_6_5) rfl (by kernel_rfl) (fun _ _ _ h => h) (Or.inl ⟨by rfl, ?y3_6_5⟩) (fun he => Bool.noConfusion (show false = true from he)) ?_
      case y3_6_5 => (intro w hSw; go_simp; try with_reducible rfl)
      (try simp only [AP]); (refine wpAnyT_ready (rs := [7]) (by kernel_rfl) rfl ?_); refine AllT.cons rfl (fun K hK => ?_) ?_
      · (obtain ⟨_, _, z4, z5, y4, y5, zl⟩ := hQ3.out W0 (Keeps.refl _ _); go_simp); (refine hK.out _ _ (fun he => Bool.noConfusion (show false = true from he)) (fun hE => ?_)); clear hK K hE; (try simp only [AP]); (refine wpAnyT_done (by kernel_rfl) ?_ _); refine NoPanic.normal ?_; refine name_world ?_; intro w3 hw3; (have hB53 : Blk w3 (b4 + 1) 35 [.int .i64 y.nd.kind, .string y.nd.text, .int .i64 y.nd.n, .slice A o cp, .int .i64 t.line, .int .i64 t.col] := by rw [hw3]; first | exact ((HB5.out.set_ 4 (.int .i64 t.line)).set_ 5 (.int .i64 t.col)) | exact ((HB5.out.set_ 5 (.int .i64 t.col)).set_ 4 (.int .i64 t.line))); (have hk3 : Keeps (· = b4 + 1) W0 w3 := by rw [hw3]; repeat (first | exact Keeps.refl _ _ | refine Keeps.drew ?_ | (with_reducible refine Keeps.setCell ?_ (by intro _; rfl) _))); have HA := HAdd.out w3 hk3; have HA3 := Lib.hid HA.2; obtain ⟨ha1, ha2, ha3, ha4, ha5, ha6, ha7⟩ := HA.1; have HOwn := Lib.hid ha5; have HB3 : Hid (c.B ≤ w3.heap.size) := Nat.le_trans HB0.out ha1; (have hQ4 : Hid (∀ X, Keeps (fun k => (Value.slice An n cn).ownBlock = some k) w3 X → (X.cell? ⟨c.bp, 4, none⟩ = some (.slice An n cn) ∧ X.cell? ⟨b4 + 1, 0, none⟩ = some (.int .i64 y.nd.kind) ∧ X.cell? ⟨b4 + 1, 1, none⟩ = some (.string y.nd.text) ∧ X.cell? ⟨b4 + 1, 2, none⟩ = some (.int .i64 y.nd.n) ∧ X.cell? ⟨b4 + 1, 3, none⟩ = some (.slice A o cp) ∧ X.cell? ⟨b4 + 1, 4, none⟩ = some (.int .i64 t.line) ∧ X.cell? ⟨b4 + 1, 5, none⟩ = some (.int .i64 t.col))) := fun X hk => (have hy := hB53.keeps hk ha6; ⟨hk.cell ha2 ha7, hy.cell (i := 0) rfl, hy.cell (i := 1) rfl, hy.cell (i := 2) rfl, hy.cell (i := 3) rfl, hy.cell (i := 4) rfl, hy.cell (i := 5) rfl⟩)); clear hw3 hB53 hk3 HA ha1 ha2 ha3 ha4 ha5 ha6 ha7; go_upto_region 4 with (fail); refine wp_region_noPanic ?_; refine wp_region_till [10] (fun X => X.cell? ⟨c.bp, 4, none⟩ = some (.slice An n cn) ∧ X.cell? ⟨b4 + 1, 0, none⟩ = some (.int .i64 y.nd.kind) ∧ X.cell? ⟨b4 + 1, 1, none⟩ = some (.string y.nd.text) ∧ X.cell? ⟨b4 + 1, 2, none⟩ = some (.int .i64 y.nd.n) ∧ X.cell? ⟨b4 + 1, 3, none⟩ = some (.slice A o cp) ∧ X.cell? ⟨b4 + 1, 4, none⟩ = some (.int .i64 t.line) ∧ X.cell? ⟨b4 + 1, 5, none⟩ = some (.int .i64 t.col)) (by kernel_rfl) ?_ (fun hE => ?_)
        · first | exact hQ4.out _ hk1 | exact hQ4.out _ (Keeps.mono (show Keeps (fun _ => False) w3 _ from (by repeat (first | (with_reducible exact Keeps.refl _ _) | (with_reducible refine Keeps.drew ?_) | (with_reducible refine Keeps.drewN ?_ _) | (with_reducible refine Keeps.alloc ?_ _) | (with_reducible refine Keeps.trans ?_ (by assumption) (fun _ _ h => h))))) (fun _ _ h => h.elim))
        (have hS := hE (by kernel_rfl)); refine wpAnyT_pure (i := 0) (v := ?v4_0_1) rfl (by kernel_rfl) (fun _ _ _ h => h) (Or.inl ⟨by rfl, ?y4_0_1⟩) (fun _ => hS) ?_
        case y4_0_1 => (intro w hSw; go_simp; try with_reducible rfl)
        (try simp only [AP]); refine wpAnyT_pure (i := 1) (v := ?v4_1_2) rfl (by kernel_rfl) (fun _ _ _ h => h) (Or.inl ⟨by rfl, ?y4_1_2⟩) (fun _ => hS) ?_
        case y4_1_2 => (intro w hSw; go_simp; try with_reducible rfl)
        (try simp only [AP]); refine wpAnyT_pure (i := 2) (v := ?v4_2_3) rfl (by kernel_rfl) (fun _ _ _ h => h) (Or.inl ⟨by rfl, ?y4_2_3⟩) (fun _ => hS) ?_
        case y4_2_3 => (intro w hSw; go_simp; try with_reducible rfl)
        (try simp only [AP]); refine wpAnyT_pure (i := 3) (v := ?v4_3_4) rfl (by kernel_rfl) (fun _ _ _ h => h) (Or.inl ⟨by rfl, ?y4_3_4⟩) (fun _ => hS) ?_
        case y4_3_4 => (intro w hSw; go_simp; try with_reducible rfl)
        (try simp only [AP]); refine wpAnyT_take (i := 4) (v := ?v4_4_5) rfl (by kernel_rfl) (fun _ _ _ h => h) (Or.inl ⟨by rfl, ?y4_4_5⟩) hS ?_
        case y4_4_5 => (intro w hSw; (try dsimp only at hSw); go_simp; try with_reducible rfl)
        (try simp only [AP]); refine wpAnyT_take (i := 5) (v := ?v4_5_6) rfl (by kernel_rfl) (fun _ _ _ h => h) (Or.inl ⟨by rfl, ?y4_5_6⟩) hS ?_
        case y4_5_6 => (intro w hSw; (try dsimp only at hSw); go_simp; try with_reducible rfl)
        (try simp only [AP]); (refine wpAnyT_ready (rs := [6]) (by kernel_rfl) rfl ?_); refine AllT.cons rfl (fun K hK => ?_) ?_
        · go_simp; refine hK.out _ _ (fun _ => ?_) (fun hE => ?_)
          · first | exact hQ4.out _ hk1 | exact hQ4.out _ (Keeps.mono (show Keeps (fun _ => False) w3 _ from (by repeat (first | (with_reducible exact Keeps.refl _ _) | (with_reducible refine Keeps.drew ?_) | (with_reducible refine Keeps.drewN ?_ _) | (with_reducible refine Keeps.alloc ?_ _) | (with_reducible refine Keeps.trans ?_ (by assumption) (fun _ _ h => h))))) (fun _ _ h => h.elim))
          (have hS := hE (by kernel_rfl)); clear hK K hE; (try simp only [AP]); (refine wpAnyT_ready (rs := [7]) (by kernel_rfl) rfl ?_); refine AllT.cons rfl (fun K hK => ?_) ?_
          · (refine step_append_kept2 (W0 := w3) rfl (.tmp 25) (.tmp 27) 22 rfl c.B 35 i0 _ 6 72 Tryz.underlying22 hi0 hz0 hz1 hz2 rfl (by decide) (.slice An n cn) n (ns.flatMap Nv.cells) rfl HOwn.out (by repeat (first | (with_reducible exact Keeps.refl _ _) | (with_reducible refine Keeps.drew ?_) | (with_reducible refine Keeps.drewN ?_ _) | (with_reducible refine Keeps.alloc ?_ _) | (with_reducible refine Keeps.trans ?_ (by assumption) (fun _ _ h => h)))) _ _ #[.int .i64 y.nd.kind, .string y.nd.text, .int .i64 y.nd.n, .slice A o cp, .int .i64 t.line, .int .i64 t.col] rfl rfl (by first | exact heap_new_at (by simp) | exact heap_new_at (w := w3) (by simp)) (by simp [Value.oneCell']) HMq.out HBq.out HB3.out ?_; intro g1 cap1 w2 hown1 hk1 hkp1 hat1; have HTo := Lib.hid (HA3.out w2 g1 cap1 hk1 hown1 (hat1.imp id (fun h => Nat.le_trans (Keeps.size (show Keeps (fun _ => False) w3 _ from (by repeat (first | (with_reducible exact Keeps.refl _ _) | (with_reducible refine Keeps.drew ?_) | (with_reducible refine Keeps.drewN ?_ _) | (with_reducible refine Keeps.alloc ?_ _) | (with_reducible refine Keeps.trans ?_ (by assumption) (fun _ _ h => h)))))) h))); have hb2 := HTo.out.1); refine hK.out _ _ (fun _ => ?_) (fun hE => ?_)
            · first | exact hQ4.out _ hk1 | exact hQ4.out _ (Keeps.mono (show Keeps (fun _ => False) w3 _ from (by repeat (first | (with_reducible exact Keeps.refl _ _) | (with_reducible refine Keeps.drew ?_) | (with_reducible refine Keeps.drewN ?_ _) | (with_reducible refine Keeps.alloc ?_ _) | (with_reducible refine Keeps.trans ?_ (by assumption) (fun _ _ h => h))))) (fun _ _ h => h.elim))
            (have hS := hE (by kernel_rfl)); clear hK K hE; (try simp only [AP]); refine wpAnyT_pure (i := 8) (v := ?v4_8_7) rfl (by kernel_rfl) (fun _ _ _ h => h) (Or.inl ⟨by rfl, ?y4_8_7⟩) (fun _ => hS) ?_
            case y4_8_7 => (intro w hSw; go_simp; try with_reducible rfl)
            (try simp only [AP]); refine wpAnyT_pure (i := 9) (v := ?v4_9_8) rfl (by kernel_rfl) (fun _ _ _ h => h) (Or.inl ⟨by rfl, ?y4_9_8⟩) (fun _ => hS) ?_
            case y4_9_8 => (intro w hSw; go_simp; try with_reducible rfl)
            (try simp only [AP]); (refine wpAnyT_ready (rs := [10]) (by kernel_rfl) rfl ?_); refine AllT.cons rfl (fun K hK => ?_) ?_
            · (have z1 := hb2.cell (i := 4) rfl; have zf := hb2.free 4; have zl := hb2.lt; go_simp); (refine hK.out _ _ (fun he => Bool.noConfusion (show false = true from he)) (fun hE => ?_)); clear hK K hE; (try simp only [AP]); (refine wpAnyT_done (by kernel_rfl) ?_ _); refine NoPanic.normal ?_; obtain ⟨nv2, hp2, hkk2, hno2⟩ := HTo.out.2; have z1 : (w2.setCell ⟨c.bp, 4, none⟩ (.slice (some ⟨g1, 0, none⟩) (n + 1) cap1)).cell? ⟨c.bp, 4, none⟩ = some (.slice (some ⟨g1, 0, none⟩) (n + 1) cap1) := (hb2.set_ 4 _).cell (i := 4) rfl; (have HP2 : Hid (PaAt c (w2.setCell ⟨c.bp, 4, none⟩ (.slice (some ⟨g1, 0, none⟩) (n + 1) cap1)) nv2 bv (fun i => G i ∨ Kb i) (ns ++ [y]) { s with nodes := s.nodes ++ [y.nd] }) := hp2); have HK2 := Lib.hid hkk2; have HN2 := Lib.hid hno2; obtain ⟨w5, hw5⟩ : ∃ w5, w2.setCell ⟨c.bp, 4, none⟩ (.slice (some ⟨g1, 0, none⟩) (n + 1) cap1) = w5 := ⟨_, rfl⟩; rw [hw5] at z1 HP2 HK2 ⊢; have hnn := HNn.out; (have hnI : (n : Int) < 4096 := by omega); (have hnZ : (0 : Int) ≤ (n : Int) := by omega); clear hp2 hkk2 hno2 hb2 hown1 hk1 hkp1 hat1 HTo hw5 hnn hS hE; go_wp2_with fail; go_ret; exact ⟨rfl, nv2, HP2.out, HK2.out, HN2.out⟩
            exact AllT.nil
          exact AllT.nil
        exact AllT.nil
      exact AllT.nil
    exact AllT.nil
  refine AllT.cons rfl (fun K hK => ?_) ?_
  · (obtain ⟨_, _, z4, z5, y4, y5, zl⟩ := hQ3.out W0 (Keeps.refl _ _); go_simp); (refine hK.out _ _ (fun he => Bool.noConfusion (show false = true from he)) (fun hE => ?_)); clear hK K hE; (try simp only [AP]); (refine wpAnyT_ready (rs := [3]) (by kernel_rfl) rfl ?_); refine AllT.cons rfl (fun K hK => ?_) ?_
    · go_simp; (refine hK.out _ _ (fun he => Bool.noConfusion (show false = true from he)) (fun hE => ?_)); clear hK K hE; (try simp only [AP]); refine wpAnyT_pure (i := 6) (v := ?v3_6_6) rfl (by kernel_rfl) (fun _ _ _ h => h) (Or.inl ⟨by rfl, ?y3_6_6⟩) (fun he => Bool.noConfusion (show false = true from he)) ?_
      case y3_6_6 => (intro w hSw; go_simp; try with_reducible rfl)
      (try simp only [AP]); (refine wpAnyT_ready (rs := [7]) (by kernel_rfl) rfl ?_); refine AllT.cons rfl (fun K hK => ?_) ?_
      · (obtain ⟨_, _, z4, z5, y4, y5, zl⟩ := hQ3.out W0 (Keeps.refl _ _); go_simp); (refine hK.out _ _ (fun he => Bool.noConfusion (show false = true from he)) (fun hE => ?_)); clear hK K hE; (try simp only [AP]); (refine wpAnyT_done (by kernel_rfl) ?_ _); refine NoPanic.normal ?_; refine name_world ?_; intro w3 hw3; (have hB53 : Blk w3 (b4 + 1) 35 [.int .i64 y.nd.kind, .string y.nd.text, .int .i64 y.nd.n, .slice A o cp, .int .i64 t.line, .int .i64 t.col] := by rw [hw3]; first | exact ((HB5.out.set_ 4 (.int .i64 t.line)).set_ 5 (.int .i64 t.col)) | exact ((HB5.out.set_ 5 (.int .i64 t.col)).set_ 4 (.int .i64 t.line))); (have hk3 : Keeps (· = b4 + 1) W0 w3 := by rw [hw3]; repeat (first | exact Keeps.refl _ _ | refine Keeps.drew ?_ | (with_reducible refine Keeps.setCell ?_ (by intro _; rfl) _))); have HA := HAdd.out w3 hk3; have HA3 := Lib.hid HA.2; obtain ⟨ha1, ha2, ha3, ha4, ha5, ha6, ha7⟩ := HA.1; have HOwn := Lib.hid ha5; have HB3 : Hid (c.B ≤ w3.heap.size) := Nat.le_trans HB0.out ha1; (have hQ4 : Hid (∀ X, Keeps (fun k => (Value.slice An n cn).ownBlock = some k) w3 X → (X.cell? ⟨c.bp, 4, none⟩ = some (.slice An n cn) ∧ X.cell? ⟨b4 + 1, 0, none⟩ = some (.int .i64 y.nd.kind) ∧ X.cell? ⟨b4 + 1, 1, none⟩ = some (.string y.nd.text) ∧ X.cell? ⟨b4 + 1, 2, none⟩ = some (.int .i64 y.nd.n) ∧ X.cell? ⟨b4 + 1, 3, none⟩ = some (.slice A o cp) ∧ X.cell? ⟨b4 + 1, 4, none⟩ = some (.int .i64 t.line) ∧ X.cell? ⟨b4 + 1, 5, none⟩ = some (.int .i64 t.col))) := fun X hk => (have hy := hB53.keeps hk ha6; ⟨hk.cell ha2 ha7, hy.cell (i := 0) rfl, hy.cell (i := 1) rfl, hy.cell (i := 2) rfl, hy.cell (i := 3) rfl, hy.cell (i := 4) rfl, hy.cell (i := 5) rfl⟩)); clear hw3 hB53 hk3 HA ha1 ha2 ha3 ha4 ha5 ha6 ha7; go_upto_region 4 with (fail); refine wp_region_noPanic ?_; refine wp_region_till [10] (fun X => X.cell? ⟨c.bp, 4, none⟩ = some (.slice An n cn) ∧ X.cell? ⟨b4 + 1, 0, none⟩ = some (.int .i64 y.nd.kind) ∧ X.cell? ⟨b4 + 1, 1, none⟩ = some (.string y.nd.text) ∧ X.cell? ⟨b4 + 1, 2, none⟩ = some (.int .i64 y.nd.n) ∧ X.cell? ⟨b4 + 1, 3, none⟩ = some (.slice A o cp) ∧ X.cell? ⟨b4 + 1, 4, none⟩ = some (.int .i64 t.line) ∧ X.cell? ⟨b4 + 1, 5, none⟩ = some (.int .i64 t.col)) (by kernel_rfl) ?_ (fun hE => ?_)
        · first | exact hQ4.out _ hk1 | exact hQ4.out _ (Keeps.mono (show Keeps (fun _ => False) w3 _ from (by repeat (first | (with_reducible exact Keeps.refl _ _) | (with_reducible refine Keeps.drew ?_) | (with_reducible refine Keeps.drewN ?_ _) | (with_reducible refine Keeps.alloc ?_ _) | (with_reducible refine Keeps.trans ?_ (by assumption) (fun _ _ h => h))))) (fun _ _ h => h.elim))
        (have hS := hE (by kernel_rfl)); refine wpAnyT_pure (i := 0) (v := ?v4_0_1) rfl (by kernel_rfl) (fun _ _ _ h => h) (Or.inl ⟨by rfl, ?y4_0_1⟩) (fun _ => hS) ?_
        case y4_0_1 => (intro w hSw; go_simp; try with_reducible rfl)
        (try simp only [AP]); refine wpAnyT_pure (i := 1) (v := ?v4_1_2) rfl (by kernel_rfl) (fun _ _ _ h => h) (Or.inl ⟨by rfl, ?y4_1_2⟩) (fun _ => hS) ?_
        case y4_1_2 => (intro w hSw; go_simp; try with_reducible rfl)
        (try simp only [AP]); refine wpAnyT_pure (i := 2) (v := ?v4_2_3) rfl (by kernel_rfl) (fun _ _ _ h => h) (Or.inl ⟨by rfl, ?y4_2_3⟩) (fun _ => hS) ?_
        case y4_2_3 => (intro w hSw; go_simp; try with_reducible rfl)
        (try simp only [AP]); refine wpAnyT_pure (i := 3) (v := ?v4_3_4) rfl (by kernel_rfl) (fun _ _ _ h => h) (Or.inl ⟨by rfl, ?y4_3_4⟩) (fun _ => hS) ?_
        case y4_3_4 => (intro w hSw; go_simp; try with_reducible rfl)
        (try simp only [AP]); refine wpAnyT_take (i := 4) (v := ?v4_4_5) rfl (by kernel_rfl) (fun _ _ _ h => h) (Or.inl ⟨by rfl, ?y4_4_5⟩) hS ?_
        case y4_4_5 => (intro w hSw; (try dsimp only at hSw); go_simp; try with_reducible rfl)
        (try simp only [AP]); refine wpAnyT_take (i := 5) (v := ?v4_5_6) rfl (by kernel_rfl) (fun _ _ _ h => h) (Or.inl ⟨by rfl, ?y4_5_6⟩) hS ?_
        case y4_5_6 => (intro w hSw; (try dsimp only at hSw); go_simp; try with_reducible rfl)
        (try simp only [AP]); (refine wpAnyT_ready (rs := [6]) (by kernel_rfl) rfl ?_); refine AllT.cons rfl (fun K hK => ?_) ?_
        · go_simp; refine hK.out _ _ (fun _ => ?_) (fun hE => ?_)
          · first | exact hQ4.out _ hk1 | exact hQ4.out _ (Keeps.mono (show Keeps (fun _ => False) w3 _ from (by repeat (first | (with_reducible exact Keeps.refl _ _) | (with_reducible refine Keeps.drew ?_) | (with_reducible refine Keeps.drewN ?_ _) | (with_reducible refine Keeps.alloc ?_ _) | (with_reducible refine Keeps.trans ?_ (by assumption) (fun _ _ h => h))))) (fun _ _ h => h.elim))
          (have hS := hE (by kernel_rfl)); clear hK K hE; (try simp only [AP]); (refine wpAnyT_ready (rs := [7]) (by kernel_rfl) rfl ?_); refine AllT.cons rfl (fun K hK => ?_) ?_
          · (refine step_append_kept2 (W0 := w3) rfl (.tmp 25) (.tmp 27) 22 rfl c.B 35 i0 _ 6 72 Tryz.underlying22 hi0 hz0 hz1 hz2 rfl (by decide) (.slice An n cn) n (ns.flatMap Nv.cells) rfl HOwn.out (by repeat (first | (with_reducible exact Keeps.refl _ _) | (with_reducible refine Keeps.drew ?_) | (with_reducible refine Keeps.drewN ?_ _) | (with_reducible refine Keeps.alloc ?_ _) | (with_reducible refine Keeps.trans ?_ (by assumption) (fun _ _ h => h)))) _ _ #[.int .i64 y.nd.kind, .string y.nd.text, .int .i64 y.nd.n, .slice A o cp, .int .i64 t.line, .int .i64 t.col] rfl rfl (by first | exact heap_new_at (by simp) | exact heap_new_at (w := w3) (by simp)) (by simp [Value.oneCell']) HMq.out HBq.out HB3.out ?_; intro g1 cap1 w2 hown1 hk1 hkp1 hat1; have HTo := Lib.hid (HA3.out w2 g1 cap1 hk1 hown1 (hat1.imp id (fun h => Nat.le_trans (Keeps.size (show Keeps (fun _ => False) w3 _ from (by repeat (first | (with_reducible exact Keeps.refl _ _) | (with_reducible refine Keeps.drew ?_) | (with_reducible refine Keeps.drewN ?_ _) | (with_reducible refine Keeps.alloc ?_ _) | (with_reducible refine Keeps.trans ?_ (by assumption) (fun _ _ h => h)))))) h))); have hb2 := HTo.out.1); refine hK.out _ _ (fun _ => ?_) (fun hE => ?_)
            · first | exact hQ4.out _ hk1 | exact hQ4.out _ (Keeps.mono (show Keeps (fun _ => False) w3 _ from (by repeat (first | (with_reducible exact Keeps.refl _ _) | (with_reducible refine Keeps.drew ?_) | (with_reducible refine Keeps.drewN ?_ _) | (with_reducible refine Keeps.alloc ?_ _) | (with_reducible refine Keeps.trans ?_ (by assumption) (fun _ _ h => h))))) (fun _ _ h => h.elim))
            (have hS := hE (by kernel_rfl)); clear hK K hE; (try simp only [AP]); refine wpAnyT_pure (i := 8) (v := ?v4_8_7) rfl (by kernel_rfl) (fun _ _ _ h => h) (Or.inl ⟨by rfl, ?y4_8_7⟩) (fun _ => hS) ?_
            case y4_8_7 => (intro w hSw; go_simp; try with_reducible rfl)
            (try simp only [AP]); refine wpAnyT_pure (i := 9) (v := ?v4_9_8) rfl (by kernel_rfl) (fun _ _ _ h => h) (Or.inl ⟨by rfl, ?y4_9_8⟩) (fun _ => hS) ?_
            case y4_9_8 => (intro w hSw; go_simp; try with_reducible rfl)
            (try simp only [AP]); (refine wpAnyT_ready (rs := [10]) (by kernel_rfl) rfl ?_); refine AllT.cons rfl (fun K hK => ?_) ?_
            · (have z1 := hb2.cell (i := 4) rfl; have zf := hb2.free 4; have zl := hb2.lt; go_simp); (refine hK.out _ _ (fun he => Bool.noConfusion (show false = true from he)) (fun hE => ?_)); clear hK K hE; (try simp only [AP]); (refine wpAnyT_done (by kernel_rfl) ?_ _); refine NoPanic.normal ?_; obtain ⟨nv2, hp2, hkk2, hno2⟩ := HTo.out.2; have z1 : (w2.setCell ⟨c.bp, 4, none⟩ (.slice (some ⟨g1, 0, none⟩) (n + 1) cap1)).cell? ⟨c.bp, 4, none⟩ = some (.slice (some ⟨g1, 0, none⟩) (n + 1) cap1) := (hb2.set_ 4 _).cell (i := 4) rfl; (have HP2 : Hid (PaAt c (w2.setCell ⟨c.bp, 4, none⟩ (.slice (some ⟨g1, 0, none⟩) (n + 1) cap1)) nv2 bv (fun i => G i ∨ Kb i) (ns ++ [y]) { s with nodes := s.nodes ++ [y.nd] }) := hp2); have HK2 := Lib.hid hkk2; have HN2 := Lib.hid hno2; obtain ⟨w5, hw5⟩ : ∃ w5, w2.setCell ⟨c.bp, 4, none⟩ (.slice (some ⟨g1, 0, none⟩) (n + 1) cap1) = w5 := ⟨_, rfl⟩; rw [hw5] at z1 HP2 HK2 ⊢; have hnn := HNn.out; (have hnI : (n : Int) < 4096 := by omega); (have hnZ : (0 : Int) ≤ (n : Int) := by omega); clear hp2 hkk2 hno2 hb2 hown1 hk1 hkp1 hat1 HTo hw5 hnn hS hE; go_wp2_with fail; go_ret; exact ⟨rfl, nv2, HP2.out, HK2.out, HN2.out⟩
            exact AllT.nil
          exact AllT.nil
        exact AllT.nil
      exact AllT.nil
    exact AllT.nil
  exact AllT.nil
theorem kids_rp {w : World} {F : Nat → Prop} : ∀ (l : List Nat), (∀ i ∈ l, i < 4096) → RpAll w F (l.map kidD) (l.map kidC)
  | [], _ => by simp [RpAll]
  | x :: l, h => by
    rw [List.map_cons, rpAll_cons]
    refine ⟨[kidC x], l.map kidC, rfl, ?_, kids_rp l (fun i hi => h i (by simp [hi]))⟩
    unfold kidD
    rw [rp_int]
    have := h x (by simp)
    exact ⟨rfl, by simp [Lit.wf, IntKind.min, IntKind.max, IntKind.signed, IntKind.bits]; omega⟩
set_option maxRecDepth 100000 in
set_option maxHeartbeats 8000000 in
theorem pput_full {E : EnP} {L : List Loc} {s : Ps} {W : World} (hF : Fr c E 0 L s W) (hb : E.bad < 1000000) (t : Tok) (x : Nd) (kv : Value) (hfl : 4096 ≤ s.nodes.length) :
    Calls Tryz.prog 51 #[.pointer (some ⟨c.bp, 0, none⟩), .agg #[.int .i64 t.kind, .string t.text, .int .i64 t.n, .int .i64 t.line, .int .i64 t.col], .agg #[.int .i64 x.kind, .string x.text, .int .i64 x.n, kv, .int .i64 0, .int .i64 0]] W (fun e w' => e = failed ∧ ∃ s', put x s = .no s' ∧ FrNo c E L s' w') := by
  (have hr : put x s = Pa.fail 2 s := by unfold put; rw [if_pos hfl]); rw [hr]; obtain ⟨W0, hW0⟩ : ∃ W0, (W.alloc (.cells #[.int .i64 t.kind, .string t.text, .int .i64 t.n, .int .i64 t.line, .int .i64 t.col] 59)).alloc (.cells #[.int .i64 x.kind, .string x.text, .int .i64 x.n, kv, .int .i64 0, .int .i64 0] 35) = W0 := ⟨_, rfl⟩; (have hF0 : Fr c E 0 L s W0 := by rw [← hW0]; exact (hF.alloc _).alloc _); have HFl := Lib.hid (hF0.fail (T := Nat) 2 hb); obtain ⟨nv, bv, G, ns, hC⟩ := hF0; obtain ⟨An, cn, hnv⟩ := own_slc hC.pa.nod; (have hlen : ns.length = s.nodes.length := by rw [← hC.pa.nds]; simp); rw [hlen] at hnv; have c4 := hC.pa.box.cell (i := 4) rfl; rw [hnv] at c4; obtain ⟨n, hn⟩ : ∃ n, s.nodes.length = n := ⟨_, rfl⟩; rw [hn] at hfl c4; (have hg0 : decide ((4096 : Int) ≤ (n : Int)) = true := by simp; omega); (have hg1 : (4096 : Int) ≤ (n : Int) := by omega); have HW0 := Lib.hid hW0; clear hF hb hr hC hnv hlen hn hW0 hfl; go_enter Tryz.func51, Tryz.ntmps51; go_upto_region 1 with (fail); rw [HW0.out]; go_wp2_with fail
  with_reducible refine HFl.out.mono ?_
  rintro e w2 ⟨rfl, s2, h1, hq⟩; have hq := Lib.hid hq; have h1 := Lib.hid h1; go_wp2_with fail; exact ⟨rfl, rfl, _, h1.out, hq.out⟩
theorem Fr.put {E : EnP} {L : List Loc} {s : Ps} {W : World} {β : Type} {g : Nat → Pm β} {r : Rs β} {K : Ending → World → Prop} (hF : Fr c E 0 L s W) (hb : E.bad < 1000000) (t : Tok) (x : Nd) (k : Nat) (kv : Value) (L' : List Loc) (hk : x.kids = [] ∧ kv = .slice none 0 0 ∨ Loc.row k kv x.kids ∈ L) (hL : ∀ y ∈ L', y ∈ L ∧ y.key ≠ k)
    (hr : (Pa.put x >>= g) s = r) (hno : ∀ s' w', r = .no s' → FrNo c E L' s' w' → K failed w') (hok : ∀ i s' w', i < 4096 → Fr c E 0 L' s' w' → g i s' = r → K (.returned (kidC i)) w') :
    Calls Tryz.prog 51 #[.pointer (some ⟨c.bp, 0, none⟩), .agg #[.int .i64 t.kind, .string t.text, .int .i64 t.n, .int .i64 t.line, .int .i64 t.col], .agg #[.int .i64 x.kind, .string x.text, .int .i64 x.n, kv, .int .i64 0, .int .i64 0]] W K := by
  by_cases hfl : 4096 ≤ s.nodes.length
  · refine (pput_full hF hb t x kv hfl).mono ?_; rintro e w' ⟨rfl, s2, h1, hq⟩; exact hno s2 w' (hr.symm.trans (bind_no h1)) (hq.sub (fun y hy => (hL y hy).1))
  · (have hlt : s.nodes.length < 4096 := by omega); (have hp : Pa.put x s = .ok s.nodes.length { s with nodes := s.nodes ++ [x] } := by unfold Pa.put; rw [if_neg hfl]); obtain ⟨nv, bv, G, ns, h⟩ := hF
    have hform : ∃ A cp, kv = .slice A x.kids.length cp := by
      rcases hk with ⟨h1, h2⟩ | h1
      · exact ⟨none, 0, by rw [h1, h2]; rfl⟩
      · exact own_slc (h.ok _ h1).1
    obtain ⟨A, cp, hkv⟩ := hform
    have hs : Sl W (fun i => kv.ownBlock = some i) kidD x.kids kv := by
      rcases hk with ⟨h1, h2⟩ | h1
      · rw [h1, h2]; exact Sl.nil_
      · exact Sl.of_own (F := fun _ => False) (h.ok _ h1).1 rfl (kids_rp _ (h.ok _ h1).2) (fun _ h => h.elim) (fun _ h => h)
    have hKb : ∀ i, kv.ownBlock = some i → E.W.heap.size ≤ i ∧ i < W.heap.size ∧ ¬ OwnP c nv bv G i := fun i hi => by
      rcases hk with ⟨_, h2⟩ | h1
      · rw [h2] at hi; simp [Value.ownBlock] at hi
      · exact h.new _ h1 i hi
    (refine (pput_any (y := ⟨x, kv, t.line, t.col⟩) h.pa (Nat.le_trans h.base h.keep.size) t hkv hs (fun i hi => ⟨(hKb i hi).2.1, fun ho => (hKb i hi).2.2 (.inl ho), fun hf => by have := h.far i hf; have := hKb i hi; omega⟩) ⟨rfl, rfl⟩ hlt).mono ?_); rintro e w' ⟨rfl, nv2, hp2, hk2, hn2⟩; have hz := h.keep.size
    have hoP : ∀ i, OwnP c nv2 bv (fun i => G i ∨ kv.ownBlock = some i) i → OwnP c nv bv G i ∨ W.heap.size ≤ i ∨ kv.ownBlock = some i := fun i hi => by
      rcases hi with (e | e | e) | (e | e)
      · exact .inl (.inl (.inl e))
      · exact (hn2 i e).elim (fun e => .inl (.inl (.inr (.inl e)))) (fun e => .inr (.inl e))
      · exact .inl (.inl (.inr (.inr e)))
      · exact .inl (.inr e)
      · exact .inr (.inr e)
    have hdis : ∀ y ∈ L', ∀ i, y.at_ i → ¬ kv.ownBlock = some i := fun y hy i hi hx => by
      rcases hk with ⟨_, h2⟩ | h1
      · rw [h2] at hx; simp [Value.ownBlock] at hx
      · exact (hL y hy).2 (h.apart y (hL y hy).1 _ h1 i hi hx)
    refine hok _ _ _ hlt ⟨nv2, bv, _, _, hp2, h.keep.trans hk2 (fun i hi hx => ?_), fun i hi => .inl (h.sub i hi), fun i hi => ?_, h.far, h.low, h.cap, h.room, h.base, fun y hy => Loc.ok_keeps (h.ok y (hL y hy).1) hk2 (fun i hi ho => (h.new y (hL y hy).1 i hi).2.2 (.inl ho)), fun y hy i hi => ?_, fun y hy z hz => h.apart y (hL y hy).1 z (hL z hz).1⟩ ((bind_ok hp).symm.trans hr)
    · rcases h.own i (.inl hx) with (h1 | h1) | h1
      · exact h1
      · exact absurd hx (h.pa.old i (h.sub i h1)).2
      · omega
    · rcases hoP i hi with h1 | h1 | h1
      · exact h.own i h1
      · exact .inr (by omega)
      · exact .inr (hKb i h1).1
    · have h1 := h.new y (hL y hy).1 i hi; have := hk2.size; (refine ⟨h1.1, by omega, fun ho => ?_⟩); rcases hoP i ho with h2 | h2 | h2
      · exact h1.2.2 h2
      · omega
      · exact hdis y hy i hi h2
end
end Go.Proofs.YtcjoapmodaioiaaGreatDoor
end

section
namespace Go.Proofs.YtcjoapmodaioiaaGreatDoor
open Go.RowKit Go.Shelf Pa

theorem bt_kind (t : Tok) : t.bt.kind = t.kind := rfl
theorem bt_text (t : Tok) : t.bt.text = t.text := rfl
theorem bt_n (t : Tok) : t.bt.n = t.n := rfl
section
variable {α β γ : Type} {s : Ps}
def lp (F : α → Pm (α ⊕ β)) (n : Nat) (g : β → Pm γ) : α ⊕ β → Pm γ
  | .inl a => loop F n a >>= g
  | .inr b => g b
theorem loop_zero {F : α → Pm (α ⊕ β)} {a : α} {g : β → Pm γ} {r : Rs γ} (h : (loop F 0 a >>= g) s = r) : r = .out := by rw [← h]; rfl
theorem loop_step {F F0 : α → Pm (α ⊕ β)} {n : Nat} {a : α} {g : β → Pm γ} {r : Rs γ} (h : (loop F (n + 1) a >>= g) s = r) (hF : F = F0) : (F0 a >>= lp F n g) s = r := by
  subst hF
  rw [← h]
  show Pm.bind (F a) (lp F n g) s = Pm.bind (Pm.bind (F a) _) g s
  unfold Pm.bind
  cases F a s with
  | ok x s' => cases x <;> rfl
  | no s' => rfl
  | out => rfl
theorem split_loop {F : α → Pm (α ⊕ β)} {n : Nat} {a : α} {g : β → Pm γ} {r : Rs γ} (h : (loop F n a >>= g) s = r) : ∃ (F' : α → Pm (α ⊕ β)) (g' : β → Pm γ), F' = F ∧ g' = g ∧ (loop F' n a >>= g') s = r := ⟨F, g, rfl, rfl, h⟩
theorem m_tail (m : Pm α) : (m >>= pure) s = m s := by
  show Pm.bind m pure s = m s
  unfold Pm.bind
  cases m s <;> rfl
theorem to_bind {m : Pm α} {r : Rs α} (h : m s = r) : (m >>= pure) s = r := by rw [m_tail]; exact h
theorem m_ite_l (b : Prop) {_ : Decidable b} (x y : Pm α) : (if b then x else y) s = if b then x s else y s := by split <;> rfl
theorem m_ite_b (b : Prop) {_ : Decidable b} (x y : Pm α) (g : α → Pm β) : ((if b then x else y) >>= g) s = if b then (x >>= g) s else (y >>= g) s := by split <;> rfl
end
section
variable {c : Cx} {E : EnP} {L L' : List Loc} {s : Ps} {w : World}
theorem Fr.fail' (h : Fr c E 0 L s w) (e : Int) (hb : E.bad < 1000000) : Calls Tryz.prog 88 #[.pointer (some ⟨c.bp, 0, none⟩), .int .i64 e] w (fun r w' => r = failed ∧ FrNo c E L { s with bad := s.bad ++ [(e, s.pos)] } w') :=
  (h.fail (T := Unit) e hb).mono fun r w' hq => ⟨hq.1, by
    obtain ⟨s', h1, h2⟩ := hq.2
    have : s' = { s with bad := s.bad ++ [(e, s.pos)] } := by
      have h3 : (Rs.no { s with bad := s.bad ++ [(e, s.pos)] } : Rs Unit) = .no s' := h1
      injection h3 with h3
      exact h3.symm
    rw [← this]; exact h2⟩
theorem infoInt : (Tryz.prog.info? 3).map (fun i => (i.zero, i.size, i.bytes)) = some (some (.int .i64 0), 1, 8) := by kernel_rfl
theorem own_form2 {B n : Nat} {v : Value} {xs : List Value} (h : w.ownsRow B 3 1 v n xs) : ∃ A m cap, v = .slice A m cap ∧ Hid (m = n) := by
  obtain ⟨A, cp, h1, _⟩ := own_formP h
  exact ⟨A, n, cp, h1, rfl⟩
theorem Fr.wp_app {o : Oper} {a : Act} {K : Act → World → Prop} {Q : Exit → Act → World → Prop} (h : Fr c E 0 L s w) (k : Nat) {v : Value} {l : List Nat} (hx : Loc.row k v l ∈ L) (src x : Operand)
    (ho : o.op = .call { callee := .builtin .append, args := #[src, x], argTypes := #[33, 33] }) (hs : a.eval src = v) {g0 n0 : Nat} {i : Nat} (hnew : Loc.row n0 (.slice (some ⟨g0, 0, none⟩) 1 1) [i] ∈ L) (hi : i < 4096) (hxv : a.eval x = .slice (some ⟨g0, 0, none⟩) 1 1) (hl : l.length ≤ 10000000)
    (hL : ∀ y ∈ L', y ∈ L ∧ y.key ≠ k) (hK : ∀ v' w', Fr c E 0 (.row k v' (l ++ [i]) :: L') s w' → K (a.put o.dst v') w') : o.wp Tryz.prog a w K Q := by
  obtain ⟨i0, hi0, hz0, hz1, hz2⟩ := info_parts infoInt
  have hr := h.row hx
  have hn := (h.row hnew).1
  have hcell : w.heap[g0]? = some (.cells #[kidC i] 3 (0, 0)) := by
    rcases hn.2 with ⟨h1, _⟩ | ⟨g, cap, cur, h1, _, h3, _, _, h5, h6⟩
    · cases h1
    · simp only [Value.slice.injEq, Option.some.injEq, Addr.mk.injEq, and_true] at h1
      obtain ⟨rfl, _, rfl⟩ := h1
      rw [h3]
      have hsz : cur.toList.length = 1 := by rw [Array.length_toList]; simpa using h5
      have : cur.toList = [kidC i] := by
        rw [List.take_of_length_le (by simp only [List.length_cons, List.length_nil]; omega)] at h6
        exact h6
      rw [show cur = #[kidC i] from by rw [← Array.toArray_toList (xs := cur), this]]
  refine wp_append_lies w src x 33 ho E.W.heap.size 3 i0 _ 1 8 Tryz.underlying33 hi0 hz0 hz1 hz2 rfl (by omega) v l.length _ hs hr.1 ⟨g0, 0, none⟩ 1 1 [kidC i] hxv rfl (World.news_of_block (cs := #[kidC i]) (t := 3) (fr := (0, 0)) hcell) (by simp [Value.oneCell', kidC]) (by omega) (by unfold maxLen; omega) (by omega) h.size w.heap.size rfl ?_
  intro g cap w' hown hgrow hat hlt
  refine hK (.slice (some ⟨g, 0, none⟩) (l.length + 1) cap) w' (h.grow (v' := .slice (some ⟨g, 0, none⟩) (l.length + 1) cap) (l' := l ++ [i]) hx ((Keeps.refl _ _).grown hgrow (fun j hj _ => hj)) ?_ ?_ ?_ ?_)
  · simpa using hown
  · intro j hj
    rcases List.mem_append.1 hj with hj | hj
    · exact hr.2 j hj
    · rw [List.mem_singleton.1 hj]; exact hi
  · intro j hj
    have e1 : g = j := by simpa [Value.ownBlock] using hj
    rw [← e1]
    exact hat.imp id (fun e => by omega)
  · intro y hy
    rcases List.mem_cons.1 hy with hy | hy
    · exact .inl hy
    · exact .inr (hL y hy)
theorem Fr.wp_appR {o : Oper} {a : Act} {K : Act → World → Prop} {Q : Exit → Act → World → Prop} (h : Fr c E 0 L s w) (k : Nat) {v v2 : Value} {l l2 : List Nat} (hx : Loc.row k v l ∈ L) (src x : Operand)
    (ho : o.op = .call { callee := .builtin .append, args := #[src, x], argTypes := #[33, 33] }) (hs : a.eval src = v) {n0 : Nat} (hnew : Loc.row n0 v2 l2 ∈ L) (hxv : a.eval x = v2) (hl : l.length + l2.length ≤ 10000000)
    (hL : ∀ y ∈ L', y ∈ L ∧ y.key ≠ k) (hK : ∀ v' w', Fr c E 0 (.row k v' (l ++ l2) :: L') s w' → K (a.put o.dst v') w') : o.wp Tryz.prog a w K Q := by
  obtain ⟨i0, hi0, hz0, hz1, hz2⟩ := info_parts infoInt
  have hr := h.row hx
  have hn := h.row hnew
  obtain ⟨A, cp, hv2⟩ := own_slc hn.1
  subst hv2
  have hs2 : Sl w (fun _ => True) kidD l2 (.slice A l2.length cp) := Sl.of_own (F := fun _ => True) hn.1 rfl (kids_rp _ hn.2) (fun _ _ => trivial) (fun _ _ => trivial)
  refine wp_append_sl w src x 33 ho E.W.heap.size 3 i0 _ 1 8 Tryz.underlying33 hi0 hz0 hz1 hz2 rfl (by omega) v l.length _ hs hr.1 kidD (fun w F x cs hq => by unfold kidD at hq; rw [rp_int] at hq; rw [hq.1]; rfl) _ l2 A l2.length cp hxv hs2 (by unfold maxLen; omega) (by omega) h.size ?_
  intro v' w' news hnews hown hgrow hat
  have hnw : news = l2.map kidC := by
    have key : ∀ (m : List Nat) (ns : List Value), RpAll w (fun _ => True) (m.map kidD) ns → ns = m.map kidC := by
      intro m
      induction m with
      | nil => intro ns h; simpa [RpAll] using h
      | cons y m ih =>
        intro ns h
        rw [List.map_cons, rpAll_cons] at h
        obtain ⟨p, q, rfl, h1, h2⟩ := h
        unfold kidD at h1
        rw [rp_int] at h1
        rw [h1.1, ih _ h2]; rfl
    exact key _ _ hnews
  subst hnw
  refine hK v' w' (h.grow (v' := v') (l' := l ++ l2) hx ((Keeps.refl _ _).grown hgrow (fun j hj _ => hj)) ?_ ?_ ?_ ?_)
  · simpa using hown
  · intro j hj
    rcases List.mem_append.1 hj with hj | hj
    · exact hr.2 j hj
    · exact hn.2 j hj
  · intro j hj
    rcases hat with e | e
    · exact .inl (e ▸ hj)
    · rw [e] at hj
      have : w.heap.size = j := by simpa using hj
      exact .inr (by omega)
  · intro y hy
    rcases List.mem_cons.1 hy with hy | hy
    · exact .inl hy
    · exact .inr (hL y hy)
theorem Fr.wpl_app {ops : Array Oper} {rest : List Oper} {o : Oper} {a : Act} {Q : Exit → Act → World → Prop} (h : Fr c E 0 L s w) (hgd : o.guard = none) (k : Nat) {v : Value} {l : List Nat} (hx : Loc.row k v l ∈ L) (src x : Operand)
    (ho : o.op = .call { callee := .builtin .append, args := #[src, x], argTypes := #[33, 33] }) (hs : a.eval src = v) {g0 n0 : Nat} {i : Nat} (hnew : Loc.row n0 (.slice (some ⟨g0, 0, none⟩) 1 1) [i] ∈ L) (hi : i < 4096) (hxv : a.eval x = .slice (some ⟨g0, 0, none⟩) 1 1) (hl : l.length ≤ 10000000)
    (hL : ∀ y ∈ L', y ∈ L ∧ y.key ≠ k) (hK : ∀ v' w', Fr c E 0 (.row k v' (l ++ [i]) :: L') s w' → wpList Tryz.prog ops Q rest (a.put o.dst v') w') : wpList Tryz.prog ops Q (o :: rest) a w :=
  wpList_plain hgd fun _ hq => h.wp_app k hx src x ho hs hnew hi hxv hl hL fun v' w' h2 => hq _ _ (hK v' w' h2)
theorem Fr.wpl_appR {ops : Array Oper} {rest : List Oper} {o : Oper} {a : Act} {Q : Exit → Act → World → Prop} (h : Fr c E 0 L s w) (hgd : o.guard = none) (k : Nat) {v v2 : Value} {l l2 : List Nat} (hx : Loc.row k v l ∈ L) (src x : Operand)
    (ho : o.op = .call { callee := .builtin .append, args := #[src, x], argTypes := #[33, 33] }) (hs : a.eval src = v) {n0 : Nat} (hnew : Loc.row n0 v2 l2 ∈ L) (hxv : a.eval x = v2) (hl : l.length + l2.length ≤ 10000000)
    (hL : ∀ y ∈ L', y ∈ L ∧ y.key ≠ k) (hK : ∀ v' w', Fr c E 0 (.row k v' (l ++ l2) :: L') s w' → wpList Tryz.prog ops Q rest (a.put o.dst v') w') : wpList Tryz.prog ops Q (o :: rest) a w :=
  wpList_plain hgd fun _ hq => h.wp_appR k hx src x ho hs hnew hxv hl hL fun v' w' h2 => hq _ _ (hK v' w' h2)
theorem Fr.st_app {ops : Array Oper} {o : Oper} {a : Act} {K : Act → World → Prop} {Q : Exit → Act → World → Prop} {X : Prop} (h : Fr c E 0 L s w) (hgd : o.guard = none) (k : Nat) {v : Value} {l : List Nat} (hx : Loc.row k v l ∈ L) (src x : Operand)
    (ho : o.op = .call { callee := .builtin .append, args := #[src, x], argTypes := #[33, 33] }) (hs : a.eval src = v) {g0 n0 : Nat} {i : Nat} (hnew : Loc.row n0 (.slice (some ⟨g0, 0, none⟩) 1 1) [i] ∈ L) (hi : i < 4096) (hxv : a.eval x = .slice (some ⟨g0, 0, none⟩) 1 1) (hl : l.length ≤ 10000000)
    (hL : ∀ y ∈ L', y ∈ L ∧ y.key ≠ k) (hK : ∀ v' w', Fr c E 0 (.row k v' (l ++ [i]) :: L') s w' → K (a.put o.dst v') w') : if Region.wanted o (yielded ops a.tmps) = true then Oper.wp Tryz.prog o a w K Q else X := by
  have hw : Region.wanted o (yielded ops a.tmps) = true := by simp [Region.wanted, hgd]
  rw [if_pos hw]
  exact h.wp_app k hx src x ho hs hnew hi hxv hl hL hK
theorem Fr.st_appR {ops : Array Oper} {o : Oper} {a : Act} {K : Act → World → Prop} {Q : Exit → Act → World → Prop} {X : Prop} (h : Fr c E 0 L s w) (hgd : o.guard = none) (k : Nat) {v v2 : Value} {l l2 : List Nat} (hx : Loc.row k v l ∈ L) (src x : Operand)
    (ho : o.op = .call { callee := .builtin .append, args := #[src, x], argTypes := #[33, 33] }) (hs : a.eval src = v) {n0 : Nat} (hnew : Loc.row n0 v2 l2 ∈ L) (hxv : a.eval x = v2) (hl : l.length + l2.length ≤ 10000000)
    (hL : ∀ y ∈ L', y ∈ L ∧ y.key ≠ k) (hK : ∀ v' w', Fr c E 0 (.row k v' (l ++ l2) :: L') s w' → K (a.put o.dst v') w') : if Region.wanted o (yielded ops a.tmps) = true then Oper.wp Tryz.prog o a w K Q else X := by
  have hw : Region.wanted o (yielded ops a.tmps) = true := by simp [Region.wanted, hgd]
  rw [if_pos hw]
  exact h.wp_appR k hx src x ho hs hnew hxv hl hL hK
theorem Fr.kid1 (h : Fr c E 0 L s w) (k i : Nat) (hi : i < 4096) : Fr c E 0 (.row k (.slice (some ⟨w.heap.size, 0, none⟩) 1 1) [i] :: L) s (w.alloc (.cells #[.int .i64 (i : Int)] 3)) :=
  h.kids k [i] (by unfold maxLen; simp) (by simpa using hi)
theorem Fr.kid2 (h : Fr c E 0 L s w) (k i j : Nat) (hi : i < 4096) (hj : j < 4096) : Fr c E 0 (.row k (.slice (some ⟨w.heap.size, 0, none⟩) 2 2) [i, j] :: L) s (w.alloc (.cells #[.int .i64 (i : Int), .int .i64 (j : Int)] 3)) :=
  h.kids k [i, j] (by unfold maxLen; simp) (by intro x hx; simp at hx; omega)
theorem Fr.kid3 (h : Fr c E 0 L s w) (k i j q : Nat) (hi : i < 4096) (hj : j < 4096) (hq : q < 4096) : Fr c E 0 (.row k (.slice (some ⟨w.heap.size, 0, none⟩) 3 3) [i, j, q] :: L) s (w.alloc (.cells #[.int .i64 (i : Int), .int .i64 (j : Int), .int .i64 (q : Int)] 3)) :=
  h.kids k [i, j, q] (by unfold maxLen; simp) (by intro x hx; simp at hx; omega)
theorem Fr.putT {W : World} {r : Rs Nat} {K : Ending → World → Prop} (hF : Fr c E 0 L s W) (hb : E.bad < 1000000) (t : Tok) (x : Nd) (k : Nat) (kv : Value) (L' : List Loc) (hk : x.kids = [] ∧ kv = .slice none 0 0 ∨ Loc.row k kv x.kids ∈ L) (hL : ∀ y ∈ L', y ∈ L ∧ y.key ≠ k)
    (hr : Pa.put x s = r) (hno : ∀ s' w', r = .no s' → FrNo c E L' s' w' → K failed w') (hok : ∀ i s' w', i < 4096 → Fr c E 0 L' s' w' → r = .ok i s' → K (.returned (kidC i)) w') :
    Calls Tryz.prog 51 #[.pointer (some ⟨c.bp, 0, none⟩), .agg #[.int .i64 t.kind, .string t.text, .int .i64 t.n, .int .i64 t.line, .int .i64 t.col], .agg #[.int .i64 x.kind, .string x.text, .int .i64 x.n, kv, .int .i64 0, .int .i64 0]] W K :=
  hF.put hb t x k kv L' hk hL (to_bind hr) hno (fun i s' w' h1 h2 h3 => hok i s' w' h1 h2 h3.symm)
theorem Fr.down {β : Type} {g : Unit → Pm β} {r : Rs β} {K : Ending → World → Prop} (h : Fr c E 0 L s w) (hb : E.bad < 1000000) (hr : (Pa.down >>= g) s = r) (ho : r ≠ .out) (hno : ∀ s' w', r = .no s' → FrNo c E L s' w' → K failed w')
    (hok : ∀ s' w', Fr c { E with lo := E.lo + 1 } 0 L s' w' → g () s' = r → K (.returned (.tuple #[])) w') : Calls Tryz.prog 157 #[.pointer (some ⟨c.bp, 0, none⟩)] w K := by
  have hlow : E.lo ≤ s.deep := by obtain ⟨nv, bv, G, ns, h⟩ := h; exact h.low
  refine h.call down_any hb (fun e => ho (hr.symm.trans (bind_out e))) (fun s' w' e hq => hno s' w' (hr.symm.trans (bind_no e)) hq) (fun a s' e w' hm hv hq => ?_)
  have hs : s' = { s with deep := s.deep + 1 } := by
    unfold Pa.down at hm
    split at hm
    · cases hm
    · injection hm with _ h2; exact h2.symm
  subst hs
  obtain rfl := hv
  exact hok _ w' (hq.lower (by show E.lo + 1 ≤ s.deep + 1; omega)) ((bind_ok hm).symm.trans hr)
theorem pup_fr {r : Nat} (u : FrameMode) (h0 : 0 ≤ E.lo) (h : Fr c { E with lo := E.lo + 1 } r L s w) : CallsD Tryz.prog 158 #[.pointer (some ⟨c.bp, 0, none⟩)] u w (fun e u' w' => u' = u ∧ e = .returned (.tuple #[]) ∧ Fr c E r L { s with deep := s.deep - 1 } w') := by
  obtain ⟨nv, bv, G, ns, h⟩ := h
  have hl : E.lo + 1 ≤ s.deep := h.low
  refine (pup_any u h.pa (by omega)).mono ?_
  rintro e u' w' ⟨rfl, rfl, ht⟩
  refine ⟨rfl, rfl, ?_⟩
  obtain ⟨nv2, bv2, G2, ns2, q1, q2, q3, q4⟩ := ht
  have hk := q2
  have hz := h.keep.size
  have hcap := h.cap
  refine ⟨nv2, bv2, G2, ns2, q1, h.keep.trans q2 (fun i hi hx => ?_), fun i hi => q3 i (h.sub i hi), fun i hi => ?_, h.far, ?_, ?_, h.room, h.base, fun x hx => Loc.ok_keeps (h.ok x hx) q2 (fun i hi ho => (h.new x hx i hi).2.2 (.inl ho)), fun x hx i hi => ?_, h.apart⟩
  · rcases h.own i (.inl hx) with (h1 | h1) | h1
    · exact h1
    · exact absurd hx (h.pa.old i (h.sub i h1)).2
    · exact absurd (show E.W.heap.size ≤ i from h1) (Nat.not_le.2 hi)
  · rcases q4 i hi with h1 | h1
    · exact h.own i h1
    · exact .inr (Nat.le_trans hz h1)
  · show E.lo ≤ s.deep - 1; omega
  · show s.deep - 1 ≤ _; omega
  · have h1 := h.new x hx i hi
    have h3 := q2.size
    have h4 : i < w.heap.size := h1.2.1
    refine ⟨h1.1, Nat.lt_of_lt_of_le h4 h3, fun ho => ?_⟩
    rcases q4 i ho with h2 | h2
    · exact h1.2.2 h2
    · omega
section
variable {fn : Func} {a : Act} {R : Ending → World → Prop}
theorem up_ret {v : Value} (hd : a.defers = [{ target := .fn (.func 158) #[], args := #[.pointer (some ⟨c.bp, 0, none⟩)] }]) (h0 : 0 ≤ E.lo) (h : Fr c { E with lo := E.lo + 1 } 0 L s w) (hres : ∀ w', (results fn a.tmps).run Tryz.prog w' = .ok v w')
    (hR : ∀ w', Fr c E 0 [] { s with deep := s.deep - 1 } w' → R (.returned v) w') : bodyPostD Tryz.prog fn R Exit.ret a w := by
  show Leaves _ _ _ _ a.defers .returning w
  rw [hd]
  refine leaves_cons (f := 158) (args := #[.pointer (some ⟨c.bp, 0, none⟩)]) (by simp) (by simp [go_sem]) ?_
  refine (pup_fr .returning h0 h).mono ?_
  rintro e u' w' ⟨rfl, rfl, hq⟩
  exact ⟨v, hres w', hR w' (hq.sub (by simp))⟩
theorem up_no (hd : a.defers = [{ target := .fn (.func 158) #[], args := #[.pointer (some ⟨c.bp, 0, none⟩)] }]) (h0 : 0 ≤ E.lo) (h : FrNo c { E with lo := E.lo + 1 } L s w)
    (hR : ∀ w', FrNo c E [] s w' → R failed w') : bodyPostD Tryz.prog fn R (.panic [{ v := .iface 54 (.agg #[]), recovered := false }]) a w := by
  show Leaves _ _ _ _ a.defers (.panicking _) w
  rw [hd]
  obtain ⟨d, h⟩ := h
  refine leaves_cons (f := 158) (args := #[.pointer (some ⟨c.bp, 0, none⟩)]) (by simp) (by simp [go_sem]) ?_
  refine (pup_fr _ h0 h).mono ?_
  rintro e u' w' ⟨rfl, rfl, hq⟩
  exact hR w' ⟨d - 1, hq.sub (by simp)⟩
theorem up_no0 (hd : a.defers = []) (h : R failed w) : bodyPostD Tryz.prog fn R (.panic [{ v := .iface 54 (.agg #[]), recovered := false }]) a w := by
  show Leaves _ _ _ _ a.defers (.panicking _) w
  rw [hd]
  exact h
end
def AnyT (Q : Exit → Act → World → Prop) : Exit → Act → World → Prop
  | .panic ch, a, w => ∀ t, Q (.panic ch) { a with tmps := t } w
  | e, a, w => Q e a w
theorem wp_anyT {P : Program} {co : Code} {Q : Exit → Act → World → Prop} {a : Act} {w : World} (h : co.wp P (AnyT Q) a w) : co.wp P Q a w :=
  wp_mono h (fun e a w hq => by cases e <;> first | exact hq a.tmps | exact hq)
theorem AnyT.normal {Q : Exit → Act → World → Prop} {a : Act} {w : World} (h : Q .normal a w) : AnyT Q .normal a w := h
theorem AnyT.panic {Q : Exit → Act → World → Prop} {ch : List PanicEntry} {a : Act} {w : World} (h : ∀ t, Q (.panic ch) { a with tmps := t } w) : AnyT Q (.panic ch) a w := h
theorem Meth.mk0 {α : Type} {f : Nat} {args : Array Value} {m : Pm α} {val : α → Ending → Prop}
    (H : ∀ (E : EnP) (s : Ps) (r : Rs α) (W : World), Fr c E 0 [] s W → E.bad < 1000000 → m s = r → r ≠ .out → 0 ≤ E.lo → Calls Tryz.prog f args W (MRes c E val r)) : Meth c f args m val :=
  fun W nv bv G _ s h hB hb hc ho => H ⟨W, nv, bv, G, s.deep, s.bad.length⟩ s _ W (Fr.start' h hB hc) hb rfl ho h.deep.1
end
section
theorem NM : (∀ (L : List Bt) (n : Nat), Pa.typ L n = types L n .typ) ∧ (∀ (L : List Bt) (n : Nat), Pa.btype L n = types L n .btype) ∧ (∀ (L : List Bt) (n : Nat), Pa.atype L n = types L n .atype) ∧
    (∀ {β : Type} {s : Ps} (g : Unit → Pm β), (up >>= g) s = g () { s with deep := s.deep - 1 }) ∧ (∀ {α : Type} {s : Ps} (a : α), (pure a : Pm α) s = .ok a s) ∧ (∀ {α β : Type} {s : Ps} {g : α → Pm β} (a : α), ((pure a : Pm α) >>= g) s = g a s) ∧
    (∀ {β : Type} {L : List Bt} {s : Ps} (g : Bt → Pm β), (Pa.tok L >>= g) s = g (Pa.tokAt L s.pos) s) ∧ (∀ {β : Type} {L : List Bt} {s : Ps} (k : Int) (x : ByteArray) (g : Bool → Pm β), (Pa.is L k x >>= g) s = g (isB (Pa.tokAt L s.pos) k x) s) ∧
    (∀ {β : Type} {L : List Bt} {s : Ps} (x : ByteArray) (g : Bool → Pm β), (Pa.key L x >>= g) s = g (isB (Pa.tokAt L s.pos) 4 x) s) ∧ (∀ {β : Type} {L : List Bt} {s : Ps} (g : Bool → Pm β), (beginsT L >>= g) s = g (Pa.beginsType (Pa.tokAt L s.pos)) s) ∧
    (∀ {α β γ : Type} {m : Pm α} {g : α → Pm β} {s : Ps} (h : β → Pm γ), ((m >>= g) >>= h) s = (m >>= fun a => g a >>= h) s) ∧ (∀ {α : Type} {s : Ps} (b : Prop) {_ : Decidable b} (x y : Pm α), (if b then x else y) s = if b then x s else y s) ∧
    (∀ {α β : Type} {s : Ps} (b : Prop) {_ : Decidable b} (x y : Pm α) (g : α → Pm β), ((if b then x else y) >>= g) s = if b then (x >>= g) s else (y >>= g) s) ∧ (∀ {α : Type} {s : Ps} (e : Int), (Pa.fail e : Pm α) s = .no { s with bad := s.bad ++ [(e, s.pos)] }) ∧
    (∀ {α β : Type} {g : α → Pm β} {s : Ps} (e : Int), ((Pa.fail e : Pm α) >>= g) s = .no { s with bad := s.bad ++ [(e, s.pos)] }) ∧ (∀ (c : Cx) (s : Ps), Pa.tokAt (c.l.map Tok.bt) s.pos = (tokT c s).bt) ∧ (∀ t : Tok, t.bt.text = t.text) ∧ (∀ a b : Int, (a != b) = !(a == b)) ∧
    (∀ {α β γ : Type} (F : α → Pm (α ⊕ β)) (n : Nat) (g : β → Pm γ) (a : α), lp F n g (.inl a) = (loop F n a >>= g)) ∧ (∀ {α β γ : Type} (F : α → Pm (α ⊕ β)) (n : Nat) (g : β → Pm γ) (b : β), lp F n g (.inr b) = g b) ∧
    ((!true) = false) ∧ ((!false) = true) ∧ (∀ b, (b || false) = b) ∧ (∀ b, (b || true) = true) ∧ (∀ b, (true || b) = true) ∧ (∀ b, (false || b) = b) ∧ (∀ b, (b && true) = b) ∧ (∀ b, (b && false) = false) ∧ (∀ b, (true && b) = b) ∧ (∀ b, (false && b) = false) ∧
    ((false = true) = False) ∧ ((true = false) = False) ∧ (∀ {α : Type} {_ : Decidable True} (a b : α), (if True then a else b) = a) ∧ (∀ {α : Type} {_ : Decidable False} (a b : α), (if False then a else b) = b) ∧ (∀ b : Bool, (¬ b = true) = (b = false)) :=
  ⟨fun _ _ => rfl, fun _ _ => rfl, fun _ _ => rfl, fun _ => rfl, fun _ => rfl, fun _ => rfl, fun _ => rfl, fun _ _ _ => rfl, fun _ _ => rfl, fun _ => rfl, fun h => m_assoc h, fun b _ x y => m_ite_l b x y, fun b _ x y g => m_ite_b b x y g, fun _ => rfl, fun _ => rfl, tokT_bt, bt_text, fun _ _ => rfl, fun _ _ _ _ => rfl, fun _ _ _ _ => rfl,
    rfl, rfl, Bool.or_false, Bool.or_true, Bool.true_or, Bool.false_or, Bool.and_true, Bool.and_false, Bool.true_and, Bool.false_and, Bool.false_eq_true, Bool.true_eq_false, fun _ _ => if_pos trivial, fun _ _ => if_neg id, fun b => Bool.not_eq_true b⟩
theorem NB : ((!true) = false) ∧ ((!false) = true) := ⟨rfl, rfl⟩
theorem Fr.out {c : Cx} {E : EnP} {r : Nat} {L : List Loc} {s : Ps} {w : World} (h : Fr c E r L s w) : Fr c E r L s w := h
abbrev TC (t : Tok) : List Value := [.int .i64 t.kind, .string t.text, .int .i64 t.n, .int .i64 t.line, .int .i64 t.col]
theorem hidE {α : Type} (a : α) : ∃ t, Hid (a = t) := ⟨a, rfl⟩
theorem Blk.t5 {w : World} {g : Nat} {t : TypeId} {a b c d e : Value} (h : Blk w g t [a, b, c, d, e]) : w.cell? ⟨g, 0, none⟩ = some a ∧ w.cell? ⟨g, 1, none⟩ = some b ∧ w.cell? ⟨g, 2, none⟩ = some c ∧ w.cell? ⟨g, 3, none⟩ = some d ∧ w.cell? ⟨g, 4, none⟩ = some e := ⟨h.cell (i := 0) rfl, h.cell (i := 1) rfl, h.cell (i := 2) rfl, h.cell (i := 3) rfl, h.cell (i := 4) rfl⟩
theorem Blk.t6 {w : World} {g : Nat} {t : TypeId} {a b c d e f : Value} (h : Blk w g t [a, b, c, d, e, f]) : w.cell? ⟨g, 0, none⟩ = some a ∧ w.cell? ⟨g, 1, none⟩ = some b ∧ w.cell? ⟨g, 2, none⟩ = some c ∧ w.cell? ⟨g, 3, none⟩ = some d ∧ w.cell? ⟨g, 4, none⟩ = some e ∧ w.cell? ⟨g, 5, none⟩ = some f := ⟨h.cell (i := 0) rfl, h.cell (i := 1) rfl, h.cell (i := 2) rfl, h.cell (i := 3) rfl, h.cell (i := 4) rfl, h.cell (i := 5) rfl⟩
theorem Fr.boxT {c : Cx} {E : EnP} {r : Nat} {L : List Loc} {s : Ps} {w : World} (h : Fr c E r L s w) (k : Nat) (t : Tok) : ∃ b w', w.heap.size = b ∧ w.alloc (.cells #[.int .i64 t.kind, .string t.text, .int .i64 t.n, .int .i64 t.line, .int .i64 t.col] 59) = w' ∧ Fr c E r (.box k b 59 (TC t) :: L) s w' :=
  ⟨_, _, rfl, rfl, h.box k 59 (TC t)⟩
end
end Go.Proofs.YtcjoapmodaioiaaGreatDoor
end
