/- The parser: PaS, PaT, PaU, PaV, PaX. -/
import Derived.Test.YtcjoapmodaioiaaGreatDoorPaQ
section
set_option linter.unusedVariables false
set_option linter.unusedSimpArgs false
namespace Go.Proofs.YtcjoapmodaioiaaGreatDoor
open Go.RowKit Go.Shelf Pa
set_option maxRecDepth 100000
set_option maxHeartbeats 8000000

section
variable {c : Cx}
def recF (L : List Bt) (opn : Int) : Unit → Pm (Unit ⊕ Unit) := fun _ s =>
  let t := tokAt L s.pos
  if t.kind == 9 then .ok (.inr ()) s
  else if s.opn ≤ opn ∧ (opens t < 0 ∨ t.kind = 8 ∨ isB t 5 ⟨#[59]⟩ = true) then .ok (.inr ()) s
  else (do
    let _ ← next L
    return .inl () : Pm (Unit ⊕ Unit)) s
theorem recovered_eq (L : List Bt) (n : Nat) (opn : Int) : recovered L n opn = loop (recF L opn) n () := rfl
theorem rec_step {β : Type} (L : List Bt) (opn : Int) (g : Unit ⊕ Unit → Pm β) (s : Ps) : (recF L opn () >>= g) s =
    if (tokAt L s.pos).kind == 9 then g (.inr ()) s else if (decide (s.opn ≤ opn) && (decide (opens (tokAt L s.pos) < 0) || ((tokAt L s.pos).kind == 8) || isB (tokAt L s.pos) 5 ⟨#[59]⟩)) = true then g (.inr ()) s else (next L >>= fun _ => g (.inl ())) s := by
  have e : (s.opn ≤ opn ∧ (opens (tokAt L s.pos) < 0 ∨ (tokAt L s.pos).kind = 8 ∨ isB (tokAt L s.pos) 5 ⟨#[59]⟩ = true)) = ((decide (s.opn ≤ opn) && (decide (opens (tokAt L s.pos) < 0) || ((tokAt L s.pos).kind == 8) || isB (tokAt L s.pos) 5 ⟨#[59]⟩)) = true) := by
    simp [or_assoc]
  show Pm.bind _ g s = _
  unfold Pm.bind recF; dsimp only; by_cases h1 : ((tokAt L s.pos).kind == 9) = true
  · rw [if_pos h1, if_pos h1]
  · rw [if_neg h1, if_neg h1]; by_cases h2 : s.opn ≤ opn ∧ (opens (tokAt L s.pos) < 0 ∨ (tokAt L s.pos).kind = 8 ∨ isB (tokAt L s.pos) 5 ⟨#[59]⟩ = true)
    · rw [if_pos h2, if_pos (e ▸ h2)]
    · rw [if_neg h2, if_neg (e ▸ h2)]; exact m_assoc (m := next L) (g := fun _ => (pure (Sum.inl ()) : Pm (Unit ⊕ Unit))) g
theorem Fr.opn {E : EnP} {r : Nat} {L : List Loc} {s : Ps} {w : World} (h : Fr c E r L s w) : w.cell? ⟨c.bp, 3, none⟩ = some (.int .i64 s.opn) := by
  obtain ⟨nv, bv, G, ns, h⟩ := h; exact h.pa.box.cell (i := 3) rfl
theorem recovered_any (hS : TokSt c.l) (n : Nat) (hn : n ≤ 1000000) (o : Int) : Meth c 53 #[.pointer (some ⟨c.bp, 0, none⟩), .int .i64 o] (recovered (c.l.map Tok.bt) n o) vUnit := by
  (refine Meth.mk fun E s0 r W HF1 hb hr ho => ?_); have HN := Lib.hid (next_any hS); rw [recovered_eq] at hr; have hr := to_bind hr; have HB := Lib.hid hb; have HO := Lib.hid ho; clear hb ho; have HR := Lib.hid hr; clear hr; obtain ⟨t2, HT2⟩ := hidE (tokT c s0); (try simp only [NM, reduceIte, HT2.out] at HR); have fld0 := fldT0; have fld1 := fldT1; have fld2 := fldT2; go_enter Tryz.func53, Tryz.ntmps53; have hr := HR.out; clear HR; obtain ⟨F3, g3, hFF3, hGG3, hr⟩ := split_loop hr; have HFF3 := Lib.hid hFF3; have HGG3 := Lib.hid hGG3; have HR := Lib.hid hr; clear hr hFF3 hGG3; (have HF4 := HF1.sub (L' := []) (by simp)); clear HF1; go_wp2_with fail; go_loopg [] n (fun gk wr => ∃ (s5 : Ps), Fr c E 0 [] s5 wr ∧ Hid ((loop F3 gk () >>= g3) s5 = r))
  case atStart => exact ⟨s0, HF4.out, HR.out⟩
  case round =>
    obtain ⟨w3, rfl⟩ : ∃ w, w = wr := ⟨_, rfl⟩; clear HR HF4; obtain ⟨s3, HF5, hr⟩ := hrel; obtain _ | m3 := gk
    · exact absurd (loop_zero hr.out) HO.out
    have HR := Lib.hid (loop_step hr.out HFF3.out); clear hr; obtain ⟨t6, HT6⟩ := hidE (tokT c s3); (try simp only [NM, reduceIte, HT6.out] at HR); (try simp only [NM, reduceIte, rec_step] at HR); (try simp only [NM, reduceIte, HT6.out] at HR); go_wp2_with fail
    with_reducible refine (HF5.tok).mono ?_
    rintro e w7 ⟨rfl, HF8⟩; rw [HT6.out]; obtain ⟨q9, eq9⟩ : ∃ q, (t6.bt.kind == 9) = q := ⟨_, rfl⟩; (try simp only [NM, reduceIte, eq9] at HR); have hq9 : (t6.kind == 9) = q9 := eq9; (have nq9 : (t6.kind != 9) = !q9 := by rw [bne, hq9]); clear eq9; cases q9
    · simp only [NB] at nq9; (try simp only [NM, reduceIte] at HR); go_wp2_with fail
      with_reducible refine (HF8.tok).mono ?_
      rintro e w10 ⟨rfl, HF11⟩; rw [HT6.out]; go_upto_region 2 with (fail); obtain ⟨b12, w12, hb12, hw12, HF13⟩ := HF11.boxT 4 t6; rw [hw12, hb12]; clear hw12 hb12; obtain ⟨j0, j1, j2, j3, j4⟩ := HF13.b0.t5; have c3 := HF13.opn; obtain ⟨so, hso⟩ : ∃ x, s3.opn = x := ⟨_, rfl⟩; rw [hso] at c3; obtain ⟨q1, hq1⟩ : ∃ q, decide (so ≤ o) = q := ⟨_, rfl⟩; (have hso2 : decide (s3.opn ≤ o) = q1 := by rw [hso]; exact hq1); have HOp := Lib.hid (popens_any t6); obtain ⟨od, hod⟩ : ∃ x, opens t6.bt = x := ⟨_, rfl⟩; rw [hod] at HOp; obtain ⟨q2, hq2⟩ : ∃ q, decide (od < 0) = q := ⟨_, rfl⟩; (have hod2 : decide (opens t6.bt < 0) = q2 := by rw [hod]; exact hq2); (try simp only [NM, reduceIte, hso2, hod2] at HR); clear hso2 hod2 hso hod; cases q1
      · (try simp only [NM, reduceIte] at HR); go_wp2_with fail
        with_reducible refine HF13.bind HN.out HB.out HR.out HO.out ?_ ?_
        · rintro s9 w9 rfl hq9; go_wp2_with fail; exact ⟨rfl, rfl, hq9.sub (by simp)⟩
        rintro a14 s14 e w14 ⟨tk14, rfl, rfl, hwf14⟩ HF15 hr; clear j0 j1 j2 j3 j4; clear HR; have HR := Lib.hid hr; clear hr; obtain ⟨t16, HT16⟩ := hidE (tokT c s14); (try simp only [NM, reduceIte, HT16.out] at HR); obtain ⟨j0, j1, j2, j3, j4⟩ := HF15.b0.t5; go_wp2_with fail; go_roundg m3
        case measure => omega
        case rel => exact ⟨s14, HF15.sub (L' := []) (by simp), HR.out⟩
      · (try simp only [NM, reduceIte] at HR); go_wp2_with fail; refine (HOp.out _).mono ?_; rintro e w17 ⟨rfl, hk⟩; have HF18 := HF13.same hk; clear hk; clear j0 j1 j2 j3 j4; obtain ⟨j0, j1, j2, j3, j4⟩ := HF18.b0.t5; cases q2
        · (try simp only [NM, reduceIte] at HR); obtain ⟨q19, eq19⟩ : ∃ q, (t6.bt.kind == 8) = q := ⟨_, rfl⟩; (try simp only [NM, reduceIte, eq19] at HR); have hq19 : (t6.kind == 8) = q19 := eq19; (have nq19 : (t6.kind != 8) = !q19 := by rw [bne, hq19]); clear eq19; cases q19
          · simp only [NB] at nq19; (try simp only [NM, reduceIte] at HR); obtain ⟨q20, hq20⟩ : ∃ q, isB t6.bt 5 ⟨#[59]⟩ = q := ⟨_, rfl⟩; have HI20 := Lib.hid (HF18.is 5 ⟨#[59]⟩); rw [HT6.out, hq20] at HI20; (try simp only [NM, reduceIte, hq20] at HR); clear hq20; go_wp2_with fail
            with_reducible refine HI20.out.mono ?_
            rintro e w20 ⟨rfl, HF21⟩; clear j0 j1 j2 j3 j4; obtain ⟨j0, j1, j2, j3, j4⟩ := HF21.b0.t5; cases q20
            · (try simp only [NM, reduceIte] at HR); go_wp2_with fail
              with_reducible refine HF21.bind HN.out HB.out HR.out HO.out ?_ ?_
              · rintro s9 w9 rfl hq9; go_wp2_with fail; exact ⟨rfl, rfl, hq9.sub (by simp)⟩
              rintro a22 s22 e w22 ⟨tk22, rfl, rfl, hwf22⟩ HF23 hr; clear j0 j1 j2 j3 j4; clear HR; have HR := Lib.hid hr; clear hr; obtain ⟨t24, HT24⟩ := hidE (tokT c s22); (try simp only [NM, reduceIte, HT24.out] at HR); obtain ⟨j0, j1, j2, j3, j4⟩ := HF23.b0.t5; go_wp2_with fail; go_roundg m3
              case measure => omega
              case rel => exact ⟨s22, HF23.sub (L' := []) (by simp), HR.out⟩
            · (try simp only [NM, reduceIte] at HR); (try simp only [NM, reduceIte, HGG3.out] at HR); (try simp only [NM, reduceIte, HT6.out] at HR); have hr := HR.out; clear HR; subst hr; go_wp2_with fail; go_end0; exact ⟨rfl, HF21.sub (by simp)⟩
          · simp only [NB] at nq19; (try simp only [NM, reduceIte] at HR); (try simp only [NM, reduceIte, HGG3.out] at HR); (try simp only [NM, reduceIte, HT6.out] at HR); have hr := HR.out; clear HR; subst hr; go_wp2_with fail; go_end0; exact ⟨rfl, HF18.sub (by simp)⟩
        · (try simp only [NM, reduceIte] at HR); (try simp only [NM, reduceIte, HGG3.out] at HR); (try simp only [NM, reduceIte, HT6.out] at HR); have hr := HR.out; clear HR; subst hr; go_wp2_with fail; go_end0; exact ⟨rfl, HF18.sub (by simp)⟩
    · simp only [NB] at nq9; (try simp only [NM, reduceIte] at HR); (try simp only [NM, reduceIte, HGG3.out] at HR); (try simp only [NM, reduceIte, HT6.out] at HR); have hr := HR.out; clear HR; subst hr; go_wp2_with fail; go_end0; exact ⟨rfl, HF8.sub (by simp)⟩
end
end Go.Proofs.YtcjoapmodaioiaaGreatDoor
end

section
set_option linter.unusedVariables false
namespace Go.Proofs.YtcjoapmodaioiaaGreatDoor
open Go.RowKit Go.Shelf Pa

section
variable {c : Cx} {W W' : World} {bv : Value} {G : Nat → Prop} {ns : List Nv} {s : Ps} {A : Option Addr} {n cp : Nat}
theorem flat_take : ∀ (ns : List Nv) (k : Nat), (ns.flatMap Nv.cells).take (k * 6) = (ns.take k).flatMap Nv.cells
  | [], k => by simp
  | x :: ns, 0 => by simp
  | x :: ns, k + 1 => by
    have h6 : x.cells.length = 6 := rfl
    rw [List.flatMap_cons, List.take_succ_cons, List.flatMap_cons, ← flat_take ns k, List.take_append, h6, List.take_of_length_le (by rw [h6]; omega)]
    congr 2
    omega
theorem PaAt.cut (h : PaAt c W (.slice A n cp) bv G ns s) {k : Nat} (hk : k ≤ ns.length) (hK : Keeps (· = c.bp) W W')
    (hb : Blk W' c.bp 52 [c.lv, .int .i64 s.pos, .int .i64 0, .int .i64 s.opn, .slice A k cp, bv]) : PaAt c W' (.slice A k cp) bv G (ns.take k) { s with nodes := s.nodes.take k, deep := 0 } := by
  have hsame : (Value.slice A k cp).ownBlock = (Value.slice A n cp).ownBlock := by cases A <;> rfl
  have hT : ∀ i, OwnT c.bp (.slice A k cp) bv i ↔ OwnT c.bp (.slice A n cp) bv i := fun i => by unfold OwnT; rw [hsame]
  have hnN := h.nN
  have hnB := h.nB
  have hnod : W.ownsRow c.B 35 6 (.slice A k cp) k ((ns.take k).flatMap Nv.cells) := by
    have h1 := h.nod
    have hlen : (ns.take k).length = k := by rw [List.length_take]; omega
    have hl6 : ∀ l : List Nv, (l.flatMap Nv.cells).length = l.length * 6 := fun l => by
      induction l with
      | nil => rfl
      | cons x l ih => rw [List.flatMap_cons, List.length_append, ih, List.length_cons]; simp [Nv.cells]; omega
    refine ⟨by rw [hl6, hlen], ?_⟩
    rcases h1.2 with ⟨e1, e2⟩ | ⟨g, cap, cur, e1, e2, e3, e4, e5, e6, e7⟩
    · simp only [Value.slice.injEq] at e1
      obtain ⟨rfl, rfl, rfl⟩ := e1
      have : k = 0 := by omega
      subst this
      exact .inl ⟨rfl, rfl⟩
    · simp only [Value.slice.injEq] at e1
      obtain ⟨rfl, rfl, rfl⟩ := e1
      refine .inr ⟨g, cp, cur, rfl, e2, e3, by omega, e5, e6, ?_⟩
      rw [← flat_take, ← e7, List.take_take]
      congr 1
      omega
  refine ⟨hb, h.toks.keeps hK (fun i hi e => (h.far i hi).2 (.inl (.inl e))), fun i hi => ⟨Nat.lt_of_lt_of_le (h.far i hi).1 hK.size, fun ho => (h.far i hi).2 (ho.imp (hT i).1 id)⟩, ?_, by rw [List.map_take, h.nds], fun x hx => ?_, fun i hi => ⟨Nat.lt_of_lt_of_le (h.old i hi).1 hK.size, fun ho => (h.old i hi).2 ((hT i).1 ho)⟩, ?_, h.pos, h.opn, ⟨Int.le_refl _, by show (0 : Int) ≤ 101; omega⟩, by rw [List.length_take]; have := h.few; omega, h.nbad⟩
  · rw [show (ns.take k).length = k from by rw [List.length_take]; omega]
    exact own_keeps hnod hK (fun i hi e => hnN (by rw [← hsame, hi, e]))
  · exact (h.kids x (List.mem_of_mem_take hx)).keeps hK (fun i hi e => (h.old i hi).2 (.inl e))
  · exact own_keeps h.bad hK (fun i hi e => hnB (by rw [hi, e]))
end
end Go.Proofs.YtcjoapmodaioiaaGreatDoor
end

section
set_option linter.unusedVariables false
set_option linter.unusedSimpArgs false
namespace Go.Proofs.YtcjoapmodaioiaaGreatDoor
open Go.RowKit Go.Shelf Pa

section
variable {c : Cx}
theorem Fr.bump {E : EnP} {L : List Loc} {s : Ps} {w : World} (h : Fr c E 1 L s w) (hd : s.deep ≤ 100) : Fr c { E with bad := E.bad + 1 } 0 L s w := by
  obtain ⟨nv, bv, G, ns, h⟩ := h
  exact ⟨nv, bv, G, ns, h.pa, h.keep, h.sub, h.own, h.far, h.low, by show s.deep ≤ (100 : Int) + 0; omega, by have := h.room; show s.bad.length ≤ E.bad + 1 + 0; omega, h.base, h.ok, h.new, h.apart⟩
theorem Fr.cut {E : EnP} {r : Nat} {L : List Loc} {s : Ps} {w : World} (h : Fr c E r L s w) (hlo : E.lo ≤ 0) {k : Nat} (hk : k ≤ s.nodes.length) : ∃ A n cp, w.cell? ⟨c.bp, 4, none⟩ = some (.slice A n cp) ∧ w.cell? ⟨c.bp, 2, none⟩ = some (.int .i64 s.deep) ∧ w.frozen? ⟨c.bp, 4, none⟩ = false ∧ w.frozen? ⟨c.bp, 2, none⟩ = false ∧ c.bp < w.heap.size ∧ k ≤ n ∧ n ≤ cp ∧ cp ≤ maxLen ∧
    Fr c E r L { s with nodes := s.nodes.take k, deep := 0 } ((w.setCell ⟨c.bp, 4, none⟩ (.slice A k cp)).setCell ⟨c.bp, 2, none⟩ (.int .i64 0)) := by
  obtain ⟨nv, bv, G, ns, h⟩ := h
  obtain ⟨A, cp, hnv⟩ := own_slc h.pa.nod
  have hlen : ns.length = s.nodes.length := by rw [← h.pa.nds]; simp
  have hcp : ns.length ≤ cp ∧ cp ≤ maxLen := by
    have h2 := h.pa.nod.2
    rw [hnv] at h2
    rcases h2 with ⟨h1, h2⟩ | ⟨g, cap2, _, h1, _, _, h2, h3, _⟩
    · simp only [Value.slice.injEq] at h1
      obtain ⟨_, h4, rfl⟩ := h1
      exact ⟨by omega, by unfold maxLen; omega⟩
    · simp only [Value.slice.injEq] at h1
      obtain ⟨_, _, rfl⟩ := h1
      exact ⟨h2, h3⟩
  subst hnv
  have hbx := h.pa.box
  have hK : Keeps (· = c.bp) w ((w.setCell ⟨c.bp, 4, none⟩ (.slice A k cp)).setCell ⟨c.bp, 2, none⟩ (.int .i64 0)) := ((Keeps.refl (· = c.bp) w).setCell (p := ⟨c.bp, 4, none⟩) (fun _ => rfl) _).setCell (p := ⟨c.bp, 2, none⟩) (fun _ => rfl) _
  have hsame : (Value.slice A k cp).ownBlock = (Value.slice A ns.length cp).ownBlock := by cases A <;> rfl
  have hT : ∀ i, OwnT c.bp (.slice A k cp) bv i ↔ OwnT c.bp (.slice A ns.length cp) bv i := fun i => by unfold OwnT; rw [hsame]
  have hP : ∀ i, OwnP c (.slice A k cp) bv G i ↔ OwnP c (.slice A ns.length cp) bv G i := fun i => by unfold OwnP; rw [hT]
  refine ⟨A, ns.length, cp, hbx.cell (i := 4) rfl, hbx.cell (i := 2) rfl, hbx.free 4, hbx.free 2, hbx.lt, by omega, hcp.1, hcp.2, ?_⟩
  have hnl : ∀ x ∈ L, ∀ i, x.at_ i → ¬ i = c.bp := fun x hx i hi e => (h.new x hx i hi).2.2 (e ▸ .inl (.inl rfl))
  refine ⟨.slice A k cp, bv, G, ns.take k, h.pa.cut (by omega) hK ((hbx.set_ 4 _).set_ 2 _), h.keep.trans hK (fun i hi e => ?_), h.sub, fun i hi => h.own i ((hP i).1 hi), h.far, hlo, by show (0 : Int) ≤ 100 + (r : Int); omega, h.room, h.base, fun x hx => Loc.ok_keeps (h.ok x hx) hK (hnl x hx), fun x hx i hi => ?_, h.apart⟩
  · rw [e]; exact .inl rfl
  · have h1 := h.new x hx i hi
    exact ⟨h1.1, Nat.lt_of_lt_of_le h1.2.1 hK.size, fun ho => h1.2.2 ((hP i).1 ho)⟩
theorem gcl_idle (p0 p1 p2 p3 p4 : Value) (w : World) :
    CallsD Tryz.prog 90 #[p0, p1, p2, p3, p4] .returning w fun e u' w' => e = .returned (.tuple #[]) ∧ u' = .returning ∧ w' = w := by
  refine callsD_of_wpS Tryz.func90 rfl fun c₀ cs hu => ?_
  apply wpS_seq
  apply wpS_region
  simp [wpOpsS, go_sem, recoverD, hu, Tryz.ntmps90, Exit.thenS]
  apply wpS_seq
  apply wpS_seq
  apply wpS_region
  simp [wpOpsS, go_sem, Exit.thenS]
  refine wpS_cond (t := true) (by simp [Act.eval, Array.replicate]) ?_
  simp only [if_true]
  refine wpS_of_wp ?_
  go_wp2_with fail
  cases c₀
  simp_all [bodyPostS, results, Tryz.results90, Exit.thenS]
theorem Fr.nodes {E : EnP} {r : Nat} {L : List Loc} {s : Ps} {w : World} (h : Fr c E r L s w) : ∃ A cp, w.cell? ⟨c.bp, 4, none⟩ = some (.slice A s.nodes.length cp) := by
  obtain ⟨nv, bv, G, ns, h⟩ := h
  obtain ⟨A, cp, hnv⟩ := own_slc h.pa.nod
  have hlen : ns.length = s.nodes.length := by rw [← h.pa.nds]; simp
  refine ⟨A, cp, ?_⟩
  rw [← hlen, ← hnv]
  exact h.pa.box.cell (i := 4) rfl
theorem Fr.cutAt {E : EnP} {r : Nat} {L : List Loc} {s : Ps} {w : World} (h : Fr c E r L s w) (hlo : E.lo ≤ 0) {k : Nat} (hk : k ≤ s.nodes.length) {A : Option Addr} {n cp : Nat} (hc : w.cell? ⟨c.bp, 4, none⟩ = some (.slice A n cp)) :
    Fr c E r L { s with nodes := s.nodes.take k, deep := 0 } ((w.setCell ⟨c.bp, 4, none⟩ (.slice A k cp)).setCell ⟨c.bp, 2, none⟩ (.int .i64 0)) := by
  obtain ⟨A2, n2, cp2, c4, -, -, -, -, -, -, -, hF⟩ := h.cut hlo hk
  rw [hc] at c4
  simp only [Option.some.injEq, Value.slice.injEq] at c4
  obtain ⟨rfl, rfl, rfl⟩ := c4
  exact hF
theorem Fr.struct {E : EnP} {r : Nat} {L : List Loc} {s : Ps} {w : World} (h : Fr c E r L s w) : ∃ nv bv, Blk w c.bp 52 [c.lv, .int .i64 s.pos, .int .i64 s.deep, .int .i64 s.opn, nv, bv] ∧ ∀ x ∈ L, ∀ i, x.at_ i → ¬ i = c.bp := by
  obtain ⟨nv, bv, G, ns, h⟩ := h
  exact ⟨nv, bv, h.pa.box, fun x hx i hi e => (h.new x hx i hi).2.2 (e ▸ .inl (.inl rfl))⟩
end
end Go.Proofs.YtcjoapmodaioiaaGreatDoor
end

section
set_option linter.unusedVariables false
set_option linter.unusedSimpArgs false
namespace Go.Proofs.YtcjoapmodaioiaaGreatDoor
open Go.RowKit Go.Shelf Pa

section
variable {c : Cx}
theorem name_wp {P : Program} {co : Code} {Q : Exit → Act → World → Prop} {a : Act} {w : World} (h : ∀ w', w' = w → co.wp P Q a w') : co.wp P Q a w := h w rfl
set_option maxRecDepth 100000 in
set_option maxHeartbeats 8000000 in
theorem gcl_pan (hS : TokSt c.l) (n : Nat) (hn : n ≤ 1000000) {E : EnP} {s : Ps} {w : World} {bP bN bn bo bq k : Nat} {o : Int} (hF : Fr c E 1 [.box 1 bP 50 [.pointer (some ⟨c.bp, 0, none⟩)], .box 4 bN 3 [.int .i64 (k : Int)], .box 2 bn 3 [.int .i64 0], .box 3 bo 4 [.bool false], .box 5 bq 3 [.int .i64 o]] s w) (hlo : E.lo ≤ 0) (hb : E.bad + 1 < 1000000) (hk : k ≤ s.nodes.length)
    {r : Rs Unit} (hr : recovered (c.l.map Tok.bt) n o { s with nodes := s.nodes.take k, deep := 0 } = r) (ho : r ≠ .out) (hno : ∀ s', r ≠ .no s') (older : List PanicEntry) :
    CallsD Tryz.prog 90 #[.pointer (some ⟨bP, 0, none⟩), .pointer (some ⟨bN, 0, none⟩), .pointer (some ⟨bn, 0, none⟩), .pointer (some ⟨bo, 0, none⟩), .pointer (some ⟨bq, 0, none⟩)] (.panicking ({ v := .iface 54 (.agg #[]), recovered := false } :: older)) w
      (fun e u' w' => e = .returned (.tuple #[]) ∧ u' = .panicking ({ v := .iface 54 (.agg #[]), recovered := true } :: older) ∧ ∃ s', r = .ok () s' ∧ Fr c { E with bad := E.bad + 1 } 0 [.box 2 bn 3 [.int .i64 0], .box 3 bo 4 [.bool false]] s' w') := by
  have HF := Lib.hid hF; have HR := Lib.hid hr; have HO := Lib.hid ho; have HNo2 := Lib.hid hno; have HLo := Lib.hid hlo; have HKk := Lib.hid hk; have HB1 : Hid (E.bad + 1 < 1000000) := hb; have HRc := Lib.hid (recovered_any hS n hn o); have hsl : Hid (True) := trivial; clear hF hr ho hno hlo hk hb; (refine callsD_of_wpS Tryz.func90 rfl fun c₀ cs hu => ?_); apply wpS_seq; apply wpS_region; simp [wpOpsS, go_sem, recoverD, hu, Tryz.ntmps90, Exit.thenS]; apply wpS_seq; apply wpS_seq; apply wpS_region; simp [wpOpsS, go_sem, Exit.thenS]; (refine wpS_cond (t := false) (by simp [Act.eval, Array.replicate]) ?_); simp only [Bool.false_eq_true, if_false]; refine wpS_of_wp (wp_skip ?_); simp only [Exit.thenS]; refine wpS_of_wp ?_; simp only [Array.replicate_succ, Array.replicate_zero, List.push_toArray, List.append_toArray, List.nil_append, List.cons_append, List.setIfInBounds_toArray, List.set_cons_zero, List.set_cons_succ]; (have hta : ∀ w : World, (Instr.typeAssert (.iface 54 (.agg #[])) 20 54 true).run Tryz.prog w = .ok (.tuple #[.agg #[], .bool true]) w := fun _ => by kernel_rfl); go_upto_region 5 with (fail); clear hta; refine name_wp ?_; intro w1 hw1; (have hF1 : Fr c E 1 [.box 1 bP 50 [.pointer (some ⟨c.bp, 0, none⟩)], .box 4 bN 3 [.int .i64 (k : Int)], .box 2 bn 3 [.int .i64 0], .box 3 bo 4 [.bool false], .box 5 bq 3 [.int .i64 o]] s w1 := by rw [hw1]; first | exact HF.out.alloc _ | exact HF.out); clear hw1; obtain ⟨A, m, cp, c4, _, _, _, _, hkm, hmc, hcm, _⟩ := hF1.cut HLo.out HKk.out; have hFd := hF1.cutAt HLo.out HKk.out c4; obtain ⟨nv, bv, hB, hnl⟩ := hF1.drew.struct; have HB := Lib.hid hB; (have hbn := hF1.drew.blk (k := 2) (b := bn) (t := 3) (cs := [.int .i64 0]) (by simp)); (have hbo := hF1.drew.blk (k := 3) (b := bo) (t := 4) (cs := [.bool false]) (by simp)); have HBn := Lib.hid hbn; have HBo := Lib.hid hbo; (have HNn : Hid (bn ≠ c.bp) := hnl (.box 2 bn 3 [.int .i64 0]) (by simp) bn rfl); have HNo : Hid (bo ≠ c.bp) := hnl (.box 3 bo 4 [.bool false]) (by simp) bo rfl
  have HNb : Hid (bo ≠ bn) := fun e => by
    obtain ⟨_, _, _, _, hC⟩ := hF1; (have := hC.apart (.box 2 bn 3 [.int .i64 0]) (by simp) (.box 3 bo 4 [.bool false]) (by simp) bn rfl e.symm); simp [Loc.key] at this
  have HFd := Lib.hid hFd; have x1 := hF1.b0.cell (i := 0) rfl; have x2 := hF1.b1.cell (i := 0) rfl; have HQ : Hid (w1.cell? ⟨bP, 0, none⟩ = some (.pointer (some ⟨c.bp, 0, none⟩)) ∧ w1.cell? ⟨bN, 0, none⟩ = some (.int .i64 (k : Int)) ∧ w1.cell? ⟨c.bp, 4, none⟩ = some (.slice A m cp)) := ⟨x1, x2, c4⟩; (have hkI : (k : Int) ≤ (m : Int) := by omega); (have hkc : (k : Int) ≤ (cp : Int) := by omega); (have hk0 : (0 : Int) ≤ (k : Int) := by omega); (have hkc2 : k ≤ cp := by omega); clear hF1 hFd hB hnl hbn hbo x1 x2 c4; refine wp_region_till [10, 13, 14, 15] (fun X => X.cell? ⟨bP, 0, none⟩ = some (.pointer (some ⟨c.bp, 0, none⟩)) ∧ X.cell? ⟨bN, 0, none⟩ = some (.int .i64 (k : Int)) ∧ X.cell? ⟨c.bp, 4, none⟩ = some (.slice A m cp)) (by kernel_rfl) ?_ (fun hE => ?_)
  · exact HQ.out
  (have hS := hE (by kernel_rfl)); refine wpAnyT_take (i := 0) (v := ?v5_0_1) rfl (by kernel_rfl) (fun _ _ _ h => h) (Or.inl ⟨by rfl, ?y5_0_1⟩) hS ?_
  case y5_0_1 => (intro w hSw; (try dsimp only at hSw); go_simp; try with_reducible rfl)
  (try simp only [AP]); refine wpAnyT_take (i := 1) (v := ?v5_1_2) rfl (by kernel_rfl) (fun _ _ _ h => h) (Or.inl ⟨by rfl, ?y5_1_2⟩) hS ?_
  case y5_1_2 => (intro w hSw; (try dsimp only at hSw); go_simp; try with_reducible rfl)
  (try simp only [AP]); refine wpAnyT_take (i := 2) (v := ?v5_2_3) rfl (by kernel_rfl) (fun _ _ _ h => h) (Or.inl ⟨by rfl, ?y5_2_3⟩) hS ?_
  case y5_2_3 => (intro w hSw; (try dsimp only at hSw); go_simp; try with_reducible rfl)
  (try simp only [AP]); refine wpAnyT_pure (i := 3) (v := ?v5_3_4) rfl (by kernel_rfl) (fun _ _ _ h => h) (Or.inl ⟨by rfl, ?y5_3_4⟩) (fun _ => hS) ?_
  case y5_3_4 => (intro w hSw; go_simp; try with_reducible rfl)
  (try simp only [AP]); refine wpAnyT_pure (i := 4) (v := ?v5_4_5) rfl (by kernel_rfl) (fun _ _ _ h => h) (Or.inl ⟨by rfl, ?y5_4_5⟩) (fun _ => hS) ?_
  case y5_4_5 => (intro w hSw; go_simp; try with_reducible rfl)
  (try simp only [AP]); refine wpAnyT_take (i := 5) (v := ?v5_5_6) rfl (by kernel_rfl) (fun _ _ _ h => h) (Or.inl ⟨by rfl, ?y5_5_6⟩) hS ?_
  case y5_5_6 => (intro w hSw; (try dsimp only at hSw); go_simp; try with_reducible rfl)
  (try simp only [AP]); refine wpAnyT_take (i := 6) (v := ?v5_6_7) rfl (by kernel_rfl) (fun _ _ _ h => h) (Or.inl ⟨by rfl, ?y5_6_7⟩) hS ?_
  case y5_6_7 => (intro w hSw; (try dsimp only at hSw); go_simp; try with_reducible rfl)
  (try simp only [AP]); refine wpAnyT_pure (i := 7) (v := ?v5_7_8) rfl (by kernel_rfl) (fun _ _ _ h => h) (Or.inl ⟨by rfl, ?y5_7_8⟩) (fun _ => hS) ?_
  case y5_7_8 => (intro w hSw; go_simp; try with_reducible rfl)
  (try simp only [AP]); refine wpAnyT_pure (i := 8) (v := ?v5_8_9) rfl (by kernel_rfl) (fun _ _ _ h => h) (Or.inl ⟨by rfl, ?y5_8_9⟩) (fun _ => hS) ?_
  case y5_8_9 => (intro w hSw; go_simp; try with_reducible rfl)
  (try simp only [AP]); refine wpAnyT_pure (i := 9) (v := ?v5_9_10) rfl (by kernel_rfl) (fun _ _ _ h => h) (Or.inl ⟨by rfl, ?y5_9_10⟩) (fun _ => hS) ?_
  case y5_9_10 => (intro w hSw; go_simp; try with_reducible rfl)
  (try simp only [AP]); (refine wpAnyT_ready (rs := [10]) (by kernel_rfl) rfl ?_); refine AllT.cons rfl (fun K hK => ?_) ?_
  · (have z1 := HB.out.cell (i := 4) rfl; have zf := HB.out.free 4; have zl := HB.out.lt; go_simp); (refine hK.out _ _ (fun he => Bool.noConfusion (show false = true from he)) (fun hE => ?_)); clear hK K hE; (try simp only [AP]); refine wpAnyT_pure (i := 11) (v := ?v5_11_11) rfl (by kernel_rfl) (fun _ _ _ h => h) (Or.inl ⟨by rfl, ?y5_11_11⟩) (fun he => Bool.noConfusion (show false = true from he)) ?_
    case y5_11_11 => (intro w hSw; go_simp; try with_reducible rfl)
    (try simp only [AP]); refine wpAnyT_pure (i := 12) (v := ?v5_12_12) rfl (by kernel_rfl) (fun _ _ _ h => h) (Or.inl ⟨by rfl, ?y5_12_12⟩) (fun he => Bool.noConfusion (show false = true from he)) ?_
    case y5_12_12 => (intro w hSw; go_simp; try with_reducible rfl)
    (try simp only [AP]); (refine wpAnyT_ready (rs := [13]) (by kernel_rfl) rfl ?_); refine AllT.cons rfl (fun K hK => ?_) ?_
    · (have hb2 := HB.out.set_ 4 (.slice A k cp); have z1 := hb2.cell (i := 2) rfl; have zf := hb2.free 2; have zl := hb2.lt; go_simp); (refine hK.out _ _ (fun he => Bool.noConfusion (show false = true from he)) (fun hE => ?_)); clear hK K hE; (try simp only [AP]); (refine wpAnyT_ready (rs := [14]) (by kernel_rfl) rfl ?_); refine AllT.cons rfl (fun K hK => ?_) ?_
      · (have y1 : w1.cell? ⟨bn, 0, none⟩ = some (.int .i64 0) := HBn.out.cell (i := 0) rfl; have y2 : w1.frozen? ⟨bn, 0, none⟩ = false := HBn.out.free 0; have y3 : bn < w1.heap.size := HBn.out.lt; have n1 := HNn.out; have n2 := Ne.symm HNn.out; have hb3 := (HBn.out.far (p := ⟨c.bp, 4, none⟩) HNn.out (.slice A k cp)).far (p := ⟨c.bp, 2, none⟩) HNn.out (.int .i64 0); have z1 := hb3.cell (i := 0) rfl; have zf := hb3.free 0; have zl := hb3.lt; go_simp); (refine hK.out _ _ (fun he => Bool.noConfusion (show false = true from he)) (fun hE => ?_)); clear hK K hE; (try simp only [AP]); (refine wpAnyT_ready (rs := [15]) (by kernel_rfl) rfl ?_); refine AllT.cons rfl (fun K hK => ?_) ?_
        · (have y1 : w1.cell? ⟨bo, 0, none⟩ = some (.bool false) := HBo.out.cell (i := 0) rfl; have y2 : w1.frozen? ⟨bo, 0, none⟩ = false := HBo.out.free 0; have y3 : bo < w1.heap.size := HBo.out.lt; have n1 := HNo.out; have n2 := Ne.symm HNo.out; have n3 := HNb.out; have n4 := Ne.symm HNb.out; have hb3 := ((HBo.out.far (p := ⟨c.bp, 4, none⟩) HNo.out (.slice A k cp)).far (p := ⟨c.bp, 2, none⟩) HNo.out (.int .i64 0)).far (p := ⟨bn, 0, none⟩) HNb.out (.int .i64 0); have z1 := hb3.cell (i := 0) rfl; have zf := hb3.free 0; have zl := hb3.lt; go_simp); (refine hK.out _ _ (fun he => Bool.noConfusion (show false = true from he)) (fun hE => ?_)); clear hK K hE; (try simp only [AP]); (refine wpAnyT_done (by kernel_rfl) ?_ _); skip; obtain ⟨w2, hw2⟩ : ∃ x, ((((w1.setCell ⟨c.bp, 4, none⟩ (.slice A k cp)).setCell ⟨c.bp, 2, none⟩ (.int .i64 0)).setCell ⟨bn, 0, none⟩ (.int .i64 0)).setCell ⟨bo, 0, none⟩ (.bool false)).drew = x := ⟨_, rfl⟩; rw [hw2]; (have hF2 := (((HFd.out.set (k := 2) (b := bn) (t := 3) (cs := [.int .i64 0]) (by simp) 0 (.int .i64 0) (L' := [.box 1 bP 50 [.pointer (some ⟨c.bp, 0, none⟩)], .box 4 bN 3 [.int .i64 (k : Int)], .box 2 bn 3 [.int .i64 0], .box 3 bo 4 [.bool false], .box 5 bq 3 [.int .i64 o]]) (by simp [Loc.key])).set (k := 3) (b := bo) (t := 4) (cs := [.bool false]) (by simp) 0 (.bool false) (L' := [.box 1 bP 50 [.pointer (some ⟨c.bp, 0, none⟩)], .box 4 bN 3 [.int .i64 (k : Int)], .box 2 bn 3 [.int .i64 0], .box 3 bo 4 [.bool false], .box 5 bq 3 [.int .i64 o]]) (by simp [Loc.key]))).drew); rw [hw2] at hF2; have x0 := hF2.b0.cell (i := 0) rfl; (have x4 := (hF2.blk (k := 5) (b := bq) (t := 3) (cs := [.int .i64 o]) (by simp)).cell (i := 0) rfl); (have HF3 := Lib.hid ((hF2.bump (by show (0 : Int) ≤ 100; omega)).sub (L' := [.box 2 bn 3 [.int .i64 0], .box 3 bo 4 [.bool false]]) (by simp))); clear hF2 hw2 hS; go_wp2_with fail; refine HF3.out.tail HRc.out HB1.out HR.out HO.out ?_ ?_
          · intro s9 w9 hr9 hq9; exact absurd hr9 (HNo2.out s9)
          intro a9 s9 e9 w9 hv9 hF9 hr9; obtain rfl := hv9; have HF9 := Lib.hid hF9; have HR9 := Lib.hid hr9; clear hF9 hr9; go_wp2_with fail; exact ⟨rfl, _, rfl, .tuple #[], by simp [results, Tryz.results90], rfl, rfl, s9, HR9.out, HF9.out⟩
        exact AllT.nil
      exact AllT.nil
    exact AllT.nil
  exact AllT.nil
end
end Go.Proofs.YtcjoapmodaioiaaGreatDoor
end

section
set_option linter.unusedVariables false
set_option linter.unusedSimpArgs false
namespace Go.Proofs.YtcjoapmodaioiaaGreatDoor
open Go.RowKit Go.Shelf Pa

section
variable {c : Cx}
def gval (o : Option Nat) (e : Ending) : Prop := match o with
  | none => e = .returned (.tuple #[.int .i64 0, .bool false])
  | some x => e = .returned (.tuple #[kidC x, .bool true]) ∧ x < 4096
theorem loop_no {α β : Type} {F : α → Pm (α ⊕ β)} (hF : ∀ a s s', F a s ≠ .no s') : ∀ (n : Nat) (a : α) (s s' : Ps), loop F n a s ≠ .no s'
  | 0, _, _, _ => fun h => by cases h
  | n + 1, a, s, s' => fun h => by
    have h2 : Pm.bind (F a) _ s = .no s' := h
    unfold Pm.bind at h2
    cases hx : F a s with
    | no s2 => exact hF a s s2 hx
    | out => rw [hx] at h2; cases h2
    | ok x s2 =>
      rw [hx] at h2
      cases x with
      | inl a2 => exact loop_no hF n a2 s2 s' h2
      | inr b => cases h2
theorem recovered_no (L : List Bt) (n : Nat) (o : Int) (s s' : Ps) : recovered L n o s ≠ .no s' := by
  rw [recovered_eq]; (refine loop_no (fun _ s s' h => ?_) n () s s'); unfold recF at h; dsimp only at h; split at h
  · cases h
  · split at h
    · cases h
    · obtain ⟨t2, s2, hn⟩ : ∃ t2 s2, next L s = .ok t2 s2 := by
        unfold next; split <;> exact ⟨_, _, rfl⟩
      (have h2 := (bind_ok (m := next L) (g := fun _ => (pure (Sum.inl ()) : Pm (Unit ⊕ Unit))) hn).symm.trans h); cases h2
theorem guarded_yes {L : List Bt} {n x : Nat} {s s' : Ps} (h : decl L n s = .ok x s') : guarded L n s = .ok (some x) s' := by unfold guarded; rw [h]
theorem guarded_no {L : List Bt} {n : Nat} {s s' : Ps} (h : decl L n s = .no s') : guarded L n s = match recovered L n s.opn { s' with nodes := s'.nodes.take s.nodes.length, deep := 0 } with | .ok _ s2 => .ok none s2 | .no s2 => .no s2 | .out => .out := by
  unfold guarded; rw [h]
  show Pm.bind _ _ _ = _
  unfold Pm.bind; cases recovered L n s.opn { s' with nodes := s'.nodes.take s.nodes.length, deep := 0 } <;> rfl
theorem Fr.badup {E : EnP} {L : List Loc} {s : Ps} {w : World} (h : Fr c E 0 L s w) (k : Nat) : Fr c { E with bad := E.bad + k } 0 L s w := by
  obtain ⟨nv, bv, G, ns, h⟩ := h; exact ⟨nv, bv, G, ns, h.pa, h.keep, h.sub, h.own, h.far, h.low, h.cap, by have := h.room; show s.bad.length ≤ E.bad + k + 0; omega, h.base, h.ok, h.new, h.apart⟩
theorem gres {tmps : Array Value} {w : World} {b2 b3 : Nat} {x : Int} {y : Bool} (h2 : tmps.getD 2 undef = .pointer (some ⟨b2, 0, none⟩)) (h3 : tmps.getD 3 undef = .pointer (some ⟨b3, 0, none⟩)) (c2 : w.cell? ⟨b2, 0, none⟩ = some (.int .i64 x)) (c3 : w.cell? ⟨b3, 0, none⟩ = some (.bool y)) :
    (results Tryz.f52 tmps).run Tryz.prog w = .ok (.tuple #[.int .i64 x, .bool y]) w := by
  (have h2' : tmps[2]?.getD undef = .pointer (some ⟨b2, 0, none⟩) := by simpa using h2); (have h3' : tmps[3]?.getD undef = .pointer (some ⟨b3, 0, none⟩) := by simpa using h3); simp [results, Tryz.results52, h2', h3', asAddr, c2, c3, go_sem]
theorem gret {E : EnP} {s : Ps} {w : World} {a : Act} {bP bN b2 b3 bq x : Nat} {v4 v5 : Value} {R : Ending → World → Prop} (hd : a.defers = [{ target := .fn (.func 90) #[.pointer (some ⟨bP, 0, none⟩), .pointer (some ⟨bN, 0, none⟩), .pointer (some ⟨b2, 0, none⟩), .pointer (some ⟨b3, 0, none⟩), .pointer (some ⟨bq, 0, none⟩)], args := #[] }])
    (h2 : a.tmps.getD 2 undef = .pointer (some ⟨b2, 0, none⟩)) (h3 : a.tmps.getD 3 undef = .pointer (some ⟨b3, 0, none⟩)) (hF : Fr c E 0 [.box 1 bP 50 [.pointer (some ⟨c.bp, 0, none⟩)], .box 4 bN 3 [v4], .box 2 b2 3 [.int .i64 0], .box 3 b3 4 [.bool false], .box 5 bq 3 [v5]] s w)
    (hR : ∀ w', Fr c { E with bad := E.bad + 1 } 0 [] s w' → R (.returned (.tuple #[kidC x, .bool true])) w') : bodyPostD Tryz.prog Tryz.f52 R Exit.ret a ((w.setCell ⟨b2, 0, none⟩ (.int .i64 (x : Int))).setCell ⟨b3, 0, none⟩ (.bool true)) := by
  show Leaves _ _ _ _ a.defers .returning _
  rw [hd]; (refine leaves_cons (f := 90) (args := #[.pointer (some ⟨bP, 0, none⟩), .pointer (some ⟨bN, 0, none⟩), .pointer (some ⟨b2, 0, none⟩), .pointer (some ⟨b3, 0, none⟩), .pointer (some ⟨bq, 0, none⟩)]) (by simp) (by simp [go_sem]) ?_); (have hF2 := (hF.set (k := 2) (b := b2) (t := 3) (cs := [.int .i64 0]) (by simp) 0 (.int .i64 (x : Int)) (L' := [.box 2 b2 3 [.int .i64 (x : Int)], .box 3 b3 4 [.bool false]]) (by simp [Loc.key])).set (k := 3) (b := b3) (t := 4) (cs := [.bool false]) (by simp) 0 (.bool true) (L' := [.box 2 b2 3 [.int .i64 (x : Int)], .box 3 b3 4 [.bool true]]) (by simp [Loc.key])); refine (gcl_idle _ _ _ _ _ _).mono ?_; rintro e u' w' ⟨rfl, rfl, rfl⟩; exact ⟨_, gres h2 h3 (hF2.b0.cell (i := 0) rfl) (hF2.b1.cell (i := 0) rfl), hR _ ((hF2.badup 1).sub (by simp))⟩
theorem gno (hS : TokSt c.l) (n : Nat) (hn : n ≤ 1000000) {E : EnP} {s : Ps} {w : World} {a : Act} {bP bN b2 b3 bq k : Nat} {o : Int} {R : Ending → World → Prop} (hd : a.defers = [{ target := .fn (.func 90) #[.pointer (some ⟨bP, 0, none⟩), .pointer (some ⟨bN, 0, none⟩), .pointer (some ⟨b2, 0, none⟩), .pointer (some ⟨b3, 0, none⟩), .pointer (some ⟨bq, 0, none⟩)], args := #[] }])
    (h2 : a.tmps.getD 2 undef = .pointer (some ⟨b2, 0, none⟩)) (h3 : a.tmps.getD 3 undef = .pointer (some ⟨b3, 0, none⟩)) (hF : FrNo c E [.box 1 bP 50 [.pointer (some ⟨c.bp, 0, none⟩)], .box 4 bN 3 [.int .i64 (k : Int)], .box 2 b2 3 [.int .i64 0], .box 3 b3 4 [.bool false], .box 5 bq 3 [.int .i64 o]] s w)
    (hlo : E.lo ≤ 0) (hb : E.bad + 1 < 1000000) (hk : k ≤ s.nodes.length) (ho : recovered (c.l.map Tok.bt) n o { s with nodes := s.nodes.take k, deep := 0 } ≠ .out)
    (hR : ∀ s2 w2, recovered (c.l.map Tok.bt) n o { s with nodes := s.nodes.take k, deep := 0 } = .ok () s2 → Fr c { E with bad := E.bad + 1 } 0 [] s2 w2 → R (.returned (.tuple #[.int .i64 0, .bool false])) w2) :
    bodyPostD Tryz.prog Tryz.f52 R (.panic [{ v := .iface 54 (.agg #[]), recovered := false }]) a w := by
  show Leaves _ _ _ _ a.defers (.panicking _) w
  rw [hd]; obtain ⟨d, hF⟩ := hF; (refine leaves_cons (f := 90) (args := #[.pointer (some ⟨bP, 0, none⟩), .pointer (some ⟨bN, 0, none⟩), .pointer (some ⟨b2, 0, none⟩), .pointer (some ⟨b3, 0, none⟩), .pointer (some ⟨bq, 0, none⟩)]) (by simp) (by simp [go_sem]) ?_); refine (gcl_pan hS n hn hF hlo hb hk rfl ho (recovered_no _ _ _ _) []).mono ?_; rintro e u' w' ⟨rfl, rfl, s2, hr, hF2⟩; exact ⟨_, gres h2 h3 (hF2.b0.cell (i := 0) rfl) (hF2.b1.cell (i := 0) rfl), hR _ _ hr (hF2.sub (by simp))⟩
set_option maxRecDepth 100000 in
set_option maxHeartbeats 8000000 in
theorem guarded_any (hS : TokSt c.l) (n : Nat) (hn : n ≤ 1000000) {E : EnP} {s : Ps} {W : World} (hF0 : Fr c E 0 [] s W) (hlo : E.lo ≤ 0) (hb : E.bad + 1 < 1000000) (hdo : decl (c.l.map Tok.bt) n s ≠ .out)
    (hmo : ∀ s', decl (c.l.map Tok.bt) n s = .no s' → s.nodes.length ≤ s'.nodes.length) (hno : ∀ s', decl (c.l.map Tok.bt) n s = .no s' → recovered (c.l.map Tok.bt) n s.opn { s' with nodes := s'.nodes.take s.nodes.length, deep := 0 } ≠ .out) :
    Calls Tryz.prog 52 #[.pointer (some ⟨c.bp, 0, none⟩)] W fun e w' => ∃ o s', guarded (c.l.map Tok.bt) n s = .ok o s' ∧ gval o e ∧ Fr c { E with bad := E.bad + 1 } 0 [] s' w' := by
  have hS0 := Lib.hid hS; have HLo := Lib.hid hlo; have HB : Hid (E.bad + 1 < 1000000) := hb; (have HBl : Hid (E.bad < 1000000) := by show E.bad < 1000000; omega); have HD := Lib.hid hdo; have HMo := Lib.hid hmo; have HNO := Lib.hid hno; clear hS hlo hb hdo hmo hno; obtain ⟨b1, hb1⟩ : ∃ b, W.heap.size = b := ⟨_, rfl⟩; obtain ⟨b2, hb2⟩ : ∃ b, b1 + 1 = b := ⟨_, rfl⟩; obtain ⟨b3, hb3⟩ : ∃ b, b2 + 1 = b := ⟨_, rfl⟩; obtain ⟨w3, hw3⟩ : ∃ w, ((W.alloc (.cells #[.pointer (some ⟨c.bp, 0, none⟩)] 50)).alloc (.cells #[.int .i64 0] 3)).alloc (.cells #[.bool false] 4) = w := ⟨_, rfl⟩; have hF := ((hF0.box 1 50 [.pointer (some ⟨c.bp, 0, none⟩)]).box 2 3 [.int .i64 0]).box 3 4 [.bool false]
  have hF : Fr c E 0 [.box 3 b3 4 [.bool false], .box 2 b2 3 [.int .i64 0], .box 1 b1 50 [.pointer (some ⟨c.bp, 0, none⟩)]] s w3 := by
    rw [← hw3, ← hb3, ← hb2, ← hb1]; simpa using hF
  obtain ⟨A, cp, c4⟩ := hF.nodes; obtain ⟨m, hm⟩ : ∃ m, s.nodes.length = m := ⟨_, rfl⟩; rw [hm] at c4; have HM := Lib.hid hm; have c3 := hF.opn; obtain ⟨so, hso⟩ : ∃ x, s.opn = x := ⟨_, rfl⟩; have HSo := Lib.hid hso; rw [hso] at c3; obtain ⟨w4, hw4⟩ : ∃ x, w3.drew = x := ⟨_, rfl⟩; have hFd := hF.drew; rw [hw4] at hFd; (have c3d : w4.cell? ⟨c.bp, 3, none⟩ = some (.int .i64 so) := by rw [← hw4]; exact c3); (have c4d : w4.cell? ⟨c.bp, 4, none⟩ = some (.slice A m cp) := by rw [← hw4]; exact c4); have x1 := hFd.b2.cell (i := 0) rfl; have hlt1 := hFd.b2.lt; have hltp : c.bp < w4.heap.size := by obtain ⟨_, _, _, _, hC⟩ := hFd; exact hC.pa.box.lt
  have HQ : Hid (∀ X, Keeps (fun i => w4.heap.size ≤ i) w4 X → (X.cell? ⟨b1, 0, none⟩ = some (.pointer (some ⟨c.bp, 0, none⟩)) ∧ X.cell? ⟨c.bp, 4, none⟩ = some (.slice A m cp) ∧ X.cell? ⟨c.bp, 3, none⟩ = some (.int .i64 so))) := fun X hk =>
    ⟨hk.cell x1 (by show ¬ w4.heap.size ≤ b1; omega), hk.cell c4d (by show ¬ w4.heap.size ≤ c.bp; omega), hk.cell c3d (by show ¬ w4.heap.size ≤ c.bp; omega)⟩
  (have K0 : Hid (Keeps (fun i => w4.heap.size ≤ i) w4 w4) := Keeps.refl _ _); have F0 := Lib.hid hFd; have HW3 := Lib.hid hw3; have HW4 := Lib.hid hw4; have HB1 := Lib.hid hb1; have HB2 := Lib.hid hb2; have HB3 := Lib.hid hb3; clear hm hF0 hF hFd hw3 hw4 hb1 hb2 hb3 c3 c4 c3d c4d x1 hlt1 hltp hso; go_enter_defers Tryz.func52, Tryz.ntmps52; go_upto_region 1 with (fail); rw [HW3.out, HB1.out, HB2.out, HB3.out]; refine wp_region_noPanic ?_; refine wp_region_till [] (fun X => X.cell? ⟨b1, 0, none⟩ = some (.pointer (some ⟨c.bp, 0, none⟩)) ∧ X.cell? ⟨c.bp, 4, none⟩ = some (.slice A m cp) ∧ X.cell? ⟨c.bp, 3, none⟩ = some (.int .i64 so)) (by kernel_rfl) ?_ (fun hE => ?_)
  · rw [HW4.out]; (first | exact HQ.out _ K4.out | exact HQ.out _ K3.out | exact HQ.out _ K2.out | exact HQ.out _ K1.out | exact HQ.out _ K0.out)
  (have hS := hE (by kernel_rfl)); rw [HW4.out] at hS ⊢; refine wpAnyT_take (i := 0) (v := ?v1_0_1) rfl (by kernel_rfl) (fun _ _ _ h => h) (Or.inl ⟨by rfl, ?y1_0_1⟩) hS ?_
  case y1_0_1 => (intro w hSw; (try dsimp only at hSw); go_simp; try with_reducible rfl)
  (try simp only [AP]); refine wpAnyT_pure (i := 1) (v := ?v1_1_2) rfl (by kernel_rfl) (fun _ _ _ h => h) (Or.inl ⟨by rfl, ?y1_1_2⟩) (fun _ => hS) ?_
  case y1_1_2 => (intro w hSw; go_simp; try with_reducible rfl)
  (try simp only [AP]); refine wpAnyT_pure (i := 2) (v := ?v1_2_3) rfl (by kernel_rfl) (fun _ _ _ h => h) (Or.inl ⟨by rfl, ?y1_2_3⟩) (fun _ => hS) ?_
  case y1_2_3 => (intro w hSw; go_simp; try with_reducible rfl)
  (try simp only [AP]); refine wpAnyT_take (i := 3) (v := ?v1_3_4) rfl (by kernel_rfl) (fun _ _ _ h => h) (Or.inl ⟨by rfl, ?y1_3_4⟩) hS ?_
  case y1_3_4 => (intro w hSw; (try dsimp only at hSw); go_simp; try with_reducible rfl)
  (try simp only [AP]); refine wpAnyT_pure (i := 4) (v := ?v1_4_5) rfl (by kernel_rfl) (fun _ _ _ h => h) (Or.inl ⟨by rfl, ?y1_4_5⟩) (fun _ => hS) ?_
  case y1_4_5 => (intro w hSw; go_simp; try with_reducible rfl)
  (try simp only [AP]); refine wpAnyT_take (i := 5) (v := ?v1_5_6) rfl (by kernel_rfl) (fun _ _ _ h => h) (Or.inl ⟨by rfl, ?y1_5_6⟩) hS ?_
  case y1_5_6 => (intro w hSw; (try dsimp only at hSw); go_simp; try with_reducible rfl)
  (try simp only [AP]); refine wpAnyT_pure (i := 6) (v := ?v1_6_7) rfl (by kernel_rfl) (fun _ _ _ h => h) (Or.inl ⟨by rfl, ?y1_6_7⟩) (fun _ => hS) ?_
  case y1_6_7 => (intro w hSw; go_simp; try with_reducible rfl)
  (try simp only [AP]); refine wpAnyT_pure (i := 7) (v := ?v1_7_8) rfl (by kernel_rfl) (fun _ _ _ h => h) (Or.inl ⟨by rfl, ?y1_7_8⟩) (fun _ => hS) ?_
  case y1_7_8 => (intro w hSw; go_simp; try with_reducible rfl)
  (try simp only [AP]); refine wpAnyT_take (i := 8) (v := ?v1_8_9) rfl (by kernel_rfl) (fun _ _ _ h => h) (Or.inl ⟨by rfl, ?y1_8_9⟩) hS ?_
  case y1_8_9 => (intro w hSw; (try dsimp only at hSw); go_simp; try with_reducible rfl)
  (try simp only [AP]); (refine wpAnyT_ready (rs := [9, 10]) (by kernel_rfl) rfl ?_); refine AllT.cons rfl (fun K hK => ?_) ?_
  · (go_simp; refine name_world ?_; intro W1 hW1; obtain ⟨b4, hb4⟩ : ∃ b, w4.heap.size = b := ⟨_, rfl⟩; have hF := F0.out.box 4 3 [.int .i64 0]; rw [hb4] at hF; rw [hb4]; have hF : Fr c E 0 [.box 4 b4 3 [.int .i64 0], .box 3 b3 4 [.bool false], .box 2 b2 3 [.int .i64 0], .box 1 b1 50 [.pointer (some ⟨c.bp, 0, none⟩)]] s W1 := (by rw [hW1]; exact hF); have F1 := Lib.hid hF; have hk : Keeps (fun i => w4.heap.size ≤ i) w4 W1 := (by rw [hW1]; exact K0.out.alloc _); have K1 := Lib.hid hk; have hl : w4.heap.size ≤ b4 := (by have h1 := K0.out.size; omega); have lb4 := Lib.hid hl; have g1 := Lib.hid hb4; clear hF hk hl hW1 hb4); refine hK.out _ _ (fun _ => ?_) (fun hE => ?_)
    · (first | exact HQ.out _ K4.out | exact HQ.out _ K3.out | exact HQ.out _ K2.out | exact HQ.out _ K1.out | exact HQ.out _ K0.out)
    (have hS := hE (by kernel_rfl)); clear hK K hE; (try simp only [AP]); (refine wpAnyT_ready (rs := [10]) (by kernel_rfl) rfl ?_); refine AllT.cons rfl (fun K hK => ?_) ?_
    · (go_simp; refine name_world ?_; intro W2 hW2; obtain ⟨b5, hb5⟩ : ∃ b, W1.heap.size = b := ⟨_, rfl⟩; have hF := F1.out.box 5 3 [.int .i64 0]; rw [hb5] at hF; rw [hb5]; have hF : Fr c E 0 [.box 5 b5 3 [.int .i64 0], .box 4 b4 3 [.int .i64 0], .box 3 b3 4 [.bool false], .box 2 b2 3 [.int .i64 0], .box 1 b1 50 [.pointer (some ⟨c.bp, 0, none⟩)]] s W2 := (by rw [hW2]; exact hF); have F2 := Lib.hid hF; have hk : Keeps (fun i => w4.heap.size ≤ i) w4 W2 := (by rw [hW2]; exact K1.out.alloc _); have K2 := Lib.hid hk; have hl : w4.heap.size ≤ b5 := (by have h1 := K1.out.size; omega); have lb5 := Lib.hid hl; have g2 := Lib.hid hb5; clear hF hk hl hW2 hb5); refine hK.out _ _ (fun _ => ?_) (fun hE => ?_)
      · (first | exact HQ.out _ K4.out | exact HQ.out _ K3.out | exact HQ.out _ K2.out | exact HQ.out _ K1.out | exact HQ.out _ K0.out)
      (have hS := hE (by kernel_rfl)); clear hK K hE; (try simp only [AP]); (refine wpAnyT_ready (rs := [11]) (by kernel_rfl) rfl ?_); refine AllT.cons rfl (fun K hK => ?_) ?_
      · (have hbk := F2.out.blk (k := 4) (b := b4) (t := 3) (cs := [.int .i64 0]) (by simp); have z1 := hbk.cell (i := 0) rfl; have z2 := hbk.free 0; have z3 := hbk.lt; go_simp; refine name_world ?_; intro W3 hW3; have hF : Fr c E 0 [.box 5 b5 3 [.int .i64 0], .box 4 b4 3 [.int .i64 (m : Int)], .box 3 b3 4 [.bool false], .box 2 b2 3 [.int .i64 0], .box 1 b1 50 [.pointer (some ⟨c.bp, 0, none⟩)]] s W3 := (by rw [hW3]; exact F2.out.set (k := 4) (b := b4) (t := 3) (cs := [.int .i64 0]) (by simp) 0 (.int .i64 (m : Int)) (by simp [Loc.key])); have F3 := Lib.hid hF; have hk : Keeps (fun i => w4.heap.size ≤ i) w4 W3 := (by rw [hW3]; exact K2.out.setCell (p := ⟨b4, 0, none⟩) (fun _ => lb4.out) _); have K3 := Lib.hid hk; clear hF hk hW3 hbk z1 z2 z3); refine hK.out _ _ (fun _ => ?_) (fun hE => ?_)
        · (first | exact HQ.out _ K4.out | exact HQ.out _ K3.out | exact HQ.out _ K2.out | exact HQ.out _ K1.out | exact HQ.out _ K0.out)
        (have hS := hE (by kernel_rfl)); clear hK K hE; (try simp only [AP]); (refine wpAnyT_ready (rs := [12]) (by kernel_rfl) rfl ?_); refine AllT.cons rfl (fun K hK => ?_) ?_
        · (have hbk := F3.out.blk (k := 5) (b := b5) (t := 3) (cs := [.int .i64 0]) (by simp); have z1 := hbk.cell (i := 0) rfl; have z2 := hbk.free 0; have z3 := hbk.lt; go_simp; refine name_world ?_; intro W4 hW4; have hF : Fr c E 0 [.box 5 b5 3 [.int .i64 so], .box 4 b4 3 [.int .i64 (m : Int)], .box 3 b3 4 [.bool false], .box 2 b2 3 [.int .i64 0], .box 1 b1 50 [.pointer (some ⟨c.bp, 0, none⟩)]] s W4 := (by rw [hW4]; exact F3.out.set (k := 5) (b := b5) (t := 3) (cs := [.int .i64 0]) (by simp) 0 (.int .i64 so) (by simp [Loc.key])); have F4 := Lib.hid hF; have hk : Keeps (fun i => w4.heap.size ≤ i) w4 W4 := (by rw [hW4]; exact K3.out.setCell (p := ⟨b5, 0, none⟩) (fun _ => lb5.out) _); have K4 := Lib.hid hk; clear hF hk hW4 hbk z1 z2 z3); refine hK.out _ _ (fun _ => ?_) (fun hE => ?_)
          · (first | exact HQ.out _ K4.out | exact HQ.out _ K3.out | exact HQ.out _ K2.out | exact HQ.out _ K1.out | exact HQ.out _ K0.out)
          (have hS := hE (by kernel_rfl)); clear hK K hE; (try simp only [AP]); (refine wpAnyT_done (by kernel_rfl) ?_ _); refine NoPanic.normal ?_; (have hF := F4.out.sub (L' := [.box 1 b1 50 [.pointer (some ⟨c.bp, 0, none⟩)], .box 4 b4 3 [.int .i64 (m : Int)], .box 2 b2 3 [.int .i64 0], .box 3 b3 4 [.bool false], .box 5 b5 3 [.int .i64 so]]) (by simp)); have HF := Lib.hid hF; have x1 := hF.b0.cell (i := 0) rfl; clear hF hS; (have hmf : ∀ (fn : Fn) (first cap : Array Value) (w : World), (Instr.makeFunc fn first cap).run Tryz.prog w = .ok (.func fn first cap) w := fun _ _ _ _ => rfl); go_wp2_with fail; clear hmf x1; refine HF.out.call (decl_any hS0.out n hn) HBl.out HD.out ?_ ?_
          · intro s' w' hr hq; have HQ2 := Lib.hid hq; have HR2 := Lib.hid hr; clear hq hr; go_wp2_with fail; exact gno hS0.out n hn rfl rfl rfl HQ2.out HLo.out HB.out (by rw [← HM.out]; exact HMo.out _ HR2.out) (by rw [← HSo.out, ← HM.out]; exact HNO.out _ HR2.out) (fun s2 w2 e2 hF => ⟨none, s2, by rw [← HSo.out, ← HM.out] at e2; rw [guarded_no HR2.out, e2], rfl, hF⟩)
          · rintro a s' e w' hr ⟨rfl, hi⟩ hF; have HF2 := Lib.hid hF; have HR2 := Lib.hid hr; have x1 := hF.b2.cell (i := 0) rfl; have x2 := hF.b2.free 0; have x3 := hF.b2.lt; have x4 := hF.b3.cell (i := 0) rfl; have x5 := hF.b3.free 0; have x6 := hF.b3.lt
            have hap : ¬ b3 = b2 := fun e => by
              obtain ⟨_, _, _, _, hC⟩ := hF; (have := hC.apart (.box 2 b2 3 [.int .i64 0]) (by simp) (.box 3 b3 4 [.bool false]) (by simp) b2 rfl e.symm); simp [Loc.key] at this
            (have hap2 : ¬ b2 = b3 := fun e => hap e.symm); unfold kidC; clear hF hr; go_wp2_with fail; exact gret rfl rfl rfl HF2.out (fun w2 hF => ⟨some a, s', guarded_yes HR2.out, ⟨rfl, hi⟩, hF⟩)
        exact AllT.nil
      exact AllT.nil
    exact AllT.nil
  refine AllT.cons rfl (fun K hK => ?_) ?_
  · (go_simp; refine name_world ?_; intro W1 hW1; obtain ⟨b5, hb5⟩ : ∃ b, w4.heap.size = b := ⟨_, rfl⟩; have hF := F0.out.box 5 3 [.int .i64 0]; rw [hb5] at hF; rw [hb5]; have hF : Fr c E 0 [.box 5 b5 3 [.int .i64 0], .box 3 b3 4 [.bool false], .box 2 b2 3 [.int .i64 0], .box 1 b1 50 [.pointer (some ⟨c.bp, 0, none⟩)]] s W1 := (by rw [hW1]; exact hF); have F1 := Lib.hid hF; have hk : Keeps (fun i => w4.heap.size ≤ i) w4 W1 := (by rw [hW1]; exact K0.out.alloc _); have K1 := Lib.hid hk; have hl : w4.heap.size ≤ b5 := (by have h1 := K0.out.size; omega); have lb5 := Lib.hid hl; have g1 := Lib.hid hb5; clear hF hk hl hW1 hb5); refine hK.out _ _ (fun _ => ?_) (fun hE => ?_)
    · (first | exact HQ.out _ K4.out | exact HQ.out _ K3.out | exact HQ.out _ K2.out | exact HQ.out _ K1.out | exact HQ.out _ K0.out)
    (have hS := hE (by kernel_rfl)); clear hK K hE; (try simp only [AP]); (refine wpAnyT_ready (rs := [9]) (by kernel_rfl) rfl ?_); refine AllT.cons rfl (fun K hK => ?_) ?_
    · (go_simp; refine name_world ?_; intro W2 hW2; obtain ⟨b4, hb4⟩ : ∃ b, W1.heap.size = b := ⟨_, rfl⟩; have hF := F1.out.box 4 3 [.int .i64 0]; rw [hb4] at hF; rw [hb4]; have hF : Fr c E 0 [.box 4 b4 3 [.int .i64 0], .box 5 b5 3 [.int .i64 0], .box 3 b3 4 [.bool false], .box 2 b2 3 [.int .i64 0], .box 1 b1 50 [.pointer (some ⟨c.bp, 0, none⟩)]] s W2 := (by rw [hW2]; exact hF); have F2 := Lib.hid hF; have hk : Keeps (fun i => w4.heap.size ≤ i) w4 W2 := (by rw [hW2]; exact K1.out.alloc _); have K2 := Lib.hid hk; have hl : w4.heap.size ≤ b4 := (by have h1 := K1.out.size; omega); have lb4 := Lib.hid hl; have g2 := Lib.hid hb4; clear hF hk hl hW2 hb4); refine hK.out _ _ (fun _ => ?_) (fun hE => ?_)
      · (first | exact HQ.out _ K4.out | exact HQ.out _ K3.out | exact HQ.out _ K2.out | exact HQ.out _ K1.out | exact HQ.out _ K0.out)
      (have hS := hE (by kernel_rfl)); clear hK K hE; (try simp only [AP]); (refine wpAnyT_ready (rs := [11]) (by kernel_rfl) rfl ?_); refine AllT.cons rfl (fun K hK => ?_) ?_
      · (have hbk := F2.out.blk (k := 4) (b := b4) (t := 3) (cs := [.int .i64 0]) (by simp); have z1 := hbk.cell (i := 0) rfl; have z2 := hbk.free 0; have z3 := hbk.lt; go_simp; refine name_world ?_; intro W3 hW3; have hF : Fr c E 0 [.box 4 b4 3 [.int .i64 (m : Int)], .box 5 b5 3 [.int .i64 0], .box 3 b3 4 [.bool false], .box 2 b2 3 [.int .i64 0], .box 1 b1 50 [.pointer (some ⟨c.bp, 0, none⟩)]] s W3 := (by rw [hW3]; exact F2.out.set (k := 4) (b := b4) (t := 3) (cs := [.int .i64 0]) (by simp) 0 (.int .i64 (m : Int)) (by simp [Loc.key])); have F3 := Lib.hid hF; have hk : Keeps (fun i => w4.heap.size ≤ i) w4 W3 := (by rw [hW3]; exact K2.out.setCell (p := ⟨b4, 0, none⟩) (fun _ => lb4.out) _); have K3 := Lib.hid hk; clear hF hk hW3 hbk z1 z2 z3); refine hK.out _ _ (fun _ => ?_) (fun hE => ?_)
        · (first | exact HQ.out _ K4.out | exact HQ.out _ K3.out | exact HQ.out _ K2.out | exact HQ.out _ K1.out | exact HQ.out _ K0.out)
        (have hS := hE (by kernel_rfl)); clear hK K hE; (try simp only [AP]); (refine wpAnyT_ready (rs := [12]) (by kernel_rfl) rfl ?_); refine AllT.cons rfl (fun K hK => ?_) ?_
        · (have hbk := F3.out.blk (k := 5) (b := b5) (t := 3) (cs := [.int .i64 0]) (by simp); have z1 := hbk.cell (i := 0) rfl; have z2 := hbk.free 0; have z3 := hbk.lt; go_simp; refine name_world ?_; intro W4 hW4; have hF : Fr c E 0 [.box 4 b4 3 [.int .i64 (m : Int)], .box 5 b5 3 [.int .i64 so], .box 3 b3 4 [.bool false], .box 2 b2 3 [.int .i64 0], .box 1 b1 50 [.pointer (some ⟨c.bp, 0, none⟩)]] s W4 := (by rw [hW4]; exact F3.out.set (k := 5) (b := b5) (t := 3) (cs := [.int .i64 0]) (by simp) 0 (.int .i64 so) (by simp [Loc.key])); have F4 := Lib.hid hF; have hk : Keeps (fun i => w4.heap.size ≤ i) w4 W4 := (by rw [hW4]; exact K3.out.setCell (p := ⟨b5, 0, none⟩) (fun _ => lb5.out) _); have K4 := Lib.hid hk; clear hF hk hW4 hbk z1 z2 z3); refine hK.out _ _ (fun _ => ?_) (fun hE => ?_)
          · (first | exact HQ.out _ K4.out | exact HQ.out _ K3.out | exact HQ.out _ K2.out | exact HQ.out _ K1.out | exact HQ.out _ K0.out)
          (have hS := hE (by kernel_rfl)); clear hK K hE; (try simp only [AP]); (refine wpAnyT_done (by kernel_rfl) ?_ _); refine NoPanic.normal ?_; (have hF := F4.out.sub (L' := [.box 1 b1 50 [.pointer (some ⟨c.bp, 0, none⟩)], .box 4 b4 3 [.int .i64 (m : Int)], .box 2 b2 3 [.int .i64 0], .box 3 b3 4 [.bool false], .box 5 b5 3 [.int .i64 so]]) (by simp)); have HF := Lib.hid hF; have x1 := hF.b0.cell (i := 0) rfl; clear hF hS; (have hmf : ∀ (fn : Fn) (first cap : Array Value) (w : World), (Instr.makeFunc fn first cap).run Tryz.prog w = .ok (.func fn first cap) w := fun _ _ _ _ => rfl); go_wp2_with fail; clear hmf x1; refine HF.out.call (decl_any hS0.out n hn) HBl.out HD.out ?_ ?_
          · intro s' w' hr hq; have HQ2 := Lib.hid hq; have HR2 := Lib.hid hr; clear hq hr; go_wp2_with fail; exact gno hS0.out n hn rfl rfl rfl HQ2.out HLo.out HB.out (by rw [← HM.out]; exact HMo.out _ HR2.out) (by rw [← HSo.out, ← HM.out]; exact HNO.out _ HR2.out) (fun s2 w2 e2 hF => ⟨none, s2, by rw [← HSo.out, ← HM.out] at e2; rw [guarded_no HR2.out, e2], rfl, hF⟩)
          · rintro a s' e w' hr ⟨rfl, hi⟩ hF; have HF2 := Lib.hid hF; have HR2 := Lib.hid hr; have x1 := hF.b2.cell (i := 0) rfl; have x2 := hF.b2.free 0; have x3 := hF.b2.lt; have x4 := hF.b3.cell (i := 0) rfl; have x5 := hF.b3.free 0; have x6 := hF.b3.lt
            have hap : ¬ b3 = b2 := fun e => by
              obtain ⟨_, _, _, _, hC⟩ := hF; (have := hC.apart (.box 2 b2 3 [.int .i64 0]) (by simp) (.box 3 b3 4 [.bool false]) (by simp) b2 rfl e.symm); simp [Loc.key] at this
            (have hap2 : ¬ b2 = b3 := fun e => hap e.symm); unfold kidC; clear hF hr; go_wp2_with fail; exact gret rfl rfl rfl HF2.out (fun w2 hF => ⟨some a, s', guarded_yes HR2.out, ⟨rfl, hi⟩, hF⟩)
        exact AllT.nil
      exact AllT.nil
    exact AllT.nil
  exact AllT.nil
end
end Go.Proofs.YtcjoapmodaioiaaGreatDoor
end
