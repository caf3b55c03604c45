/- The evaluator, a further part. No conditions. -/
import Derived.Test.YtnkbpjmijeeddaaGreatDoorEvG2
import Derived.Deep.Upon
import Derived.Laws.Tables
import Derived.Defers
import Derived.Recover
section
/- The evaluator's append and copy do what the model's do. No conditions. -/
namespace Go.Proofs.YtnkbpjmijeeddaaGreatDoor.Ev
open Go Go.RowKit
set_option linter.unusedSimpArgs false
set_option linter.unusedVariables false
section
variable {sy : Nat → Value} {N0 : Par} {W0 : World} {P : Program} {G : Nat} {e : Env} {m : M} {nx : Nat} {W : World}
theorem St.drew (h : St sy N0 W0 e m nx W) : St sy N0 W0 e m nx W.drew := ⟨h.rm.drew, h.be.drew, h.hN⟩
theorem St.kill (h : St sy N0 W0 e m nx W) (p : Nat) (hp : e p ≠ none) : St sy N0 W0 e (T.set none none p m) nx W := ⟨h.rm.kill p hp, h.be, h.hN⟩
theorem elemAt_ok {ts : List TypeId} {es : Nat} (h : elemAt P ts = some es) : ∃ t tx el i z, ts = [t, tx] ∧ P.underlying t = some (.slice el) ∧ P.info? el = some i ∧ i.zero = some z ∧ i.size = es ∧ 1 ≤ es ∧ i.bytes ≤ 1000000 ∧ z.cells.size = es ∧
    ((∃ e', P.underlying tx = some (.slice e')) ∨ P.underlying tx = some .string) := by
  match ts, h with
  | [], h => cases h
  | [_], h => cases h
  | _ :: _ :: _ :: _, h => cases h
  | [t, tx], h =>
    unfold elemAt at h
    try simp only [undF_eq, infoF_eq, funF_eq] at h
    cases hu : P.underlying t with
    | none => simp only [hu] at h; cases h
    | some d =>
      cases d <;> simp only [hu] at h <;> first | (cases h; done) | skip
      rename_i el
      cases hi : P.info? el with
      | none => simp only [hi] at h; cases h
      | some i =>
        cases hz : zeroL P el with
        | none => simp only [hi, hz] at h; cases h
        | some z =>
          simp only [hi, hz] at h
          split at h
          · rename_i hb
            simp only [Bool.and_eq_true] at hb
            cases h
            obtain ⟨⟨⟨h1, h2⟩, h3⟩, h4⟩ := hb
            obtain ⟨v, hv1, _, hv3⟩ := zeroL_ok (sy := fun _ => undef) (e := fun _ => none) hz
            have hiz : i.zero = some v := by
              have := hv3 default
              simp only [zeroValue, typeInfo, Sem.run_bind, run_program, Result.andThen_ok, hi, Sem.run_pure] at this
              cases hq : i.zero with
              | none => rw [hq] at this; simp [unsupported, Sem.run] at this
              | some v' => rw [hq] at this; simp at this; rw [this]
            refine ⟨t, tx, el, i, v, rfl, hu, hi, hiz, rfl, ble_iff.1 h1, ble_iff.1 h2, ?_, ?_⟩
            · have := hv1.cntA
              rw [beq_iff.1 h3] at this
              simpa using this.symm
            · split at h4
              · rename_i heq; exact .inl ⟨_, heq⟩
              · rename_i heq; exact .inr heq
              · cases h4
          · cases h
variable {es t tx el : Nat} {i : TypeInfo} {z : Value}
/-- There is no room: what was there and what comes lie in a new block. -/
theorem join_ok {nk : Nat} {old l : AV} {olds news : List Value} {K : KV} (h : joinK es m nx nk old l K = true) (hst : St sy N0 W0 e m nx W) (ho : RL sy e old olds) (hl : RL sy e l news) (hlen : (olds ++ news).length = nk * es) (hze : z.cells.size = es) {cap : Nat} (hcap : nk ≤ cap) :
    ∃ e' v m', e.le e' ∧ K v m' (nx + 1) = true ∧ RV sy e' v (.slice (some ⟨W.heap.size, 0, none⟩) nk cap) ∧ St sy N0 W0 e' m' (nx + 1) (W.alloc (.cells ((olds ++ news).toArray ++ Builtin.zeroCells z.cells (cap - nk)) el)) := by
  obtain ⟨c1, h1, _, hc1⟩ := fillK_ok olds old 0 .leaf ho h
  rw [Nat.zero_add] at h1 hc1
  obtain ⟨c2, h2, _, hc2⟩ := fillK_ok news l olds.length c1 hl h1
  have hsz : ((olds ++ news).toArray ++ Builtin.zeroCells z.cells (cap - nk)).size = cap * es := by
    rw [Array.size_append, size_zeroCells, hze, List.size_toArray, hlen, ← Nat.add_mul]
    congr 1; omega
  have e1 : olds.length + news.length = nk * es := by rw [← hlen, List.length_append]
  obtain ⟨e', m', h3, h4, h5, h6⟩ := newF_ok (el := el) (cs := (olds ++ news).toArray ++ Builtin.zeroCells z.cells (cap - nk)) h2 hst (by rw [hsz, e1]; exact Nat.mul_le_mul_right _ hcap) (fun ht i hi => by
    have hb : olds.length + news.length ≤ 2 ^ 25 := by unfold top at ht; omega
    obtain ⟨hn1, hn2⟩ := hc2 hb
    have hget : ∀ j, j < olds.length + news.length → ((olds ++ news).toArray ++ Builtin.zeroCells z.cells (cap - nk))[j]? = (olds ++ news)[j]? := fun j hj => by
      rw [Array.getElem?_append_left (by simpa using hj)]; simp
    by_cases hio : i < olds.length
    · obtain ⟨v, g1, g2, g3⟩ := (hc1 (by omega)).1 i hio
      rw [Nat.zero_add] at g2 g3
      have := hn2 i (by omega) (.inl hio)
      exact ⟨v, by rw [hget i hi, List.getElem?_append_left hio]; exact g1, by rw [this]; exact g2, by rw [this]; exact g3⟩
    · obtain ⟨v, g1, g2, g3⟩ := hn1 (i - olds.length) (by omega)
      have e2 : olds.length + (i - olds.length) = i := by omega
      rw [e2] at g2 g3
      exact ⟨v, by rw [hget i hi, List.getElem?_append_right (by omega)]; exact g1, g2, g3⟩)
  rw [hsz] at h5
  exact ⟨e', _, m', h3, h4, .slc (o := 0) h5 hcap (by omega) (fun k hk => by cases hk), h6⟩
/-- There is room, or there is none. -/
theorem move_ok {p : Nat} {o w n k nk : Nat} {l : AV} {news : List Value} {K : KV} (h : moveK es m nx nk p o w l K = true) (hst : St sy N0 W0 e m nx W) {r base sz cap : Nat} (hp : e p = some (r, base, sz)) (hl : RL sy e l news)
    (hw : w = n * es) (hnk : nk = n + k) (hlen : news.length = k * es) (hcap : n ≤ cap) (hsz : o + cap * es ≤ sz) (hze : z.cells.size = es) :
    ∃ olds : List Value, olds.length = n * es ∧ (∀ j v, olds[j]? = some v → W.cell? ⟨r, base + o + j, none⟩ = some v) ∧
      (n + k ≤ cap → (∀ j, j < news.length → (W.cell? ⟨r, base + o + w + j, none⟩).isSome = true) ∧ (∀ j, j < news.length → W.frozen? ⟨r, base + o + w + j, none⟩ = false) ∧
        ∃ e' v m', e.le e' ∧ K v m' (nx + 1) = true ∧ RV sy e' v (.slice (some ⟨r, base + o, none⟩) nk cap) ∧ St sy N0 W0 e' m' (nx + 1) (W.setCells r (base + o + w) news)) ∧
      (∀ cap', nk ≤ cap' → ∃ e' v m', e.le e' ∧ K v m' (nx + 1) = true ∧ RV sy e' v (.slice (some ⟨W.heap.size, 0, none⟩) nk cap') ∧
        St sy N0 W0 e' m' (nx + 1) (W.drew.alloc (.cells ((olds ++ news).toArray ++ Builtin.zeroCells z.cells (cap' - nk)) el))) := by
  obtain ⟨ho, h1⟩ := ifB_yes h
  obtain rfl := beq_iff.1 ho
  obtain ⟨B, hB, h2⟩ := blkK_yes h1
  obtain ⟨hro, h3⟩ := ifB_no h2
  obtain ⟨hb, h4⟩ := ifB_yes h3
  simp only [Bool.and_eq_true] at hb
  have hfz := ble_iff.1 hb.1
  have hws := ble_iff.1 hb.2
  have hH := hst.rm.blk p B r base sz hB hp
  subst hw
  subst hnk
  -- the old cells
  obtain ⟨lo, olds, g1, g2, g3, g4, g5, _⟩ := rdK_ok (sy := sy) (e := e) (W := W) (r := r) (base := base) (c := B.c) (n * es) 0 (K := fun _ => true) (by
    have : ∀ (c : T AV) (n o : Nat), rdK c n o (fun _ => true) = true := by
      intro c n
      induction n with
      | zero => intro o; rfl
      | succ n ih =>
        intro o
        show getN c o (fun v => frcN (Nat.succ o) fun o => rdK c n o fun l => true) = true
        rw [getN_eq, frcN_eq]
        exact ih _
    exact this _ _ _) (fun i _ hi => hH.cells i (by omega))
  refine ⟨olds, g3, fun j v hv => g4 j v hv, fun hroom => ?_, fun cap' hcap' => ?_⟩
  · have hfit : n * es + news.length ≤ sz := by
      have : (n + k) * es ≤ cap * es := Nat.mul_le_mul_right _ hroom
      rw [Nat.add_mul] at this
      omega
    refine ⟨fun j hj => ?_, fun j hj => ?_, ?_⟩
    · obtain ⟨v, hv⟩ := hH.there (n * es + j) (by omega)
      rw [Nat.add_zero, Nat.add_assoc, hv]; rfl
    · rw [Nat.add_zero, Nat.add_assoc]
      exact hH.free hro (n * es + j) (by omega) (by omega)
    · obtain ⟨c0, h5, _, _⟩ := fillK_ok news l (n * es) B.c hl h4
      unfold killK at h5
      rw [T.setP_eq] at h5
      obtain ⟨hnx, hn, _, _⟩ := newF_yes h5
      obtain ⟨c1, h8, h9⟩ := RM.fill news l (n * es) m W B hst.rm hB hp hws hfit hl h4 hn
      unfold killK at h8
      rw [T.setP_eq] at h8
      obtain ⟨_, _, _, h7⟩ := newF_yes h8
      have hrm := (h9.kill p (by rw [hp]; simp)).congr (m' := T.set none none p m) (fun q => by
        by_cases hq : p = q
        · subst hq; rw [M.at_same, M.at_same]
        · rw [M.at_set hq, M.at_set hq, M.at_set hq])
      have hH' := h9.blk p _ r base sz M.at_same hp
      have hnew : Holds sy N0 e (W.setCells r (base + n * es) news) ⟨c1, n * es + news.length, B.fz, false⟩ r base sz :=
        ⟨hfit, hn, hH'.there, (fun i hi => hH'.cells i (by have hi' : i < n * es + news.length := hi; show i < max B.n (n * es + news.length); omega)), (fun _ => hH.own hro), (fun _ => hH'.free hro)⟩
      have hname := hrm.name hnx hnew (by rw [size_setCells]; exact hst.rm.lt p _ hp) (fun q C x hq hx => by
        by_cases hpq : p = q
        · subst hpq; rw [M.at_same] at hq; cases hq
        · rw [M.at_set hpq] at hq
          intro hr
          exact hpq (hst.rm.inj p q B C _ _ hB hq hp hx hr.symm))
      refine ⟨_, _, _, Env.le_new (hst.rm.fresh hnx), h7, ?_, ⟨hname, Below.setCells (hH.own hro) _ _ _ hst.be, by rw [size_setCells]; exact hst.hN⟩⟩
      exact .slc (o := 0) Env.new_same (by omega) (by omega) (fun k hk => by cases hk)
  · obtain ⟨c1, h5, _, hc1⟩ := fillK_ok news l (n * es) B.c hl h4
    unfold killK at h5
    rw [T.setP_eq] at h5
    have hlo : (olds ++ news).length = (n + k) * es := by rw [List.length_append, g3, hlen, Nat.add_mul]
    have hsz' : ((olds ++ news).toArray ++ Builtin.zeroCells z.cells (cap' - (n + k))).size = cap' * es := by
      rw [Array.size_append, size_zeroCells, hze, List.size_toArray, hlo, ← Nat.add_mul]
      congr 1; omega
    have hst' : St sy N0 W0 e (T.set none none p m) nx W.drew := (hst.kill p (by rw [hp]; simp)).drew
    have e1 : n * es + news.length = (n + k) * es := by rw [hlen, Nat.add_mul]
    obtain ⟨e', m', h6, h7, h8, h9⟩ := newF_ok (el := el) (cs := (olds ++ news).toArray ++ Builtin.zeroCells z.cells (cap' - (n + k))) h5 hst' (by rw [hsz', e1]; exact Nat.mul_le_mul_right _ hcap') (fun ht i hi => by
      have hb : n * es + news.length ≤ 2 ^ 25 := by unfold top at ht; omega
      obtain ⟨hn1, hn2⟩ := hc1 hb
      have hget : ∀ j, j < n * es + news.length → ((olds ++ news).toArray ++ Builtin.zeroCells z.cells (cap' - (n + k)))[j]? = (olds ++ news)[j]? := fun j hj => by
        rw [Array.getElem?_append_left (by simp [g3]; exact hj)]; simp
      by_cases hio : i < n * es
      · obtain ⟨v, q1, q2, q3⟩ := hH.cells i (by omega)
        have := hn2 i (by omega) (.inl hio)
        have hv : olds[i]? = some v := by
          have hi' : i < olds.length := by omega
          have := g4 i olds[i] (List.getElem?_eq_getElem hi')
          rw [Nat.add_zero] at this
          rw [List.getElem?_eq_getElem hi', ← this, q1]
        exact ⟨v, by rw [hget i hi, List.getElem?_append_left (by omega)]; exact hv, by rw [this]; exact q2, by rw [this]; exact q3⟩
      · obtain ⟨v, q1, q2, q3⟩ := hn1 (i - n * es) (by omega)
        have e2 : n * es + (i - n * es) = i := by omega
        rw [e2] at q2 q3
        exact ⟨v, by rw [hget i hi, List.getElem?_append_right (by omega), g3]; exact q1, q2, q3⟩)
    rw [hsz'] at h8
    exact ⟨e', _, m', h6, h7, .slc (o := 0) h8 hcap' (by omega) (fun k hk => by cases hk), h9⟩
theorem move_top {p : Nat} {o w n nk : Nat} {l : AV} {K : KV} (h : moveK es m nx nk p o w l K = true) (hst : St sy N0 W0 e m nx W) {r base sz : Nat} (hp : e p = some (r, base, sz)) : w ≤ top := by
  obtain ⟨_, h1⟩ := ifB_yes h
  obtain ⟨B, hB, h2⟩ := blkK_yes h1
  obtain ⟨_, h3⟩ := ifB_no h2
  obtain ⟨hb, _⟩ := ifB_yes h3
  simp only [Bool.and_eq_true] at hb
  exact Nat.le_trans (ble_iff.1 hb.2) (hst.rm.blk p B r base sz hB hp).top
theorem read_top {p : Nat} {o n : Nat} {K : AV → Bool} (h : readK m p o n K = true) (hst : St sy N0 W0 e m nx W) {r base sz : Nat} (hp : e p = some (r, base, sz)) : o + n ≤ top := by
  obtain ⟨B, hB, h1⟩ := blkK_yes h
  obtain ⟨h2, _⟩ := ifB_yes h1
  exact Nat.le_trans (ble_iff.1 h2) (hst.rm.blk p B r base sz hB hp).top
/-- append. -/
theorem append_ok {x y : AV} {xv yv : Value} {K : KV} (h : appendK es m nx x y K = true) (hst : St sy N0 W0 e m nx W) (hx : RV sy e x xv) (hy : RV sy e y yv)
    (ht : P.underlying t = some (.slice el)) (hi : P.info? el = some i) (hz : i.zero = some z) (hes : i.size = es) (h1 : 1 ≤ es) (hby : i.bytes ≤ 1000000) (hze : z.cells.size = es) (htx : (∃ e', P.underlying tx = some (.slice e')) ∨ P.underlying tx = some .string) (ty : TypeId) :
    ∃ e' v v' m' nx' W', e.le e' ∧ K v m' nx' = true ∧ RV sy e' v v' ∧ St sy N0 W0 e' m' nx' W' ∧ (Builtin.append_ #[t, tx] ty #[xv, yv]).run P W = .ok v' W' := by
  subst hes
  obtain ⟨k, l, news, h2, hl, hlen, hone, hlenOf, hcells, _⟩ := srcK_ok h hst.rm hy (P := P)
  obtain ⟨hk, h3⟩ := ifB_yes h2
  have hk' := ble_iff.1 hk
  have hsrc : Src P i.size tx yv k news W := Src.world (W' := W) htx hlenOf hcells hlen hone
  have nothing : ∀ {A : Option Addr} {n cap : Nat}, k = 0 → n ≤ cap → (Builtin.append_ #[t, tx] ty #[.slice A n cap, yv]).run P W = .ok (.slice A n cap) W := fun {A n cap} hk0 hn => by
    have hnil : news = [] := List.eq_nil_of_length_eq_zero (by rw [hlen, hk0, Nat.zero_mul])
    rw [hnil, hk0] at hsrc
    exact run_append_nothing W t tx ty el i ht hi A n cap hn yv hsrc
  rcases asSlc_yes h3 with ⟨p, o, es', n, c, rfl, h4⟩ | ⟨rfl, h4⟩
  · obtain ⟨h5, h6⟩ := ifB_yes h4
    obtain rfl := beq_iff.1 h5
    rw [frcN_eq, frcN_eq] at h6
    cases hx with
    | slc hp hn hsz hcap =>
      rename_i r base sz cap
      have hnle : ∀ q, q + n * i.size ≤ top → n ≤ top := fun q hq => by
        have : n * 1 ≤ n * i.size := Nat.mul_le_mul_left n h1
        omega
      cases c with
      | none =>
        have h7 : ifB (Nat.beq k 0) (K (.slc p o i.size n none) m nx) (moveK i.size m nx (Nat.add n k) p o (Nat.mul n i.size) l K) = true := h6
        cases hk0 : Nat.beq k 0 with
        | true =>
          rw [hk0] at h7
          exact ⟨e, _, _, m, nx, W, Env.le_refl e, h7, .slc hp hn hsz hcap, hst, nothing (beq_iff.1 hk0) hn⟩
        | false =>
          rw [hk0] at h7
          have h8 : moveK i.size m nx (n + k) p o (n * i.size) l K = true := h7
          have htop := move_top (n := n) h8 hst hp
          have hnt := hnle 0 (by omega)
          obtain ⟨olds, g1, g2, g3, g4⟩ := move_ok (el := el) h8 hst hp hl rfl rfl hlen hn hsz hze
          by_cases hroom : n + k ≤ cap
          · obtain ⟨g5, g6, e', v, m', g7, g8, g9, g10⟩ := g3 hroom
            refine ⟨e', v, _, m', nx + 1, _, g7, g8, g9, g10, ?_⟩
            exact run_append_room_src W t tx ty el i ht hi r (base + o) n cap yv k news hsrc hroom g5 g6
          · obtain ⟨e', v, m', g7, g8, g9, g10⟩ := g4 (grownCap W (n + k) cap el) (grownCap_ge W (n + k) cap el)
            refine ⟨e', v, _, m', nx + 1, _, g7, g8, g9, g10, ?_⟩
            exact run_append_grow_src W t tx ty el i z ht hi hz _ n cap olds (run_firstCells_some W.drew i.size n _ _ _ olds g1 (fun j v hv => by
              rw [Addr.add_lit]; exact g2 j v hv)) yv k news hsrc (by omega) (by unfold top at hnt; omega) (grow_fits (by omega) (by unfold top at hnt; omega) hby)
      | some c =>
        obtain rfl := hcap c rfl
        have h7 : ifB (Nat.ble (Nat.add n k) cap) (frcN (Nat.add o (Nat.mul n i.size)) fun at_ => writeK true m p at_ l fun m => K (.slc p o i.size (Nat.add n k) (some cap)) m nx)
          (readK m p o (Nat.mul n i.size) fun old => joinK i.size m nx (Nat.add n k) old l K) = true := h6
        cases hr : Nat.ble (Nat.add n k) cap with
        | true =>
          rw [hr] at h7
          have h8 : (frcN (Nat.add o (Nat.mul n i.size)) fun at_ => writeK true m p at_ l fun m => K (.slc p o i.size (Nat.add n k) (some cap)) m nx) = true := h7
          rw [frcN_eq] at h8
          have hroom : n + k ≤ cap := ble_iff.1 hr
          have hfit : (n + k) * i.size ≤ cap * i.size := Nat.mul_le_mul_right _ hroom
          rw [Nat.add_mul] at hfit
          obtain ⟨m', g1, g2, _, g4, g5⟩ := writeK_ok h8 hst hp (fun _ => by rw [hlen]; show o + n * i.size + k * i.size ≤ sz; omega) hl
          have e1 : base + (o + n * i.size) = base + o + n * i.size := by omega
          refine ⟨e, _, .slice (some ⟨r, base + o, none⟩) (n + k) cap, m', nx, _, Env.le_refl e, g1, .slc hp hroom hsz (fun k hk => by cases hk; rfl), g2, ?_⟩
          have e2 : base + Nat.add o (Nat.mul n i.size) = base + o + n * i.size := e1
          rw [e2] at g4 g5 ⊢
          exact run_append_room_src W t tx ty el i ht hi r (base + o) n cap yv k news hsrc hroom g4 g5
        | false =>
          rw [hr] at h7
          have h8 : (readK m p o (n * i.size) fun old => joinK i.size m nx (n + k) old l K) = true := h7
          have hroom : ¬ n + k ≤ cap := fun hh => by rw [show Nat.ble (Nat.add n k) cap = true from ble_iff.2 hh] at hr; cases hr
          have htop := read_top h8 hst hp
          have hnt := hnle o htop
          obtain ⟨old, olds, g1, g2, g3, g4, _⟩ := readK_ok h8 hst.rm hp
          obtain ⟨e', v, m', g7, g8, g9, g10⟩ := join_ok (el := el) (W := W.drew) g1 hst.drew g2 hl (by rw [List.length_append, g3, hlen, Nat.add_mul]) hze (grownCap_ge W (n + k) cap el)
          refine ⟨e', v, _, m', nx + 1, _, g7, g8, g9, g10, ?_⟩
          exact run_append_grow_src W t tx ty el i z ht hi hz _ n cap olds (run_firstCells_some W.drew i.size n _ _ _ olds g3 (fun j v hv => by
            rw [Addr.add_lit]; exact g4 j v hv)) yv k news hsrc (by omega) (by unfold top at hnt; omega) (grow_fits (by omega) (by unfold top at hnt; omega) hby)
  · cases hx
    cases hk0 : Nat.beq k 0 with
    | true =>
      rw [hk0] at h4
      exact ⟨e, _, _, m, nx, W, Env.le_refl e, h4, .nils, hst, nothing (beq_iff.1 hk0) (Nat.le_refl _)⟩
    | false =>
      rw [hk0] at h4
      have h8 : joinK i.size m nx k .eol l K = true := h4
      have hk1 : k ≠ 0 := fun hh => by rw [hh] at hk0; cases hk0
      obtain ⟨e', v, m', g7, g8, g9, g10⟩ := join_ok (el := el) (W := W.drew) h8 hst.drew .eol hl (by simpa using hlen) hze (grownCap_ge W k 0 el)
      refine ⟨e', v, _, m', nx + 1, _, g7, g8, g9, g10, ?_⟩
      have := run_append_grow_src W t tx ty el i z ht hi hz none 0 0 [] (run_firstCells_none W.drew i.size 0 0 0) yv k news hsrc (by omega) (by omega) (grow_fits (by omega) (by omega) hby)
      simpa using this
theorem op_append (args : Array Operand) (ts : Array TypeId) : OpOk P sy N0 W0 G (cOp P G (.call { callee := .builtin .append, args, argTypes := ts })) (.call { callee := .builtin .append, args, argTypes := ts }) := by
  obtain ⟨args⟩ := args
  obtain ⟨ts⟩ := ts
  cases he : elemAt P ts with
  | none => simp only [cOp, he, BX.f, undF_eq, infoF_eq, funF_eq]; exact xNo_ok
  | some es =>
    cases args with
    | nil => simp only [cOp, he, BX.f, undF_eq, infoF_eq, funF_eq]; exact xNo_ok
    | cons x args => cases args with
      | nil => simp only [cOp, he, BX.f, undF_eq, infoF_eq, funF_eq]; exact xNo_ok
      | cons y args => cases args with
        | cons z args => simp only [cOp, he, BX.f, undF_eq, infoF_eq, funF_eq]; exact xNo_ok
        | nil =>
          simp only [cOp, he, BX.f, undF_eq, infoF_eq, funF_eq]
          intro call _ a m nx K KP hb e act W hG hst hops Y Z hK _ o ho
          obtain ⟨xv, h1, h2⟩ := cOpd_ok hG hops (x := x) (by simp [Op.operands, Call.operands]) hb
          obtain ⟨yv, h3, h4⟩ := cOpd_ok hG hops (x := y) (by simp [Op.operands, Call.operands]) h1
          obtain ⟨t, tx, el, i, z, rfl, ht, hi, hz, hes, h5, h6, h7, h8⟩ := elemAt_ok he
          obtain ⟨e', v, v', m', nx', W', g1, g2, g3, g4, g5⟩ := append_ok h3 hst h2 h4 ht hi hz hes h5 h6 h7 h8 o.type
          have hrun : (execOp act.eval o).run P W = .ok (.value v') W' := by
            simp [execOp, ho, resolve, invoke, builtin, g5]
          rw [hrun]
          exact hK e' v v' m' nx' W' g1 g4 g3 g2
end
end Go.Proofs.YtnkbpjmijeeddaaGreatDoor.Ev
end

section
/- The evaluator builds structs, arrays and slices as the model does. No conditions. -/
namespace Go.Proofs.YtnkbpjmijeeddaaGreatDoor.Ev
open Go Go.RowKit
set_option linter.unusedSimpArgs false
set_option linter.unusedVariables false
section
variable {sy : Nat → Value} {N0 : Par} {W0 : World} {P : Program} {G : Nat} {e : Env} {m : M} {nx : Nat} {W : World}
/-- Cells laid over others. -/
def putV : List Value → Nat → Array Value → Array Value
  | [], _, cs => cs
  | v :: vs, o, cs => putV vs (o + 1) (cs.setIfInBounds o v)
theorem size_putV : ∀ (vs : List Value) (o : Nat) (cs : Array Value), (putV vs o cs).size = cs.size
  | [], _, _ => rfl
  | v :: vs, o, cs => by rw [putV, size_putV vs]; simp
theorem fold_putV (off : Nat) : ∀ (vs : List Value) (k : Nat) (cs : Array Value), (vs.zipIdx k).foldl (fun cs (x : Value × Nat) => cs.setIfInBounds (off + x.2) x.1) cs = putV vs (off + k) cs
  | [], _, _ => rfl
  | v :: vs, k, cs => by
    rw [List.zipIdx_cons, List.foldl_cons, fold_putV off vs (k + 1)]
    rfl
theorem fill_cons (place : Nat → Option (Nat × Nat)) (cells : Array Value) (i o s : Nat) (v : Value) (rest : List (Nat × Value)) (hp : place i = some (o, s)) (hs : v.cells.size = s) (hle : o + s ≤ cells.size) :
    Instr.fill place cells ((i, v) :: rest) = Instr.fill place (putV v.cells.toList o cells) rest := by
  have hc : ¬ (v.cells.size ≠ s || decide (o + v.cells.size > cells.size)) = true := by simp [hs]; omega
  rw [Instr.fill, hp]
  simp only
  rw [if_neg (by simpa using hc)]
  congr 1
  have h0 := fold_putV o v.cells.toList 0 cells
  rw [Nat.add_zero] at h0
  rw [← h0, ← Array.foldl_toList]
  simp
theorem setA_ok {x : AV} {v : Value} (hx : RV sy e x v) : ∀ (i : Nat) (l : AV) (vs : List Value) {K : AV → Bool}, RL sy e l vs → setA i x l K = true → ∃ l', K l' = true ∧ RL sy e l' (vs.set i v)
  | 0, l, vs, K, hl, h => by
    obtain ⟨y, l', rfl, h1⟩ := asCons_yes (K := fun _ l => K (.cons x l)) h
    cases hl with | cons hy hl => exact ⟨_, h1, .cons hx hl⟩
  | i + 1, l, vs, K, hl, h => by
    obtain ⟨y, l', rfl, h1⟩ := asCons_yes (K := fun y l => setA i x l fun l => K (.cons y l)) h
    cases hl with
    | cons hy hl =>
      obtain ⟨l'', h2, h3⟩ := setA_ok hx i l' _ hl h1
      exact ⟨_, h2, .cons hy h3⟩
theorem pourA_ok : ∀ (ws : List Value) (w : AV) (o : Nat) (l : AV) (cs : Array Value) {K : AV → Bool}, RL sy e w ws → RL sy e l cs.toList → pourA w o l K = true → ∃ l', K l' = true ∧ RL sy e l' (putV ws o cs).toList
  | [], w, o, l, cs, K, hw, hl, h => by
    cases hw
    exact ⟨l, h, hl⟩
  | u :: ws, w, o, l, cs, K, hw, hl, h => by
    cases hw with
    | cons hu hw =>
      rename_i x w
      have h' : setA o x l (fun l => frcN (Nat.succ o) fun o => pourA w o l K) = true := h
      obtain ⟨l', h1, h2⟩ := setA_ok hu o l _ hl h'
      rw [frcN_eq] at h1
      exact pourA_ok ws w (o + 1) l' (cs.setIfInBounds o u) hw (by simpa using h2) h1
/-- The parts of a struct or an array. -/
theorem cBuild_ok {place : Nat → Option (Nat × Nat)} {ty : Nat → Option TypeId} {n : Nat} {a : T AV} {act : Act} (hG : ∀ g, g < G → ∃ sz, e g = some (g, 0, sz)) {ops : Array Operand} (ho : Ops sy e a act ops) :
    ∀ (parts : List (Nat × Operand)) (l : AV) (cs : Array Value) {K : AV → Bool}, (∀ x ∈ parts, x.2 ∈ ops) → RL sy e l cs.toList → cs.size = n → (cBuild P G place ty n parts).f a l K = true →
      ∃ l' cs', K l' = true ∧ RL sy e l' cs'.toList ∧ Instr.fill place cs (parts.map fun x => (x.1, act.eval x.2)) = some cs'
  | [], l, cs, K, _, hl, _, h => ⟨l, cs, h, hl, rfl⟩
  | (i, x) :: r, l, cs, K, hmem, hl, hn, h => by
    cases hp : place i with
    | none => simp only [cBuild, hp, BL.f, undF_eq, infoF_eq, funF_eq] at h; cases h
    | some os =>
      obtain ⟨o, s⟩ := os
      cases ht : ty i with
      | none => simp only [cBuild, hp, ht, BL.f, undF_eq, infoF_eq, funF_eq] at h; cases h
      | some t =>
        cases hs : sizeAt P t with
        | none => simp only [cBuild, hp, ht, hs, BL.f, undF_eq, infoF_eq, funF_eq] at h; cases h
        | some s' =>
          cases hb : (Nat.beq s' s && Nat.ble (Nat.add o s) n) with
          | false => simp only [cBuild, hp, ht, hs, hb, BL.f, undF_eq, infoF_eq, funF_eq] at h; cases h
          | true =>
            simp only [cBuild, hp, ht, hs, hb, BL.f, undF_eq, infoF_eq, funF_eq] at h
            simp only [Bool.and_eq_true] at hb
            obtain rfl := beq_iff.1 hb.1
            have hle : o + s' ≤ n := ble_iff.1 hb.2
            obtain ⟨v, h1, h2⟩ := cOpd_ok hG ho (hmem (i, x) List.mem_cons_self) h
            obtain ⟨w, h3, h4, q, h5, h6⟩ := cCells_ok h1 h2
            rw [hs] at h5
            cases h5
            obtain ⟨l', h7, h8⟩ := pourA_ok _ w o l cs h4 hl h3
            obtain ⟨l'', cs', h9, h10, h11⟩ := cBuild_ok hG ho r l' (putV (act.eval x).cells.toList o cs) (fun y hy => hmem y (List.mem_cons_of_mem _ hy)) h8 (by rw [size_putV]; exact hn) h7
            refine ⟨l'', cs', h9, h10, ?_⟩
            rw [List.map_cons, fill_cons place cs i o s' _ _ hp h6 (by omega)]
            exact h11
theorem op_build (t : TypeId) (parts : Array (Nat × Operand)) : OpOk P sy N0 W0 G (cOp P G (.build t parts)) (.build t parts) := by
  have hmem : ∀ x ∈ parts.toList, x.2 ∈ (Op.build t parts).operands := by
    intro x hx
    simp only [Op.operands, List.mem_toArray, List.mem_map]
    exact ⟨x, hx, rfl⟩
  cases hu : P.underlying t with
  | none => simp only [cOp, hu, BX.f, undF_eq, infoF_eq, funF_eq]; exact xNo_ok
  | some d =>
    cases hz : zeroA P t with
    | none =>
      have e1 : cOp P G (.build t parts) = xNo := by
        simp only [cOp, hu, hz, BX.f, undF_eq, infoF_eq, funF_eq]
        try (cases d <;> rfl)
      rw [e1]; exact xNo_ok
    | some zv =>
      by_cases hd : (∃ fs, d = .struct fs) ∨ ∃ n el, d = .array n el
      · cases zv with
        | agg z =>
          obtain ⟨it, hit, hiz⟩ : ∃ it, P.info? t = some it ∧ ∃ v, it.zero = some v ∧ ∀ e : Env, RV sy e (.agg z) v := by
            unfold zeroA at hz
            try simp only [undF_eq, infoF_eq, funF_eq] at hz
            cases hi : P.info? t with
            | none => rw [hi] at hz; cases hz
            | some it =>
              rw [hi] at hz
              cases hv : it.zero with
              | none => simp only [hv] at hz; cases hz
              | some v => simp only [hv] at hz; exact ⟨it, rfl, v, hv, fun e => absF_ok 8 v _ hz⟩
          obtain ⟨zv, hzv, hzr⟩ := hiz
          rcases hd with ⟨fs, rfl⟩ | ⟨n, el, rfl⟩
          · cases hp : placesOf P fs.toList with
            | none => simp only [cOp, hu, hz, hp, BX.f, undF_eq, infoF_eq, funF_eq]; exact xNo_ok
            | some pl =>
              simp only [cOp, hu, hz, hp, BX.f, undF_eq, infoF_eq, funF_eq]
              refine xP_ok ?_
              intro a K h e act hG hops
              have hzr' := hzr e
              cases hzr' with
              | agg hl =>
                rename_i zs
                obtain ⟨l', cs', h1, h2, h3⟩ := cBuild_ok hG hops parts.toList z zs.toArray hmem (by simpa using hl) (by rw [hl.cntA]; simp) h
                refine ⟨_, .agg cs', h1, by simpa using RV.agg h2, fun o W ho => ?_⟩
                have hrun := run_build (P := P) W t (parts.map fun x => (x.1, act.eval x.2)) cs' (by
                  unfold Program.built
                  unfold placesOf at hp
                  try simp only [undF_eq, infoF_eq, funF_eq] at hp
                  simp only [hit, hu, hzv, hp]
                  simpa [Value.cells] using h3)
                simp only [execOp, ho, Sem.run_bind]
                rw [hrun]; simp
          · cases hs : sizeAt P el with
            | none => simp only [cOp, hu, hz, hs, BX.f, undF_eq, infoF_eq, funF_eq]; exact xNo_ok
            | some s =>
              simp only [cOp, hu, hz, hs, BX.f, undF_eq, infoF_eq, funF_eq]
              refine xP_ok ?_
              intro a K h e act hG hops
              have hzr' := hzr e
              cases hzr' with
              | agg hl =>
                rename_i zs
                obtain ⟨l', cs', h1, h2, h3⟩ := cBuild_ok hG hops parts.toList z zs.toArray hmem (by simpa using hl) (by rw [hl.cntA]; simp) h
                refine ⟨_, .agg cs', h1, by simpa using RV.agg h2, fun o W ho => ?_⟩
                have hie : ∃ ie, P.info? el = some ie ∧ ie.size = s := by
                  unfold sizeAt at hs
                  try simp only [undF_eq, infoF_eq, funF_eq] at hs
                  cases hq : P.info? el with
                  | none => rw [hq] at hs; cases hs
                  | some ie => rw [hq] at hs; cases hs; exact ⟨ie, rfl, rfl⟩
                obtain ⟨ie, hie1, rfl⟩ := hie
                have hrun := run_build (P := P) W t (parts.map fun x => (x.1, act.eval x.2)) cs' (by
                  unfold Program.built
                  simp only [hit, hu, hzv, hie1]
                  simpa [Value.cells] using h3)
                simp only [execOp, ho, Sem.run_bind]
                rw [hrun]; simp
        | _ =>
          have e1 : cOp P G (.build t parts) = xNo := by
            rcases hd with ⟨fs, rfl⟩ | ⟨n, el, rfl⟩ <;> simp only [cOp, hu, hz, BX.f, undF_eq, infoF_eq, funF_eq]
          rw [e1]; exact xNo_ok
      · have e1 : cOp P G (.build t parts) = xNo := by
          simp only [cOp, hu, hz, BX.f, undF_eq, infoF_eq, funF_eq]
          cases d <;> first | rfl | exact absurd (.inl ⟨_, rfl⟩) hd | exact absurd (.inr ⟨_, _, rfl⟩) hd
        rw [e1]; exact xNo_ok
end
end Go.Proofs.YtnkbpjmijeeddaaGreatDoor.Ev
end

section
/- The evaluator makes slices as the model does. No conditions. -/
namespace Go.Proofs.YtnkbpjmijeeddaaGreatDoor.Ev
open Go Go.RowKit
set_option linter.unusedSimpArgs false
set_option linter.unusedVariables false
section
variable {sy : Nat → Value} {N0 : Par} {W0 : World} {P : Program} {G : Nat} {e : Env} {m : M} {nx : Nat} {W : World}
def TA (sy : Nat → Value) (e : Env) (c : T AV) (cells : Array Value) : Prop := ∀ i, i < cells.size → ∃ v, cells[i]? = some v ∧ RV sy e (T.get und c i) v ∧ (T.get und c i).cell = true
theorem get_putV : ∀ (vs : List Value) (o : Nat) (cs : Array Value) (j : Nat), o + vs.length ≤ cs.size → (putV vs o cs)[j]? = if o ≤ j ∧ j < o + vs.length then vs[j - o]? else cs[j]?
  | [], o, cs, j, _ => by rw [if_neg (by simp)]; rfl
  | v :: vs, o, cs, j, h => by
    simp only [List.length_cons] at h ⊢
    rw [putV, get_putV vs (o + 1) _ j (by rw [Array.size_setIfInBounds]; omega)]
    by_cases h1 : j = o
    · subst h1
      rw [if_neg (by omega), if_pos (by omega), Nat.sub_self, Array.getElem?_setIfInBounds_self_of_lt (by omega)]
      rfl
    · by_cases h2 : o ≤ j ∧ j < o + (vs.length + 1)
      · rw [if_pos (by omega), if_pos h2]
        have : j - o = (j - (o + 1)) + 1 := by omega
        rw [this, List.getElem?_cons_succ]
      · rw [if_neg (by omega), if_neg h2, Array.getElem?_setIfInBounds_ne (by omega)]
theorem cFill_ok {el : TypeId} {s n : Nat} {a : T AV} {act : Act} (hG : ∀ g, g < G → ∃ sz, e g = some (g, 0, sz)) {ops : Array Operand} (ho : Ops sy e a act ops) (hs : sizeAt P el = some s) (hN : n * s ≤ 2 ^ 25) :
    ∀ (parts : List (Nat × Operand)) (c : T AV) (cells : Array Value) {K : T AV → Bool}, (∀ x ∈ parts, x.2 ∈ ops) → TA sy e c cells → cells.size = n * s → (cFill P G el s n parts).f a c K = true →
      ∃ c' cells', K c' = true ∧ TA sy e c' cells' ∧ cells'.size = n * s ∧ Instr.fill (fun i => some (i * s, s)) cells (parts.map fun x => (x.1, act.eval x.2)) = some cells'
  | [], c, cells, K, _, hc, hn, h => ⟨c, cells, h, hc, hn, rfl⟩
  | (i, x) :: r, c, cells, K, hmem, hc, hn, h => by
    cases hb : Nat.blt i n with
    | false => simp only [cFill, hb, BT.f, undF_eq, infoF_eq, funF_eq] at h; cases h
    | true =>
      simp only [cFill, hb, BT.f, undF_eq, infoF_eq, funF_eq] at h
      have hin := blt_iff.1 hb
      obtain ⟨v, h1, h2⟩ := cOpd_ok hG ho (hmem (i, x) List.mem_cons_self) h
      replace h2 : RV sy e v (act.eval x) := h2
      obtain ⟨w, h3, h4, q, h5, h6⟩ := cCells_ok h1 h2
      rw [hs] at h5
      cases h5
      obtain ⟨c1, h7, _, h8⟩ := fillK_ok (act.eval x).cells.toList w (i * s) c h4 h3
      have hlen : (act.eval x).cells.toList.length = s := by simpa using h6
      have hfit : i * s + s ≤ n * s := by
        have : (i + 1) * s ≤ n * s := Nat.mul_le_mul_right _ hin
        rw [Nat.succ_mul] at this
        exact this
      obtain ⟨h9, h10⟩ := h8 (by omega)
      have hTA : TA sy e c1 (putV (act.eval x).cells.toList (i * s) cells) := by
        intro j hj
        rw [size_putV] at hj
        rw [get_putV _ _ _ _ (by omega)]
        by_cases hin' : i * s ≤ j ∧ j < i * s + (act.eval x).cells.toList.length
        · rw [if_pos hin']
          obtain ⟨u, g1, g2, g3⟩ := h9 (j - i * s) (by omega)
          have e1 : i * s + (j - i * s) = j := by omega
          rw [e1] at g2 g3
          exact ⟨u, g1, g2, g3⟩
        · rw [if_neg hin', h10 j (by omega) (by omega)]
          exact hc j hj
      obtain ⟨c', cells', g1, g2, g3, g4⟩ := cFill_ok hG ho hs hN r c1 _ (fun y hy => hmem y (List.mem_cons_of_mem _ hy)) hTA (by rw [size_putV]; exact hn) h7
      refine ⟨c', cells', g1, g2, g3, ?_⟩
      rw [List.map_cons, fill_cons _ cells i (i * s) s _ _ rfl h6 (by omega)]
      exact g4
def repV (zs : List Value) : Nat → List Value
  | 0 => []
  | n + 1 => zs ++ repV zs n
theorem repV_get (zs : List Value) : ∀ (n i : Nat), i < n * zs.length → (repV zs n)[i]? = zs[i % zs.length]?
  | 0, i, h => by simp at h
  | n + 1, i, h => by
    rw [repV]
    by_cases hi : i < zs.length
    · rw [List.getElem?_append_left hi, Nat.mod_eq_of_lt hi]
    · rw [Nat.succ_mul] at h
      have em := Nat.mod_eq_sub_mod (a := i) (b := zs.length) (by omega)
      rw [List.getElem?_append_right (by omega), repV_get zs n (i - zs.length) (by omega), em]
theorem repV_len (zs : List Value) : ∀ n, (repV zs n).length = n * zs.length
  | 0 => by simp [repV]
  | n + 1 => by rw [repV, List.length_append, repV_len zs n, Nat.succ_mul, Nat.add_comm]
/-- The model's row of zeros. -/
theorem zeros_eq (zero : Array Value) (n : Nat) : (Array.range (n * zero.size)).map (zero[· % zero.size]!) = (repV zero.toList n).toArray := by
  apply Array.ext'
  apply List.ext_getElem?
  intro i
  rw [Array.toList_map, List.getElem?_map]
  by_cases hi : i < n * zero.size
  · have h0 : 0 < zero.size := by
      rcases Nat.eq_zero_or_pos zero.size with h | h
      · rw [h] at hi; omega
      · exact h
    have hm : i % zero.size < zero.size := Nat.mod_lt _ h0
    have e1 : (Array.range (n * zero.size)).toList[i]? = some i := by simp [hi]
    rw [e1]
    have := repV_get zero.toList n i (by simpa using hi)
    simp only [Array.length_toList] at this
    rw [this]
    simp [hm]
  · have e1 : (Array.range (n * zero.size)).toList[i]? = none := by simp; omega
    rw [e1]
    have : (repV zero.toList n).length ≤ i := by rw [repV_len]; simp; omega
    simp [List.getElem?_eq_none this]
theorem RL.app {l l' : AV} {vs vs' : List Value} (h : RL sy e l vs) (h' : RL sy e l' vs') : RL sy e (ofL (Ev.toL l ++ Ev.toL l')) (vs ++ vs') := by
  induction vs generalizing l with
  | nil => cases h; exact h'.ofTo
  | cons v vs ih => cases h with | cons hv hl => exact .cons hv (ih hl)
theorem repA_ok {z : AV} {zs : List Value} (h : RL sy e z zs) : ∀ n, RL sy e (repA z n) (repV zs n)
  | 0 => .eol
  | n + 1 => h.app (repA_ok h n)
theorem allCell_app : ∀ (l l' : List AV), (∀ x ∈ l, x.cell = true) → (∀ x ∈ l', x.cell = true) → allCell (ofL (l ++ l')) = true
  | [], [], _, _ => rfl
  | [], x :: l', h, h' => by
    have ih := allCell_app [] l' (fun _ h => by cases h) (fun y hy => h' y (List.mem_cons_of_mem _ hy))
    have hx := h' x List.mem_cons_self
    show asCell x (allCell (ofL ([] ++ l'))) = true
    rw [ih]; revert hx; cases x <;> intro hx <;> first | rfl | cases hx
  | x :: l, l', h, h' => by
    have ih := allCell_app l l' (fun y hy => h y (List.mem_cons_of_mem _ hy)) h'
    have hx := h x List.mem_cons_self
    show asCell x (allCell (ofL (l ++ l'))) = true
    rw [ih]; revert hx; cases x <;> intro hx <;> first | rfl | cases hx
theorem allCell_mem : ∀ (l : AV), allCell l = true → ∀ x ∈ toL l, x.cell = true
  | .cons x l, h, y, hy => by
    obtain ⟨h1, h2⟩ := allCell_cons h
    rcases List.mem_cons.1 (show y ∈ x :: toL l from hy) with rfl | hy
    · exact h1
    · exact allCell_mem l h2 y hy
  | .eol, _, y, hy => by cases hy
  | .int .., _, y, hy => by cases hy
  | .bool .., _, y, hy => by cases hy
  | .str .., _, y, hy => by cases hy
  | .ref .., _, y, hy => by cases hy
  | .slc .., _, y, hy => by cases hy
  | .nil .., _, y, hy => by cases hy
  | .fn .., _, y, hy => by cases hy
  | .ifc .., _, y, hy => by cases hy
  | .agg .., _, y, hy => by cases hy
  | .tup .., _, y, hy => by cases hy
  | .sym .., _, y, hy => by cases hy
theorem toL_ofL : ∀ l : List AV, toL (ofL l) = l
  | [] => rfl
  | x :: l => congrArg (x :: ·) (toL_ofL l)
theorem repA_cell {z : AV} (h : allCell z = true) : ∀ n, ∀ x ∈ toL (repA z n), x.cell = true
  | 0, x, hx => by cases hx
  | n + 1, x, hx => by
    rw [repA, toL_ofL] at hx
    rcases List.mem_append.1 hx with hx | hx
    · exact allCell_mem z h x hx
    · exact repA_cell h n x hx
theorem repA_all {z : AV} (h : allCell z = true) : ∀ n, allCell (repA z n) = true
  | 0 => rfl
  | n + 1 => allCell_app _ _ (allCell_mem z h) (repA_cell h n)
theorem raw_buildSlice (t : TypeId) (n : Nat) (parts : Array (Nat × Operand)) : (∃ g, cOp P G (.buildSlice t n parts) = xA g ∧ RawA P sy G (.buildSlice t n parts) g ∧ ∀ a, Det3 (g a)) ∨ cOp P G (.buildSlice t n parts) = xNo := by
  have hmem : ∀ x ∈ parts.toList, x.2 ∈ (Op.buildSlice t n parts).operands := by
    intro x hx
    simp only [Op.operands, List.mem_toArray, List.mem_map]
    exact ⟨x, hx, rfl⟩
  cases hu : P.underlying t with
  | none => simp only [cOp, hu, BX.f, undF_eq, infoF_eq, funF_eq]; exact .inr (by trivial)
  | some d =>
    by_cases hd : ∃ el, d = .slice el
    · obtain ⟨el, rfl⟩ := hd
      cases hs : sizeAt P el with
      | none => simp only [cOp, hu, hs, BX.f, undF_eq, infoF_eq, funF_eq]; exact .inr (by trivial)
      | some s =>
        cases hz : zeroL P el with
        | none => simp only [cOp, hu, hs, hz, BX.f, undF_eq, infoF_eq, funF_eq]; exact .inr (by trivial)
        | some z =>
          cases hb : (Nat.ble (Nat.mul n s) 10000 && Nat.beq (cntA z) s) with
          | false => simp only [cOp, hu, hs, hz, hb, BX.f, undF_eq, infoF_eq, funF_eq]; exact .inr (by trivial)
          | true =>
            simp only [cOp, hu, hs, hz, hb, BX.f, undF_eq, infoF_eq, funF_eq]
            simp only [Bool.and_eq_true] at hb
            have hN : n * s ≤ 10000 := ble_iff.1 hb.1
            have hcz := beq_iff.1 hb.2
            refine .inl ⟨_, rfl, ?_, fun a => Det3.of (Det.bind (Det.cfill _ _) fun c => Det.ret _)⟩
            intro a K h e act hG hops
            obtain ⟨zv, hz1, hz2, hz3⟩ := zeroL_ok (sy := sy) (e := e) hz
            have hzs : zv.cells.size = s := by
              have := hz1.cntA
              rw [hcz] at this
              simpa using this.symm
            have hrl := repA_ok hz1 n
            have hlen : (repV zv.cells.toList n).length = n * s := by rw [repV_len]; simp [hzs]
            have hTA : TA sy e (fillT (repA z n)) (repV zv.cells.toList n).toArray := by
              intro i hi
              have hi' : i < (repV zv.cells.toList n).length := by simpa using hi
              obtain ⟨u, g1, g2, g3⟩ := (fillT_ok _ (repA z n) 0 .leaf hrl (repA_all hz2 n) (by rw [hlen]; omega)).1 i hi'
              rw [Nat.zero_add] at g2 g3
              exact ⟨u, by simpa using g1, g2, g3⟩
            obtain ⟨c', cells', g1, g2, g3, g4⟩ := cFill_ok hG hops hs (by omega) parts.toList _ _ hmem hTA (by simpa using hlen) h
            refine ⟨_, _, _, g1, cells', el, fun r => .slice (some ⟨r, 0, none⟩) n n, by rw [g3]; exact Nat.le_refl _, fun _ i hi => g2 i (by rw [g3]; exact hi), fun e' p r hp => ?_, fun o W ho => ?_⟩
            · exact .slc (o := 0) hp (Nat.le_refl _) (by rw [g3]; omega) (fun k hk => by cases hk; rfl)
            · have hlim : ¬ 16777216 < n * s := by omega
              have hfill : Instr.fill (fun i => some (i * s, s)) ((Array.range (n * s)).map (zv.cells[· % zv.cells.size]!)) (parts.map fun x => (x.1, act.eval x.2)).toList = some cells' := by
                have := zeros_eq zv.cells n
                rw [hzs] at this
                rw [hzs, this]
                simpa using g4
              have e1 : (parts.map fun x => (x.1, act.eval x.2)).toList = List.map (fun x => (x.fst, act.eval x.snd)) parts.toList := by simp
              rw [e1] at hfill
              by_cases h0 : n * s = 0
              · have e2 : (Array.range (n * s)).map (zv.cells[· % zv.cells.size]!) = Array.map (fun _ => (default : Value)) (Array.range 0) := by rw [h0]; simp
                rw [e2] at hfill
                simp [execOp, ho, Instr.buildSlice, run_underlying hu, sizeAt_run hs, h0, newRow]
                rw [hfill]; simp
              · simp [execOp, ho, Instr.buildSlice, run_underlying hu, sizeAt_run hs, hlim, h0, hz3, newRow]
                rw [hfill]; simp
    · have e1 : cOp P G (.buildSlice t n parts) = xNo := by
        simp only [cOp, hu, BX.f, undF_eq, infoF_eq, funF_eq]
        cases d <;> first | rfl | exact absurd ⟨_, rfl⟩ hd
      rw [e1]; exact .inr (by trivial)
theorem op_buildSlice (t : TypeId) (n : Nat) (parts : Array (Nat × Operand)) : OpOk P sy N0 W0 G (cOp P G (.buildSlice t n parts)) (.buildSlice t n parts) := by
  rcases raw_buildSlice (P := P) (sy := sy) (G := G) t n parts with ⟨g, h1, h2, _⟩ | h
  · rw [h1]; exact xA_ok h2
  · rw [h]; exact xNo_ok
theorem repK_ok {z : AV} {zs : List Value} (hz : RL sy e z zs) : ∀ (n o : Nat) (c : T AV) {K : Nat → T AV → Bool}, repK z n o c K = true → ∃ c', K (o + n * zs.length) c' = true ∧ (o + n * zs.length ≤ 2 ^ 25 →
    (∀ i, i < n * zs.length → ∃ v, (repV zs n)[i]? = some v ∧ RV sy e (T.get und c' ((o + i))) v ∧ (T.get und c' ((o + i))).cell = true) ∧ ∀ i, i < 2 ^ 25 → (i < o ∨ o + n * zs.length ≤ i) → T.get und c' i = T.get und c i)
  | 0, o, c, K, h => ⟨c, by simpa using (show K o c = true from h), fun _ => ⟨(fun i hi => by simp at hi), fun i _ _ => rfl⟩⟩
  | n + 1, o, c, K, h => by
    have h' : fillK z o c (fun o c => repK z n o c K) = true := h
    obtain ⟨c1, h1, _, h2⟩ := fillK_ok zs z o c hz h'
    obtain ⟨c', h3, h4⟩ := repK_ok hz n (o + zs.length) c1 h1
    have e1 : o + (n + 1) * zs.length = o + zs.length + n * zs.length := by rw [Nat.succ_mul]; omega
    refine ⟨c', by rw [e1]; exact h3, fun hb => ?_⟩
    rw [e1] at hb
    obtain ⟨g1, g2⟩ := h2 (by omega)
    obtain ⟨g3, g4⟩ := h4 hb
    refine ⟨fun i hi => ?_, fun i hi1 hi2 => ?_⟩
    · rw [repV]
      by_cases hiz : i < zs.length
      · obtain ⟨v, q1, q2, q3⟩ := g1 i hiz
        have := g4 (o + i) (by omega) (.inl (by omega))
        exact ⟨v, by rw [List.getElem?_append_left hiz]; exact q1, by rw [this]; exact q2, by rw [this]; exact q3⟩
      · rw [Nat.succ_mul] at hi
        obtain ⟨v, q1, q2, q3⟩ := g3 (i - zs.length) (by omega)
        have e2 : o + zs.length + (i - zs.length) = o + i := by omega
        rw [e2] at q2 q3
        exact ⟨v, by rw [List.getElem?_append_right (by omega)]; exact q1, q2, q3⟩
    · rw [e1] at hi2
      rw [g4 i hi1 (by omega), g2 i hi1 (by omega)]
theorem raw_makeSlice (t : TypeId) (l c : Operand) : (∃ g, cOp P G (.makeSlice t l c) = xA g ∧ RawA P sy G (.makeSlice t l c) g ∧ ∀ a, Det3 (g a)) ∨ cOp P G (.makeSlice t l c) = xNo := by
  cases hu : P.underlying t with
  | none => simp only [cOp, hu, BX.f, undF_eq, infoF_eq, funF_eq]; exact .inr (by trivial)
  | some d =>
    by_cases hd : ∃ el, d = .slice el
    · obtain ⟨el, rfl⟩ := hd
      cases hs : sizeAt P el with
      | none => simp only [cOp, hu, hs, BX.f, undF_eq, infoF_eq, funF_eq]; exact .inr (by trivial)
      | some s =>
        cases hz : zeroL P el with
        | none => simp only [cOp, hu, hs, hz, BX.f, undF_eq, infoF_eq, funF_eq]; exact .inr (by trivial)
        | some z =>
          cases hi : P.info? el with
          | none => simp only [cOp, hu, hs, hz, hi, BX.f, undF_eq, infoF_eq, funF_eq]; exact .inr (by trivial)
          | some it =>
          cases hb : (Nat.beq (cntA z) s && Nat.ble it.bytes 1000000) with
          | false => simp only [cOp, hu, hs, hz, hi, hb, BX.f, undF_eq, infoF_eq, funF_eq]; exact .inr (by trivial)
          | true =>
            simp only [cOp, hu, hs, hz, hi, hb, BX.f, undF_eq, infoF_eq, funF_eq]
            simp only [Bool.and_eq_true] at hb
            have hcz := beq_iff.1 hb.1
            have hby := ble_iff.1 hb.2
            refine .inl ⟨_, rfl, ?_, fun a => Det3.of (Det.opd fun v => Det.opd fun w => Det.asInt fun _ l => Det.asNat fun l => Det.asInt fun _ c => Det.asNat fun c => Det.ifB (Det2.bind (Det2.rep _ _ _ _) fun n t => Det.ret _) Det.no)⟩
            intro a K h e act hG hops
            obtain ⟨zv, hz1, hz2, hz3⟩ := zeroL_ok (sy := sy) (e := e) hz
            have hzs : zv.cells.toList.length = s := by
              have := hz1.cntA
              rw [hcz] at this
              exact this.symm
            have hzs' : zv.cells.size = s := by simpa using hzs
            obtain ⟨v, h1, h2⟩ := cOpd_ok hG hops (x := l) (by simp [Op.operands]) h
            obtain ⟨w, h3, h4⟩ := cOpd_ok hG hops (x := c) (by simp [Op.operands]) h1
            obtain ⟨k1, q1, rfl, h5⟩ := asInt_yes h3
            obtain ⟨n, rfl, h6⟩ := asNat_yes h5
            obtain ⟨k2, q2, rfl, h7⟩ := asInt_yes h6
            obtain ⟨cap, rfl, h8⟩ := asNat_yes h7
            obtain ⟨h9, h10⟩ := ifB_yes h8
            simp only [Bool.and_eq_true] at h9
            have hnc := ble_iff.1 h9.1
            have hcl := ble_iff.1 h9.2
            obtain ⟨c', h11, h12⟩ := repK_ok hz1 cap 0 .leaf h10
            rw [Nat.zero_add, hzs] at h11
            generalize hlv : act.eval l = lv at h2
            generalize hcv : act.eval c = cv at h4
            cases h2; cases h4
            refine ⟨_, _, _, h11, (repV zv.cells.toList cap).toArray, el, fun r => .slice (some ⟨r, 0, none⟩) n cap, by simp [repV_len, hzs'], fun ht i hi => ?_, fun e' p r hp => ?_, fun o W ho => ?_⟩
            · rw [Nat.zero_add, hzs] at h12
              obtain ⟨g1, _⟩ := h12 (by unfold top at ht; omega)
              obtain ⟨u, r1, r2, r3⟩ := g1 i hi
              rw [Nat.zero_add] at r2 r3
              exact ⟨u, by simpa using r1, r2, r3⟩
            · exact .slc (o := 0) hp hnc (by simp [repV_len, hzs']) (fun k hk => by cases hk; rfl)
            · have hwl : IntKind.i64.wrap (n : Int) = n := by
                show (if (true && decide ((n : Int) % 18446744073709551616 ≥ 9223372036854775808)) = true then (n : Int) % 18446744073709551616 - 18446744073709551616 else (n : Int) % 18446744073709551616) = n
                simp only [Bool.true_and, decide_eq_true_eq]
                split <;> omega
              have hwc : IntKind.i64.wrap (cap : Int) = cap := by
                show (if (true && decide ((cap : Int) % 18446744073709551616 ≥ 9223372036854775808)) = true then (cap : Int) % 18446744073709551616 - 18446744073709551616 else (cap : Int) % 18446744073709551616) = cap
                simp only [Bool.true_and, decide_eq_true_eq]
                split <;> omega
              have hbig : ∀ q : Nat, q ≤ 10000 → ¬ ((281474976710656 : Int) < (it.bytes : Int) * (q : Int)) := fun q hq => by
                have : it.bytes * q ≤ 1000000 * 10000 := Nat.mul_le_mul hby hq
                have : ((it.bytes * q : Nat) : Int) ≤ ((1000000 * 10000 : Nat) : Int) := Int.ofNat_le.2 this
                rw [Int.natCast_mul] at this
                omega
              have hz' := zeros_eq zv.cells cap
              rw [hzs'] at hz'
              have hn1 : ¬ ((n : Int) < 0) := by omega
              have hn2 : ¬ ((cap : Int) < 0) := by omega
              have hn3 : ¬ ((cap : Int) < (n : Int)) := by omega
              have hti : ∀ W, (typeInfo el).run P W = .ok it W := fun W => by simp [typeInfo, hi]
              by_cases h0 : cap * s = 0
              · have e2 : (repV zv.cells.toList cap).toArray = #[] := by
                  have : (repV zv.cells.toList cap).length = 0 := by rw [repV_len, hzs]; exact h0
                  rw [List.eq_nil_of_length_eq_zero this]
                rw [e2]
                simp [execOp, ho, hlv, hcv, Instr.makeSlice, run_underlying hu, Go.asInt, asIntOf, hwl, hwc, hn1, hn2, hn3, hnc, hti, hbig cap hcl, sizeAt_run hs, h0, newRow]
                congr 2
                first | (simp; done) | (rw [hzs']; exact hz')
              · simp [execOp, ho, hlv, hcv, Instr.makeSlice, run_underlying hu, Go.asInt, asIntOf, hwl, hwc, hn1, hn2, hn3, hnc, hti, hbig cap hcl, sizeAt_run hs, h0, newRow, hz3]
                congr 2
                first | (simp; done) | (rw [hzs']; exact hz')
    · have e1 : cOp P G (.makeSlice t l c) = xNo := by
        simp only [cOp, hu, BX.f, undF_eq, infoF_eq, funF_eq]
        cases d <;> first | rfl | exact absurd ⟨_, rfl⟩ hd
      rw [e1]; exact .inr (by trivial)
theorem op_makeSlice (t : TypeId) (l c : Operand) : OpOk P sy N0 W0 G (cOp P G (.makeSlice t l c)) (.makeSlice t l c) := by
  rcases raw_makeSlice (P := P) (sy := sy) (G := G) t l c with ⟨g, h1, h2, _⟩ | h
  · rw [h1]; exact xA_ok h2
  · rw [h]; exact xNo_ok
theorem raw_all : ∀ op : Op, kindOf op = 2 → (∃ g, cOp P G op = xA g ∧ RawA P sy G op g ∧ ∀ a, Det3 (g a)) ∨ cOp P G op = xNo := by
  intro op h
  cases op with
  | alloc t => exact raw_alloc t
  | box t x => exact raw_box t x
  | buildSlice t n ps => exact raw_buildSlice t n ps
  | makeSlice t l c => exact raw_makeSlice t l c
  | call c =>
    obtain ⟨cal, args, ts⟩ := c
    cases cal with
    | builtin b => cases b <;> cases h
    | _ => cases h
  | _ => cases h
theorem op_clear (args : Array Operand) (ts : Array TypeId) : OpOk P sy N0 W0 G (cOp P G (.call { callee := .builtin .clear, args, argTypes := ts })) (.call { callee := .builtin .clear, args, argTypes := ts }) := by
  obtain ⟨args⟩ := args
  obtain ⟨ts⟩ := ts
  have no : cOp P G (.call { callee := .builtin .clear, args := ⟨args⟩, argTypes := ⟨ts⟩ }) = xNo → OpOk P sy N0 W0 G (cOp P G (.call { callee := .builtin .clear, args := ⟨args⟩, argTypes := ⟨ts⟩ })) (.call { callee := .builtin .clear, args := ⟨args⟩, argTypes := ⟨ts⟩ }) := fun h => by rw [h]; exact xNo_ok
  cases args with
  | nil => exact no rfl
  | cons x args => cases args with
    | cons y args => exact no rfl
    | nil => cases ts with
      | nil => exact no rfl
      | cons t ts => cases ts with
        | cons u ts => exact no rfl
        | nil =>
          cases hu : P.underlying t with
          | none => exact no (by simp only [cOp, hu, undF_eq, infoF_eq, funF_eq])
          | some d =>
            by_cases hd : ∃ el, d = .slice el
            · obtain ⟨el, rfl⟩ := hd
              cases hs : sizeAt P el with
              | none => exact no (by simp only [cOp, hu, hs, undF_eq, infoF_eq, funF_eq])
              | some s =>
                cases hz : zeroL P el with
                | none => exact no (by simp only [cOp, hu, hs, hz, undF_eq, infoF_eq, funF_eq])
                | some z =>
                  cases hb : Nat.beq (cntA z) s with
                  | false => exact no (by simp only [cOp, hu, hs, hz, hb, undF_eq, infoF_eq, funF_eq])
                  | true =>
                    simp only [cOp, hu, hs, hz, hb, undF_eq, infoF_eq, funF_eq]
                    intro call _ a m nx K KP hb' e act W hG hst hops Y Z hK _ o ho
                    obtain ⟨zv, hz1, hz2, hz3⟩ := zeroL_ok (sy := sy) (e := e) hz
                    have hcz := beq_iff.1 hb
                    have hzs : zv.cells.size = s := by
                      have := hz1.cntA
                      rw [hcz] at this
                      simpa using this.symm
                    obtain ⟨v, h1, h2⟩ := cOpd_ok hG hops (x := x) (by simp [Op.operands, Call.operands]) hb'
                    rcases asSlc_yes h1 with ⟨p, q, es, n, c, rfl, h3⟩ | ⟨rfl, h3⟩
                    · generalize hx : act.eval x = xv at h2
                      cases h2 with
                      | slc hp hn hsz hcap =>
                        rename_i r base sz cap
                        cases n with
                        | zero =>
                          have hr : (execOp act.eval o).run P W = .ok (.value (.tuple #[])) W := by simp [execOp, ho, resolve, invoke, builtin, Builtin.clear_, run_underlying hu, hx]
                          rw [hr]
                          exact hK e und undef m nx W (Env.le_refl e) hst RV.und h3
                        | succ n =>
                          have h4 : ifB (Nat.beq es s) (writeK false m p q (repA z (n + 1)) fun m => K und m nx) false = true := h3
                          obtain ⟨h5, h6⟩ := ifB_yes h4
                          obtain ⟨m', g1, g2, g3, g4, g5⟩ := writeK_ok h6 hst hp (fun h => by cases h) (repA_ok hz1 (n + 1))
                          have hst' := run_storeCells_cells (P := P) r (base + q) (repV zv.cells.toList (n + 1)) 0 W (by simpa using g4) (by simpa using g5) g3
                          simp only [Nat.add_zero] at hst'
                          have hzc : (Builtin.zeroCells zv.cells (n + 1)).toList = repV zv.cells.toList (n + 1) := by
                            have := zeros_eq zv.cells (n + 1)
                            show ((Array.range ((n + 1) * zv.cells.size)).map (zv.cells[· % zv.cells.size]!)).toList = _
                            rw [this]
                          have hrun : (execOp act.eval o).run P W = .ok (.value (.tuple #[])) (W.setCells r (base + q) (repV zv.cells.toList (n + 1))) := by
                            simp [execOp, ho, resolve, invoke, builtin, Builtin.clear_, run_underlying hu, hx, hz3, hzc, hst']
                          rw [hrun]
                          exact hK e und undef m' nx _ (Env.le_refl e) g2 RV.und g1
                    · generalize hx : act.eval x = xv at h2
                      cases h2
                      have hr : (execOp act.eval o).run P W = .ok (.value (.tuple #[])) W := by simp [execOp, ho, resolve, invoke, builtin, Builtin.clear_, run_underlying hu, hx]
                      rw [hr]
                      exact hK e und undef m nx W (Env.le_refl e) hst RV.und h3
            · refine no ?_
              simp only [cOp, hu, undF_eq, infoF_eq, funF_eq]
              cases d <;> first | rfl | exact absurd ⟨_, rfl⟩ hd
end
end Go.Proofs.YtnkbpjmijeeddaaGreatDoor.Ev
end

section
/- The evaluator's operations, all of them, do what the model's do. No conditions. -/
namespace Go.Proofs.YtnkbpjmijeeddaaGreatDoor.Ev
open Go Go.RowKit
set_option linter.unusedSimpArgs false
set_option linter.unusedVariables false
section
variable {sy : Nat → Value} {N0 : Par} {W0 : World} {P : Program} {G : Nat} {e : Env} {m : M} {nx : Nat} {W : World}
theorem appA_ok : ∀ (vs : List Value) (l l' : AV) (vs' : List Value) {K : AV → Bool}, RL sy e l vs → RL sy e l' vs' → appA l l' K = true → ∃ r, K r = true ∧ RL sy e r (vs ++ vs')
  | [], l, l', vs', K, h, h', hk => by
    cases h
    exact ⟨l', hk, h'⟩
  | v :: vs, l, l', vs', K, h, h', hk => by
    cases h with
    | cons hx hl =>
      rename_i x l
      obtain ⟨r, h1, h2⟩ := appA_ok vs l l' vs' (K := fun r => K (.cons x r)) hl h' hk
      exact ⟨_, h1, .cons hx h2⟩
theorem op_call_static (f : FuncId) (args : Array Operand) (ts : Array TypeId) : OpOk P sy N0 W0 G (cOp P G (.call { callee := .value (.func f), args, argTypes := ts })) (.call { callee := .value (.func f), args, argTypes := ts }) := by
  simp only [cOp, BX.f, undF_eq, infoF_eq, funF_eq]
  intro call hcall a m nx K KP hb e act W hG hst hops Y Z hK hZ o ho
  have hb' : (cOpds G args.toList).k a (fun l => call f l m nx K KP) = true := hb
  obtain ⟨l, h1, h2⟩ := cOpds_ok hG hops args.toList (by intro x hx; simp [Op.operands, Call.operands]; exact .inr (by simpa using hx)) hb'
  have := hcall N0 W0 f l m nx K KP h1 e _ W hG hst h2 Y Z hK hZ
  have e1 : (execOp act.eval o).run P W = (callFunc f (args.toList.map act.eval).toArray).run P W := by
    simp [execOp, ho, resolve, Deferred.ofValue, invoke, Act.eval]
    congr 2
    exact Array.ext' (by simp)
  rw [e1]
  exact this
theorem op_call_value (x : Operand) (hx : ∀ f, x ≠ .func f) (args : Array Operand) (ts : Array TypeId) : OpOk P sy N0 W0 G (cOp P G (.call { callee := .value x, args, argTypes := ts })) (.call { callee := .value x, args, argTypes := ts }) := by
  have e0 : cOp P G (.call { callee := .value x, args, argTypes := ts }) = ⟨fun call a m nx K KP => (cOpd G x).k a fun v => asFn v fun f x c => (cOpds G args.toList).k a fun l => appA l c fun l => appA x l fun l => call f l m nx K KP⟩ := by
    cases x <;> first | exact absurd rfl (hx _) | simp only [cOp, BX.f, undF_eq, infoF_eq, funF_eq]
  rw [e0]
  intro call hcall a m nx K KP hb e act W hG hst hops Y Z hK hZ o ho
  have hb' : (cOpd G x).k a (fun v => asFn v fun f x c => (cOpds G args.toList).k a fun l => appA l c fun l => appA x l fun l => call f l m nx K KP) = true := hb
  obtain ⟨v, h1, h2⟩ := cOpd_ok hG hops (x := x) (by simp [Op.operands, Call.operands]) hb'
  obtain ⟨f, xs, cs, rfl, h3⟩ := asFn_yes h1
  obtain ⟨l, h4, h5⟩ := cOpds_ok hG hops args.toList (by intro y hy; simp [Op.operands, Call.operands]; exact .inr (by simpa using hy)) h3
  generalize hc : act.eval x = cv at h2
  cases h2 with
  | fn hxs hcs =>
    obtain ⟨l1, h6, h7⟩ := appA_ok _ _ _ _ h5 hcs h4
    obtain ⟨l2, h8, h9⟩ := appA_ok _ _ _ _ hxs h7 h6
    have := hcall N0 W0 f l2 m nx K KP h8 e _ W hG hst h9 Y Z hK hZ
    rename_i xv cvs
    have e1 : (execOp act.eval o).run P W = (callFunc f (xv ++ (args.toList.map act.eval ++ cvs)).toArray).run P W := by
      simp [execOp, ho, hc, resolve, Deferred.ofValue, invoke]
      congr 2
      apply Array.ext'
      simp
    rw [e1]
    exact this
theorem op_convert (s d : TypeId) (x : Operand) : OpOk P sy N0 W0 G (cOp P G (.convert s d x)) (.convert s d x) := by
  cases hs : P.underlying s with
  | none =>
    have e1 : cOp P G (.convert s d x) = xNo := by
      cases hd : P.underlying d with
      | none => simp only [cOp, hs, hd, BX.f, undF_eq, infoF_eq, funF_eq]
      | some dd => cases dd <;> simp only [cOp, hs, hd, BX.f, undF_eq, infoF_eq, funF_eq]
    rw [e1]; exact xNo_ok
  | some ds =>
    cases hd : P.underlying d with
    | none =>
      have e1 : cOp P G (.convert s d x) = xNo := by
        cases ds <;> simp only [cOp, hs, hd, BX.f, undF_eq, infoF_eq, funF_eq]
      rw [e1]; exact xNo_ok
    | some dd =>
      cases dd with
      | int k => exact op_convert_int hs hd x
      | string =>
        cases ds with
        | int j => exact op_convert_rune hs hd x
        | string => exact op_convert_str hs hd x
        | _ =>
          have e1 : cOp P G (.convert s d x) = xNo := by simp only [cOp, hs, hd, BX.f, undF_eq, infoF_eq, funF_eq]
          rw [e1]; exact xNo_ok
      | _ =>
        have e1 : cOp P G (.convert s d x) = xNo := by
          cases ds <;> simp only [cOp, hs, hd, BX.f, undF_eq, infoF_eq, funF_eq]
        rw [e1]; exact xNo_ok
theorem no_of {op : Op} (h : cOp P G op = xNo) : OpOk P sy N0 W0 G (cOp P G op) op := by rw [h]; exact xNo_ok
theorem op_ok : ∀ op : Op, OpOk P sy N0 W0 G (cOp P G op) op
  | .move x => op_move x
  | .assign x => op_assign x
  | .pick c x y => op_pick c x y
  | .alloc t => op_alloc t
  | .box t x => op_box t x
  | .build t ps => op_build t ps
  | .buildSlice t n ps => op_buildSlice t n ps
  | .insert .. => no_of (by simp only [cOp, BX.f, undF_eq, infoF_eq, funF_eq])
  | .load t x => op_load t x
  | .store t x v => op_store t x v
  | .ready _ => no_of (by simp only [cOp, BX.f, undF_eq, infoF_eq, funF_eq])
  | .waits _ => no_of (by simp only [cOp, BX.f, undF_eq, infoF_eq, funF_eq])
  | .nilCheck x => op_nilCheck x
  | .binOp op t x y yt => op_binOp op t x y yt
  | .unOp .neg t x => op_neg t x
  | .unOp .not t x => op_not t x
  | .unOp .xor t x => no_of (by simp only [cOp, BX.f, undF_eq, infoF_eq, funF_eq])
  | .unOp .plus t x => no_of (by simp only [cOp, BX.f, undF_eq, infoF_eq, funF_eq])
  | .convert s d x => op_convert s d x
  | .sliceToArrayPointer .. => no_of (by simp only [cOp, BX.f, undF_eq, infoF_eq, funF_eq])
  | .makeInterface t x => op_makeInterface t x
  | .makeFunc (.func f) x c => op_makeFunc f x c
  | .makeFunc (.method _) x c => no_of (by simp only [cOp, BX.f, undF_eq, infoF_eq, funF_eq])
  | .makeFunc (.methodOf ..) x c => no_of (by simp only [cOp, BX.f, undF_eq, infoF_eq, funF_eq])
  | .makeFunc (.via ..) x c => no_of (by simp only [cOp, BX.f, undF_eq, infoF_eq, funF_eq])
  | .makeFunc (.yield _) x c => no_of (by simp only [cOp, BX.f, undF_eq, infoF_eq, funF_eq])
  | .makeMap .. => no_of (by simp only [cOp, BX.f, undF_eq, infoF_eq, funF_eq])
  | .makeChan .. => no_of (by simp only [cOp, BX.f, undF_eq, infoF_eq, funF_eq])
  | .makeSlice t l c => op_makeSlice t l c
  | .slice t x lo hi mx => op_slice t x lo hi mx
  | .fieldAddr t x i => op_fieldAddr t x i
  | .field t x i => op_field t x i
  | .indexAddr t x i => op_indexAddr t x i
  | .index t x i => op_index t x i
  | .lookup .. => no_of (by simp only [cOp, BX.f, undF_eq, infoF_eq, funF_eq])
  | .mapUpdate .. => no_of (by simp only [cOp, BX.f, undF_eq, infoF_eq, funF_eq])
  | .mapEntry .. => no_of (by simp only [cOp, BX.f, undF_eq, infoF_eq, funF_eq])
  | .entryStore .. => no_of (by simp only [cOp, BX.f, undF_eq, infoF_eq, funF_eq])
  | .range .. => no_of (by simp only [cOp, BX.f, undF_eq, infoF_eq, funF_eq])
  | .next .. => no_of (by simp only [cOp, BX.f, undF_eq, infoF_eq, funF_eq])
  | .entry .. => no_of (by simp only [cOp, BX.f, undF_eq, infoF_eq, funF_eq])
  | .typeAssert x s t ok => op_typeAssert x s t ok
  | .extract x i => op_extract x i
  | .call { callee := .value (.func f), args, argTypes } => op_call_static f args argTypes
  | .call { callee := .value (.tmp t), args, argTypes } => op_call_value (.tmp t) (fun _ h => by cases h) args argTypes
  | .call { callee := .value (.const v), args, argTypes } => op_call_value (.const v) (fun _ h => by cases h) args argTypes
  | .call { callee := .value (.global g), args, argTypes } => op_call_value (.global g) (fun _ h => by cases h) args argTypes
  | .call { callee := .invoke .., args, argTypes } => no_of (by simp only [cOp, BX.f, undF_eq, infoF_eq, funF_eq])
  | .call { callee := .builtin b, args, argTypes } => by
    cases b with
    | append => exact op_append args argTypes
    | len => exact op_len args argTypes
    | min => exact op_min args argTypes
    | max => exact op_max args argTypes
    | clear => exact op_clear args argTypes
    | _ => exact no_of (by simp only [cOp, BX.f, undF_eq, infoF_eq, funF_eq])
  | .go _ => no_of (by simp only [cOp, BX.f, undF_eq, infoF_eq, funF_eq])
  | .defer _ => no_of (by simp only [cOp, BX.f, undF_eq, infoF_eq, funF_eq])
  | .panic x => op_panic x
  | .send .. => no_of (by simp only [cOp, BX.f, undF_eq, infoF_eq, funF_eq])
  | .recv .. => no_of (by simp only [cOp, BX.f, undF_eq, infoF_eq, funF_eq])
  | .select .. => no_of (by simp only [cOp, BX.f, undF_eq, infoF_eq, funF_eq])
end
end Go.Proofs.YtnkbpjmijeeddaaGreatDoor.Ev
end

section
/- The evaluator runs code as the model does: operations in turn, branches, blocks, loops. No conditions. -/
namespace Go.Proofs.YtnkbpjmijeeddaaGreatDoor.Ev
open Go Go.RowKit
set_option linter.unusedSimpArgs false
set_option linter.unusedVariables false
section
variable {sy : Nat → Value} {N0 : Par} {W0 : World} {P : Program} {G : Nat}
/-- The temporaries. -/
structure Frm (sy : Nat → Value) (e : Env) (nt : Nat) (a : T AV) (tmps : Array Value) : Prop where
  size : tmps.size = nt
  get : ∀ t, t < top → RV sy e (T.get und a t) (tmps.getD t undef)
inductive RD (sy : Nat → Value) (e : Env) : List Dfr → List Deferred → Prop
  | nil : RD sy e [] []
  | cons {d : Dfr} {ds : List Dfr} {xs cs : List Value} {es : List Deferred} (hx : RL sy e d.args xs) (hc : RL sy e d.captured cs) (h : RD sy e ds es) : RD sy e (d :: ds) ({ target := .fn (.func d.f) cs.toArray, args := xs.toArray } :: es)
theorem RD.mono {e e' : Env} (he : e.le e') : ∀ {ds : List Dfr} {es : List Deferred}, RD sy e ds es → RD sy e' ds es
  | _, _, .nil => .nil
  | _, _, .cons hx hc h => .cons (hx.mono he) (hc.mono he) (RD.mono he h)
theorem Frm.mono {e e' : Env} {nt : Nat} {a : T AV} {tmps : Array Value} (h : Frm sy e nt a tmps) (he : e.le e') : Frm sy e' nt a tmps := ⟨h.size, fun t ht => (h.get t ht).mono he⟩
theorem Frm.ops {e : Env} {nt : Nat} {a : T AV} {act : Act} (h : Frm sy e nt a act.tmps) (l : Array Operand) : Ops sy e a act l := fun t _ ht => h.get t ht
theorem cPut_ok {e : Env} {nt : Nat} {a : T AV} {act : Act} {dst : Option Tmp} {v : AV} {v' : Value} {K : T AV → Bool} (h : (cPut nt dst).f a v K = true) (hf : Frm sy e nt a act.tmps) (hv : RV sy e v v') : ∃ a', K a' = true ∧ Frm sy e nt a' (act.put dst v').tmps := by
  cases dst with
  | none => exact ⟨a, h, hf⟩
  | some d =>
    cases hb : (Nat.blt d nt && Nat.blt d top) with
    | false => simp only [cPut, hb, BP.f] at h; cases h
    | true =>
      simp only [cPut, hb, BP.f] at h
      simp only [Bool.and_eq_true] at hb
      have hd := blt_iff.1 hb.1
      have hd' := blt_iff.1 hb.2
      rw [T.setP_eq] at h
      refine ⟨_, h, ⟨by simp [Act.put, hf.size], fun t ht => ?_⟩⟩
      by_cases e1 : t = d
      · subst e1
        rw [T.get_set]
        have : (act.tmps.setIfInBounds t v').getD t undef = v' := by
          rw [Array.getD_eq_getD_getElem?, Array.getElem?_setIfInBounds_self_of_lt (by rw [hf.size]; exact hd)]; rfl
        show RV sy e v ((act.tmps.setIfInBounds t v').getD t undef)
        rw [this]; exact hv
      · have hne : d ≠ t := fun eb => e1 (bitsOf_inj (by unfold top at hd'; omega) (by unfold top at ht; omega) eb).symm
        rw [T.get_set_ne _ _ _ _ _ hne]
        have : (act.tmps.setIfInBounds d v').getD t undef = act.tmps.getD t undef := by
          rw [Array.getD_eq_getD_getElem?, Array.getD_eq_getD_getElem?, Array.getElem?_setIfInBounds_ne (Ne.symm e1)]
        show RV sy e _ ((act.tmps.setIfInBounds d v').getD t undef)
        rw [this]; exact hf.get t ht
theorem put_defers (act : Act) (dst : Option Tmp) (v : Value) : (act.put dst v).defers = act.defers := by cases dst <;> rfl
/-- What a stretch of code leaves. -/
structure Ends (sy : Nat → Value) (N0 : Par) (W0 : World) (e : Env) (nt : Nat) (C : T AV → List Dfr → M → Nat → Bool) (act : Act) (W : World) : Prop where
  is : ∃ e' a ds m nx, e.le e' ∧ St sy N0 W0 e' m nx W ∧ Frm sy e' nt a act.tmps ∧ RD sy e' ds act.defers ∧ C a ds m nx = true
def Post (sy : Nat → Value) (N0 : Par) (W0 : World) (e : Env) (nt : Nat) (N : KN) (X : KX) : Exit → Act → World → Prop
  | .normal, act, W => Ends sy N0 W0 e nt N act W
  | .exit id, act, W => Ends sy N0 W0 e nt (X (.exit id)) act W
  | .goto l, act, W => Ends sy N0 W0 e nt (X (.goto l)) act W
  | .ret, act, W => Ends sy N0 W0 e nt (X .ret) act W
  | .panic chain, act, W => ∃ e' c cs a ds m nx, e.le e' ∧ St sy N0 W0 e' m nx W ∧ Frm sy e' nt a act.tmps ∧ RD sy e' ds act.defers ∧ chain = raw cs ∧ RL sy e' c cs ∧ X (.pan c) a ds m nx = true
  | .outgrown, _, _ => False
theorem Ends.mono {e e' : Env} {nt : Nat} {C C' : T AV → List Dfr → M → Nat → Bool} {act : Act} {W : World} (h : Ends sy N0 W0 e' nt C act W) (he : e.le e') (hC : ∀ a ds m nx, C a ds m nx = true → C' a ds m nx = true) : Ends sy N0 W0 e nt C' act W := by
  obtain ⟨e1, a, ds, m, nx, h1, h2, h3, h4, h5⟩ := h.is
  exact ⟨e1, a, ds, m, nx, Env.le_trans he h1, h2, h3, h4, hC _ _ _ _ h5⟩
theorem Post.mono {e e' : Env} {nt : Nat} {N N' : KN} {X : KX} {x : Exit} {act : Act} {W : World} (h : Post sy N0 W0 e' nt N X x act W) (he : e.le e') (hN : ∀ a ds m nx, N a ds m nx = true → N' a ds m nx = true) : Post sy N0 W0 e nt N' X x act W := by
  cases x with
  | normal => exact Ends.mono h he hN
  | exit id => exact Ends.mono h he fun _ _ _ _ h => h
  | goto l => exact Ends.mono h he fun _ _ _ _ h => h
  | ret => exact Ends.mono h he fun _ _ _ _ h => h
  | panic ch =>
    obtain ⟨e1, c, cs, a, ds, m, nx, h1, h2⟩ := h
    exact ⟨e1, c, cs, a, ds, m, nx, Env.le_trans he h1, h2⟩
  | outgrown => exact h
def GlobOk (G : Nat) (e : Env) : Prop := ∀ g, g < G → ∃ sz, e g = some (g, 0, sz)
theorem GlobOk.mono {e e' : Env} (h : GlobOk G e) (he : e.le e') : GlobOk G e' := fun g hg => let ⟨sz, h1⟩ := h g hg; ⟨sz, he _ _ h1⟩
def CodeOk (P : Program) (sy : Nat → Value) (N0 : Par) (W0 : World) (G nt : Nat) (b : BC) (c : Code) : Prop :=
  ∀ call, (∀ N0 W0, CallOk P sy N0 W0 G call) → ∀ L a ds m nx N X, b.f call L a ds m nx N X = true → ∀ e act W, GlobOk G e → St sy N0 W0 e m nx W → Frm sy e nt a act.tmps → RD sy e ds act.defers → c.wp P (Post sy N0 W0 e nt N X) act W

/-! ### One operation -/
/-- From what an operation does to its law in the model's calculus. -/
theorem upon_wp {o : Oper} {act : Act} {next : Act → World → Prop} {Q : Exit → Act → World → Prop} {r : Result Next} (h : Upon P (fun v W => next (act.put o.dst v) W) (fun cs W => Q (.panic (raw cs)) act W) r) : o.upon P act next Q r := by
  cases r with
  | ok n w =>
    cases n with
    | value v => exact h
    | skip => exact h
    | enter f args =>
      refine Calls.mono h fun en w' hw => ?_
      cases en with
      | returned v => exact hw
      | panicked chain =>
        obtain ⟨cs, rfl, h1⟩ := hw
        exact h1
      | outgrown => exact hw.elim
    | _ => exact h.elim
  | halt x w =>
    cases x with
    | panic v => exact h
    | _ => exact h.elim
def DoOk (P : Program) (sy : Nat → Value) (N0 : Par) (W0 : World) (G nt : Nat) (b : BC) (ops : Array Oper) (o : Oper) : Prop :=
  ∀ call, (∀ N0 W0, CallOk P sy N0 W0 G call) → ∀ L a ds m nx N X, b.f call L a ds m nx N X = true → ∀ e act W, GlobOk G e → St sy N0 W0 e m nx W → Frm sy e nt a act.tmps → RD sy e ds act.defers →
    ∀ (next : Act → World → Prop) (Q : Exit → Act → World → Prop), (∀ act' W', Ends sy N0 W0 e nt N act' W' → next act' W') → (∀ chain act' W', Post sy N0 W0 e nt N X (.panic chain) act' W' → Q (.panic chain) act' W') →
      if Region.wanted o (yielded ops act.tmps) then o.wp P act W next Q else next (act.put o.dst undef) W
theorem cDo_ok (nt : Nat) (o : Oper) {call : CallK} (hcall : ∀ N0 W0, CallOk P sy N0 W0 G call) {L : Nat} {a : T AV} {ds : List Dfr} {m : M} {nx : Nat} {N : KN} {X : KX} (h : (cDo P G nt o).f call L a ds m nx N X = true) {e : Env} {act : Act} {W : World} (hG : GlobOk G e) (hst : St sy N0 W0 e m nx W)
    (hf : Frm sy e nt a act.tmps) (hd : RD sy e ds act.defers) {next : Act → World → Prop} {Q : Exit → Act → World → Prop} (hn : ∀ act' W', Ends sy N0 W0 e nt N act' W' → next act' W') (hq : ∀ chain act' W', Post sy N0 W0 e nt N X (.panic chain) act' W' → Q (.panic chain) act' W') :
    o.wp P act W next Q := by
  have plain : (⟨fun call _ a ds m nx KN KX => (cOp P G o.op).f call a m nx (fun v m nx => (cPut nt o.dst).f a v fun a => KN a ds m nx) (fun c m nx => KX (.pan c) a ds m nx)⟩ : BC).f call L a ds m nx N X = true → o.wp P act W next Q := by
    intro hb
    refine upon_wp ?_
    refine op_ok (P := P) (G := G) (sy := sy) (N0 := N0) (W0 := W0) o.op call hcall a m nx _ _ hb e act W hG hst (hf.ops _) (fun v W => next (act.put o.dst v) W) (fun cs W => Q (.panic (raw cs)) act W) ?_ ?_ o rfl
    · intro e' v v' m' nx' W' he hst' hv hK
      obtain ⟨a', h1, h2⟩ := cPut_ok (act := act) hK (hf.mono he) hv
      exact hn _ _ ⟨e', a', ds, m', nx', he, hst', h2, by rw [put_defers]; exact hd.mono he, h1⟩
    · intro e' c cs m' nx' W' he hst' hc hK
      exact hq _ _ _ ⟨e', c, cs, a, ds, m', nx', he, hst', hf.mono he, hd.mono he, rfl, hc, hK⟩
  by_cases hdef : ∃ x args ts, o.op = .defer { callee := .value x, args, argTypes := ts }
  · obtain ⟨x, args, ts, hop⟩ := hdef
    have hb : (cOpd G x).k a (fun v => asFn v fun f x c => (cOpds G args.toList).k a fun l => appA x l fun args => (cPut nt o.dst).f a und fun a => N a ({ f, args, captured := c } :: ds) m nx) = true := by
      unfold cDo at h
      rw [hop] at h
      exact h
    have hops := hf.ops (Op.defer { callee := .value x, args, argTypes := ts }).operands
    obtain ⟨v, h1, h2⟩ := cOpd_ok hG hops (x := x) (by simp [Op.operands, Call.operands]) hb
    obtain ⟨f, xs, cs, rfl, h3⟩ := asFn_yes h1
    obtain ⟨l, h4, h5⟩ := cOpds_ok hG hops args.toList (by intro y hy; simp [Op.operands, Call.operands]; exact .inr (by simpa using hy)) h3
    generalize hc : act.eval x = cv at h2
    cases h2 with
    | fn hxs hcs =>
      rename_i xv cvs
      obtain ⟨r, h6, h7⟩ := appA_ok _ _ _ _ hxs h5 h4
      obtain ⟨a', h8, h9⟩ := cPut_ok (act := { act with defers := { target := .fn (.func f) cvs.toArray, args := (xv ++ args.toList.map act.eval).toArray } :: act.defers }) h6 hf RV.und
      have hrun : (execOp act.eval o).run P W = .ok (.defer { target := .fn (.func f) cvs.toArray, args := (xv ++ args.toList.map act.eval).toArray }) W := by
        simp [execOp, hop, hc, resolve, Deferred.ofValue]
      unfold Oper.wp
      rw [hrun]
      refine hn _ _ ⟨e, a', _, m, nx, Env.le_refl e, hst, h9, ?_, h8⟩
      rw [put_defers]
      exact .cons h7 hcs hd
  · refine plain ?_
    unfold cDo at h
    split at h
    · rename_i hop
      exact absurd ⟨_, _, _, hop⟩ hdef
    · exact h
def boolOf : Value → Option Bool
  | .bool b => some b
  | _ => none
theorem yielded_eq {ops : Array Oper} {tmps : Array Value} {j d : Nat} (hd : (ops[j]?).bind (·.dst) = some d) : yielded ops tmps j = boolOf (tmps.getD d undef) := by
  unfold yielded
  rw [hd]
  show (match tmps[d]? with | some (.bool b) => some b | _ => none) = _
  rw [Array.getD_eq_getD_getElem?]
  cases tmps[d]? with
  | none => rfl
  | some v => cases v <;> rfl
theorem isIt_ok {e : Env} {w : Bool} {v : AV} {u : Value} {Y N : Bool} (h : isIt w v Y N = true) (hv : RV sy e v u) : (boolOf u = some w ∧ Y = true) ∨ (boolOf u ≠ some w ∧ N = true) := by
  cases v with
  | bool b =>
    cases hv
    cases b <;> cases w <;> first | exact .inl ⟨rfl, h⟩ | exact .inr ⟨(by simp [boolOf]), h⟩
  | sym i => cases h
  | eol => cases h
  | nil k =>
    refine .inr ⟨?_, h⟩
    cases hv <;> simp [boolOf]
  | _ =>
    refine .inr ⟨?_, h⟩
    cases hv <;> simp [boolOf]
theorem cOne_ok (nt : Nat) (ops : Array Oper) (o : Oper) : DoOk P sy N0 W0 G nt (cOne P G nt ops o) ops o := by
  intro call hcall L a ds m nx N X h e act W hG hst hf hd next Q hn hq
  have skip : (cPut nt o.dst).f a und (fun a => N a ds m nx) = true → next (act.put o.dst undef) W := fun hp => by
    obtain ⟨a', h1, h2⟩ := cPut_ok (act := act) hp hf RV.und
    exact hn _ _ ⟨e, a', ds, m, nx, Env.le_refl e, hst, h2, by rw [put_defers]; exact hd, h1⟩
  cases hg : o.guard with
  | none =>
    simp only [cOne, hg, BC.f, undF_eq, infoF_eq, funF_eq] at h
    have hw : Region.wanted o (yielded ops act.tmps) = true := by simp [Region.wanted, hg]
    rw [if_pos hw]
    exact cDo_ok nt o hcall h hG hst hf hd hn hq
  | some jw =>
    obtain ⟨j, w⟩ := jw
    cases hdst : (ops[j]?).bind (·.dst) with
    | none =>
      simp only [cOne, hg, hdst, BC.f, undF_eq, infoF_eq, funF_eq] at h
      have hw : ¬ Region.wanted o (yielded ops act.tmps) = true := by simp [Region.wanted, hg, yielded, hdst]
      rw [if_neg hw]
      exact skip h
    | some d =>
      cases hb : Nat.blt d top with
      | false => simp only [cOne, hg, hdst, hb, BC.f, undF_eq, infoF_eq, funF_eq] at h; cases h
      | true =>
        simp only [cOne, hg, hdst, hb, BC.f, undF_eq, infoF_eq, funF_eq] at h
        rw [T.getP_eq] at h
        have hy := yielded_eq (tmps := act.tmps) hdst
        rcases isIt_ok h (hf.get d (blt_iff.1 hb)) with ⟨h1, h2⟩ | ⟨h1, h2⟩
        · have hw : Region.wanted o (yielded ops act.tmps) = true := by simp only [Region.wanted, hg, hy, h1]; simp
          rw [if_pos hw]
          exact cDo_ok nt o hcall h2 hG hst hf hd hn hq
        · have hw : ¬ Region.wanted o (yielded ops act.tmps) = true := by simp only [Region.wanted, hg, hy]; simpa using h1
          rw [if_neg hw]
          exact skip h2
/-- Operations in turn. -/
theorem cOps_ok (nt : Nat) (ops : Array Oper) {call : CallK} (hcall : ∀ N0 W0, CallOk P sy N0 W0 G call) (L : Nat) : ∀ (l : List Oper) (k : Nat), l = ops.toList.drop k → ∀ (a : T AV) (ds : List Dfr) (m : M) (nx : Nat) (N : KN) (X : KX), (cOps P G nt ops l).f call L a ds m nx N X = true → ∀ (e : Env) (act : Act) (W : World), GlobOk G e → St sy N0 W0 e m nx W → Frm sy e nt a act.tmps → RD sy e ds act.defers →
    ∀ e0 : Env, e0.le e → wpOps P ops (Post sy N0 W0 e0 nt N X) (List.range' k (ops.size - k)) act W
  | [], k, hl, a, ds, m, nx, N, X, h, e, act, W, hG, hst, hf, hd, e0, he0 => by
    have : ops.size - k = 0 := by
      have := congrArg List.length hl
      simp at this; omega
    rw [this]
    exact ⟨e, a, ds, m, nx, he0, hst, hf, hd, h⟩
  | o :: l, k, hl, a, ds, m, nx, N, X, h, e, act, W, hG, hst, hf, hd, e0, he0 => by
    have hk : k < ops.size := by
      have := congrArg List.length hl
      simp at this; omega
    have ho : ops[k]? = some o := by
      rw [← Array.getElem?_toList, ← List.head?_drop, ← hl]; rfl
    have hl' : l = ops.toList.drop (k + 1) := by
      rw [← List.tail_drop, ← hl]; rfl
    have e1 : ops.size - k = (ops.size - (k + 1)) + 1 := by omega
    rw [e1, List.range'_succ]
    have h' : (cOne P G nt ops o).f call L a ds m nx (fun a ds m nx => (cOps P G nt ops l).f call L a ds m nx N X) X = true := h
    have hone := cOne_ok nt ops o call hcall L a ds m nx _ X h' e act W hG hst hf hd (wpOps P ops (Post sy N0 W0 e0 nt N X) (List.range' (k + 1) (ops.size - (k + 1)))) (Post sy N0 W0 e0 nt N X)
      (fun act' W' hE => by
        obtain ⟨e', a', ds', m', nx', he, hst', hf', hd', hC⟩ := hE.is
        exact cOps_ok nt ops hcall L l (k + 1) hl' a' ds' m' nx' N X hC e' act' W' (hG.mono he) hst' hf' hd' e0 (Env.le_trans he0 he))
      (fun chain act' W' hP => by
        obtain ⟨e', c, cs, a', ds', m', nx', he, rest⟩ := hP
        exact ⟨e', c, cs, a', ds', m', nx', Env.le_trans he0 he, rest⟩)
    unfold wpOps
    rw [ho]
    simp only
    split
    · rename_i hw
      rw [if_pos hw] at hone
      exact .inl hone
    · rename_i hw
      rw [if_neg hw] at hone
      exact hone
theorem cRegion_ok (nt id : Nat) (ops : Array Oper) : CodeOk P sy N0 W0 G nt (cOps P G nt ops ops.toList) (.region id ops false) := by
  intro call hcall L a ds m nx N X h e act W hG hst hf hd
  refine wp_region ?_
  rw [List.range_eq_range']
  exact cOps_ok nt ops hcall L ops.toList 0 rfl a ds m nx N X h e act W hG hst hf hd e (Env.le_refl e)
/-- A loop, from its second round on. -/
theorem loop_ok {nt : Nat} {b : BC} {c : Code} (hb : CodeOk P sy N0 W0 G nt b c) {call : CallK} (hcall : ∀ N0 W0, CallOk P sy N0 W0 G call) (L : Nat) (X : KX) (N : KN) : ∀ (n : Nat) (a : T AV) (ds : List Dfr) (m : M) (nx : Nat), loopK b call L X n a ds m nx = true → ∀ (e : Env) (act : Act) (W : World), GlobOk G e → St sy N0 W0 e m nx W → Frm sy e nt a act.tmps → RD sy e ds act.defers →
    ∀ (fr : Frame) (k : List Item) (cs : List Frame), ∃ x act' W', Post sy N0 W0 e nt N X x act' W' ∧ Arrives P (lone (fr.at act (.code c :: .inLoop c :: k)) cs W) fr k cs x act' W'
  | 0, a, ds, m, nx, h => by cases h
  | n + 1, a, ds, m, nx, h => by
    intro e act W hG hst hf hd fr k cs
    have h' : b.f call L a ds m nx (fun a ds m nx => loopK b call L X n a ds m nx) X = true := h
    obtain ⟨x, act1, W1, hP, harr⟩ := hb call hcall L a ds m nx _ X h' e act W hG hst hf hd fr (.inLoop c :: k) cs
    cases x with
    | normal =>
      obtain ⟨e', a', ds', m', nx', he, hst', hf', hd', hC⟩ := hP.is
      obtain ⟨x2, act2, W2, hP2, harr2⟩ := loop_ok hb hcall L X N n a' ds' m' nx' hC e' act1 W1 (hG.mono he) hst' hf' hd' fr k cs
      exact ⟨x2, act2, W2, Post.mono hP2 he (fun _ _ _ _ h => h), .of_steps (Steps.trans harr (.one step_inLoop)) harr2⟩
    | exit id => exact ⟨(.exit id), act1, W1, hP, .pass (x := .inLoop c) rfl (fun _ _ => .inl (by simp)) harr⟩
    | goto l => exact ⟨(.goto l), act1, W1, hP, .pass (x := .inLoop c) rfl (fun _ _ => .inl (by simp)) harr⟩
    | ret => exact ⟨.ret, act1, W1, hP, .pass (x := .inLoop c) rfl (fun _ _ => .inl (by simp)) harr⟩
    | panic ch => exact ⟨(.panic ch), act1, W1, hP, .pass (x := .inLoop c) rfl (fun _ _ => .inl (by simp)) harr⟩
    | outgrown => exact hP.elim
end
end Go.Proofs.YtnkbpjmijeeddaaGreatDoor.Ev
end

section
/- The evaluator runs functions as the model does: calls, results, functions that were put off, recover. No conditions. -/
namespace Go.Proofs.YtnkbpjmijeeddaaGreatDoor.Ev
open Go Go.RowKit
set_option linter.unusedSimpArgs false
set_option linter.unusedVariables false
section
variable {sy : Nat → Value} {N0 : Par} {W0 : World} {P : Program} {G : Nat}
theorem cNo_ok {nt : Nat} {c : Code} : CodeOk P sy N0 W0 G nt cNo c := fun _ _ _ _ _ _ _ _ _ h => by cases h
theorem post_inBlock {e : Env} {nt id : Nat} {N : KN} {X : KX} {x : Exit} {act : Act} {W : World} (h : Post sy N0 W0 e nt N (outOf id N X) x act W) : Exit.inBlock id (Post sy N0 W0 e nt N X) x act W := by
  cases x with
  | normal => exact h
  | exit i =>
    obtain ⟨e', a, ds, m, nx, h1, h2, h3, h4, h5⟩ := h.is
    have h6 : ifB (Nat.beq i id) (N a ds m nx) (X (.exit i) a ds m nx) = true := h5
    by_cases hi : i = id
    · subst hi
      rw [ifB_true (Nat.beq_refl i)] at h6
      show (if i = i then Post sy N0 W0 e nt N X .normal act W else _)
      rw [if_pos rfl]
      exact ⟨e', a, ds, m, nx, h1, h2, h3, h4, h6⟩
    · rw [ifB_false (beq_no hi)] at h6
      show (if i = id then _ else Post sy N0 W0 e nt N X (.exit i) act W)
      rw [if_neg hi]
      exact ⟨e', a, ds, m, nx, h1, h2, h3, h4, h6⟩
  | goto l => exact h
  | ret => exact h
  | panic ch => exact h
  | outgrown => exact h
theorem cCode_ok (hD : ∀ nt id ops, CodeOk P sy N0 W0 G nt (cDraw P G nt ops) (.region id ops true)) (nt : Nat) : ∀ c : Code, CodeOk P sy N0 W0 G nt (cCode P G nt c) c
  | .skip => fun call _ L a ds m nx N X h e act W hG hst hf hd => wp_skip ⟨e, a, ds, m, nx, Env.le_refl e, hst, hf, hd, h⟩
  | .label l => fun call _ L a ds m nx N X h e act W hG hst hf hd => wp_label ⟨e, a, ds, m, nx, Env.le_refl e, hst, hf, hd, h⟩
  | .region id ops false => cRegion_ok nt id ops
  | .region id ops true => hD nt id ops
  | .seq x y => fun call hcall L a ds m nx N X h e act W hG hst hf hd => by
    have h' : (cCode P G nt x).f call L a ds m nx (fun a ds m nx => (cCode P G nt y).f call L a ds m nx N X) X = true := h
    refine wp_seq (wp_mono (cCode_ok hD nt x call hcall L a ds m nx _ X h' e act W hG hst hf hd) ?_)
    intro x' act' W' hP
    cases x' with
    | normal =>
      obtain ⟨e', a', ds', m', nx', he, hst', hf', hd', hC⟩ := hP.is
      exact wp_mono (cCode_ok hD nt y call hcall L a' ds' m' nx' N X hC e' act' W' (hG.mono he) hst' hf' hd') fun x act W h => Post.mono h he fun _ _ _ _ h => h
    | exit id => exact hP
    | goto l => exact hP
    | ret => exact hP
    | panic ch => exact hP
    | outgrown => exact hP
  | .cond c x y => fun call hcall L a ds m nx N X h e act W hG hst hf hd => by
    have h' : (cOpd G c).k a (fun v => asBool v fun b => ifB b ((cCode P G nt x).f call L a ds m nx N X) ((cCode P G nt y).f call L a ds m nx N X)) = true := h
    obtain ⟨v, h1, h2⟩ := cOpd_ok (l := #[c]) hG (hf.ops _) (x := c) (by simp) h'
    obtain ⟨b, rfl, h3⟩ := asBool_yes h1
    generalize hc : act.eval c = cv at h2
    cases h2
    cases b with
    | true => exact wp_cond_true hc (cCode_ok hD nt x call hcall L a ds m nx N X h3 e act W hG hst hf hd)
    | false => exact wp_cond_false hc (cCode_ok hD nt y call hcall L a ds m nx N X h3 e act W hG hst hf hd)
  | .block id x => fun call hcall L a ds m nx N X h e act W hG hst hf hd => by
    have h' : (cCode P G nt x).f call L a ds m nx N (outOf id N X) = true := h
    exact wp_block (wp_mono (cCode_ok hD nt x call hcall L a ds m nx N _ h' e act W hG hst hf hd) fun x act W h => post_inBlock h)
  | .loop x => fun call hcall L a ds m nx N X h e act W hG hst hf hd => by
    have h' : loopK (cCode P G nt x) call L X L a ds m nx = true := h
    intro fr k cs
    obtain ⟨x', act', W', hP, harr⟩ := loop_ok (cCode_ok hD nt x) hcall L X N L a ds m nx h' e act W hG hst hf hd fr k cs
    exact ⟨x', act', W', hP, .of_steps (.one step_loop) harr⟩
  | .exit id => fun call _ L a ds m nx N X h e act W hG hst hf hd => wp_exit ⟨e, a, ds, m, nx, Env.le_refl e, hst, hf, hd, h⟩
  | .goto l => fun call _ L a ds m nx N X h e act W hG hst hf hd => wp_goto ⟨e, a, ds, m, nx, Env.le_refl e, hst, hf, hd, h⟩
  | .ret => fun call _ L a ds m nx N X h e act W hG hst hf hd => wp_ret ⟨e, a, ds, m, nx, Env.le_refl e, hst, hf, hd, h⟩
  | .rangeFunc .. => cNo_ok
  | .scope _ => cNo_ok
  | .refuse _ => cNo_ok

/-! ### Entering, results -/
theorem enter_from : ∀ (vs : List Value) (l : AV) (o : Nat) (c : T AV) {e : Env} {K : T AV → Bool}, RL sy e l vs → foldAV (β := Nat → T AV → Bool) (fun _ c => K c) (fun x r o c => T.setP und x o c fun c => frcN (Nat.succ o) fun o => r o c) l o c = true → o + vs.length ≤ 2 ^ 25 →
    ∃ c', K c' = true ∧ (∀ i, i < vs.length → ∃ v, vs[i]? = some v ∧ RV sy e (T.get und c' ((o + i))) v) ∧ ∀ i, i < 2 ^ 25 → (i < o ∨ o + vs.length ≤ i) → T.get und c' i = T.get und c i
  | [], l, o, c, e, K, hl, h, _ => by
    cases hl
    exact ⟨c, h, (fun i hi => by simp at hi), fun i _ _ => rfl⟩
  | v :: vs, l, o, c, e, K, hl, h, hb => by
    cases hl with
    | cons hx hl =>
      rename_i x l
      simp only [List.length_cons] at hb
      have h' : T.setP und x o c (fun c => frcN (Nat.succ o) fun o => foldAV (β := Nat → T AV → Bool) (fun _ c => K c) (fun x r o c => T.setP und x o c fun c => frcN (Nat.succ o) fun o => r o c) l o c) = true := h
      rw [T.setP_eq, frcN_eq] at h'
      obtain ⟨c', h1, h2, h3⟩ := enter_from vs l (o + 1) _ hl h' (by omega)
      refine ⟨c', h1, fun i hi => ?_, fun i hi1 hi2 => ?_⟩
      · cases i with
        | zero =>
          have := h3 o (by omega) (.inl (by omega))
          refine ⟨v, rfl, ?_⟩
          have e3 : (o + 0) = o := rfl
          rw [e3, this, T.get_set]
          exact hx
        | succ i =>
          obtain ⟨u, h7, h8⟩ := h2 i (by simpa using hi)
          have e2 : o + (i + 1) = o + 1 + i := by omega
          exact ⟨u, by simpa using h7, by rw [e2]; exact h8⟩
      · simp only [List.length_cons] at hi2
        rw [h3 i hi1 (by omega), T.get_set_ne _ _ _ _ _ (fun eb => by
          have := bitsOf_inj (by omega) hi1 eb
          omega)]
theorem enter_ok {l : AV} {args : List Value} {nt : Nat} {e : Env} {K : T AV → Bool} (h : enterK l K = true) (hl : RL sy e l args) (hn : args.length ≤ nt) (ht : nt ≤ top) : ∃ a, K a = true ∧ Frm sy e nt a (args.toArray ++ Array.replicate (nt - args.toArray.size) undef) := by
  obtain ⟨a, h1, h2, h3⟩ := enter_from args l 0 .leaf hl h (by unfold top at ht; omega)
  refine ⟨a, h1, ⟨by simp; omega, fun t htt => ?_⟩⟩
  rw [Array.getD_eq_getD_getElem?]
  by_cases hta : t < args.length
  · obtain ⟨v, h4, h5⟩ := h2 t hta
    rw [Nat.zero_add] at h5
    rw [Array.getElem?_append_left (by simpa using hta)]
    simp only [List.getElem?_toArray, h4, Option.getD_some]
    exact h5
  · have h6 := h3 t (by unfold top at htt; omega) (.inr (by omega))
    rw [h6, T.get_leaf, Array.getElem?_append_right (by simp; omega), Array.getElem?_replicate]
    split <;> exact RV.und
theorem cRes1_ok {r : ResultVar} {nt : Nat} {a : T AV} {m : M} {nx : Nat} {tmps : Array Value} {W : World} {e : Env} {K : AV → Bool} (h : (cRes1 P r).f a m K = true) (hf : Frm sy e nt a tmps) (hst : St sy N0 W0 e m nx W) :
    ∃ v v', K v = true ∧ RV sy e v v' ∧ (match r with | .tmp t => (pure (tmps.getD t undef) : Sem Value) | .cell x t => do loadVar t (← asAddr (tmps.getD x undef))).run P W = .ok v' W := by
  cases r with
  | tmp t =>
    cases hb : Nat.blt t top with
    | false => simp only [cRes1, hb, BQ.f] at h; cases h
    | true =>
      simp only [cRes1, hb, BQ.f] at h
      rw [T.getP_eq] at h
      exact ⟨_, _, h, hf.get t (blt_iff.1 hb), rfl⟩
  | cell x t =>
    cases hb : Nat.blt x top with
    | false => simp only [cRes1, hb, BQ.f] at h; cases h
    | true =>
      simp only [cRes1, hb, BQ.f] at h
      rw [T.getP_eq] at h
      obtain ⟨ad, y, v, h1, h2, h3, h4⟩ := cLoad_ok h hst.rm (hf.get x (blt_iff.1 hb))
      refine ⟨y, v, h2, h3, ?_⟩
      simp only [Sem.run_bind, h1]
      simp [asAddr, h4]
def resSem (tmps : Array Value) : ResultVar → Sem Value
  | .tmp t => pure (tmps.getD t undef)
  | .cell x t => do loadVar t (← asAddr (tmps.getD x undef))
theorem cResL_ok {nt : Nat} {a : T AV} {m : M} {nx : Nat} {tmps : Array Value} {W : World} {e : Env} (hf : Frm sy e nt a tmps) (hst : St sy N0 W0 e m nx W) : ∀ (rs : List ResultVar) {K : AV → Bool}, (cResL P rs).f a m K = true → ∃ w vs, K w = true ∧ RL sy e w vs ∧ (rs.mapM (resSem tmps)).run P W = .ok vs W ∧ vs.length = rs.length
  | [], K, h => ⟨.eol, [], h, .eol, rfl, rfl⟩
  | r :: rs, K, h => by
    have h' : (cRes1 P r).f a m (fun v => (cResL P rs).f a m fun w => K (.cons v w)) = true := h
    obtain ⟨v, v', h1, h2, h3⟩ := cRes1_ok h' hf hst
    obtain ⟨w, vs, h4, h5, h6, h7⟩ := cResL_ok hf hst rs h1
    have h3' : (resSem tmps r).run P W = .ok v' W := by cases r <;> exact h3
    refine ⟨_, _, h4, .cons h2 h5, ?_, congrArg Nat.succ h7⟩
    simp [List.mapM_cons, Sem.run_bind, h3', h6]
theorem results_eq (fn : Func) (tmps : Array Value) : results fn tmps = (do let vs ← fn.results.mapM (resSem tmps); pure (if h : vs.size = 1 then vs[0] else .tuple vs)) := by
  unfold results
  congr 1
  try (congr 1; funext r; cases r <;> rfl)
theorem cRes_ok {fn : Func} {nt : Nat} {a : T AV} {m : M} {nx : Nat} {tmps : Array Value} {W : World} {e : Env} {K : AV → Bool} (h : (cRes P fn.results.toList).f a m K = true) (hf : Frm sy e nt a tmps) (hst : St sy N0 W0 e m nx W) :
    ∃ v v', K v = true ∧ RV sy e v v' ∧ (results fn tmps).run P W = .ok v' W := by
  have key : ∀ (rs : List ResultVar), fn.results.toList = rs → (results fn tmps).run P W = ((rs.mapM (resSem tmps)).run P W).andThen fun vs W' => .ok (if h : vs.length = 1 then vs[0] else .tuple vs.toArray) W' := by
    intro rs hrs
    rw [results_eq, Array.mapM_eq_mapM_toList, hrs]
    simp [Sem.run_bind]
  cases hr : fn.results.toList with
  | nil =>
    rw [hr] at h
    have h' : (cResL P []).f a m (fun w => K (.tup w)) = true := h
    obtain ⟨w, vs, h1, h2, h3, _⟩ := cResL_ok hf hst [] h'
    refine ⟨_, _, h1, .tup h2, ?_⟩
    rw [key [] hr, h3]
    cases h2 with
    | eol => simp
    | cons hv hl => simp at h3
  | cons r rs =>
    cases rs with
    | nil =>
      rw [hr] at h
      have h' : (cRes1 P r).f a m K = true := h
      obtain ⟨v, v', h1, h2, h3⟩ := cRes1_ok h' hf hst
      have h3' : (resSem tmps r).run P W = .ok v' W := by cases r <;> exact h3
      refine ⟨v, v', h1, h2, ?_⟩
      rw [key [r] hr]
      simp [List.mapM_cons, h3']
    | cons r2 rs =>
      rw [hr] at h
      have h' : (cResL P (r :: r2 :: rs)).f a m (fun w => K (.tup w)) = true := h
      obtain ⟨w, vs, h1, h2, h3, h4⟩ := cResL_ok hf hst _ h'
      refine ⟨_, _, h1, .tup h2, ?_⟩
      rw [key _ hr, h3]
      have hlen : vs.length ≠ 1 := by
        rw [h4]; simp
      simp [hlen]
end
end Go.Proofs.YtnkbpjmijeeddaaGreatDoor.Ev
end

section
/- The evaluator runs functions as the model does: functions that were put off, recover, calls. No conditions. -/
namespace Go.Proofs.YtnkbpjmijeeddaaGreatDoor.Ev
open Go Go.RowKit
set_option linter.unusedSimpArgs false
set_option linter.unusedVariables false
section
variable {sy : Nat → Value} {N0 : Par} {W0 : World} {P : Program} {G : Nat}
inductive RC (sy : Nat → Value) (e : Env) : List (AV × Bool) → List PanicEntry → Prop
  | nil : RC sy e [] []
  | cons {v : AV} {v' : Value} {b : Bool} {l : List (AV × Bool)} {es : List PanicEntry} (hv : RV sy e v v') (h : RC sy e l es) : RC sy e ((v, b) :: l) ({ v := v', recovered := b, goexit := false } :: es)
inductive RMode (sy : Nat → Value) (e : Env) : AM → FrameMode → Prop
  | returning : RMode sy e none .returning
  | panicking {l : List (AV × Bool)} {es : List PanicEntry} (h : RC sy e l es) : RMode sy e (some l) (.panicking es)
theorem RC.mono {e e' : Env} (he : e.le e') : ∀ {l : List (AV × Bool)} {es : List PanicEntry}, RC sy e l es → RC sy e' l es
  | _, _, .nil => .nil
  | _, _, .cons hv h => .cons (hv.mono he) (RC.mono he h)
theorem RMode.mono {e e' : Env} (he : e.le e') {u : AM} {um : FrameMode} (h : RMode sy e u um) : RMode sy e' u um := by
  cases h with
  | returning => exact .returning
  | panicking h => exact .panicking (h.mono he)
/-- What a stretch of a function that was put off leaves. -/
structure EndsS (sy : Nat → Value) (N0 : Par) (W0 : World) (e : Env) (nt : Nat) (C : T AV → List Dfr → M → Nat → AM → Bool) (c0 : Frame) (cs : List Frame) (act : Act) (cs' : List Frame) (W : World) : Prop where
  is : ∃ e' a ds m nx u um, e.le e' ∧ St sy N0 W0 e' m nx W ∧ Frm sy e' nt a act.tmps ∧ RD sy e' ds act.defers ∧ RMode sy e' u um ∧ cs' = { c0 with mode := um } :: cs ∧ C a ds m nx u = true
def PostS (sy : Nat → Value) (N0 : Par) (W0 : World) (e : Env) (nt : Nat) (N : KM) (X : KY) (c0 : Frame) (cs : List Frame) : Exit → Act → List Frame → World → Prop
  | .normal, act, cs', W => EndsS sy N0 W0 e nt N c0 cs act cs' W
  | .exit id, act, cs', W => EndsS sy N0 W0 e nt (X (.exit id)) c0 cs act cs' W
  | .goto l, act, cs', W => EndsS sy N0 W0 e nt (X (.goto l)) c0 cs act cs' W
  | .ret, act, cs', W => EndsS sy N0 W0 e nt (X .ret) c0 cs act cs' W
  | .panic chain, act, cs', W => ∃ c, EndsS sy N0 W0 e nt (X (.pan c)) c0 cs act cs' W
  | .outgrown, _, _, _ => False
theorem EndsS.le {e e' : Env} {nt : Nat} {C : T AV → List Dfr → M → Nat → AM → Bool} {c0 : Frame} {cs : List Frame} {act : Act} {cs' : List Frame} {W : World} (h : EndsS sy N0 W0 e' nt C c0 cs act cs' W) (he : e.le e') : EndsS sy N0 W0 e nt C c0 cs act cs' W := by
  obtain ⟨e1, a, ds, m, nx, u, um, h1, h2⟩ := h.is
  exact ⟨e1, a, ds, m, nx, u, um, Env.le_trans he h1, h2⟩
theorem PostS.le {e e' : Env} {nt : Nat} {N : KM} {X : KY} {c0 : Frame} {cs : List Frame} {x : Exit} {act : Act} {cs' : List Frame} {W : World} (h : PostS sy N0 W0 e' nt N X c0 cs x act cs' W) (he : e.le e') : PostS sy N0 W0 e nt N X c0 cs x act cs' W := by
  cases x with
  | normal => exact EndsS.le h he
  | exit id => exact EndsS.le h he
  | goto l => exact EndsS.le h he
  | ret => exact EndsS.le h he
  | panic ch =>
    obtain ⟨c, h⟩ := h
    exact ⟨c, h.le he⟩
  | outgrown => exact h
def RecOk (P : Program) (sy : Nat → Value) (N0 : Par) (W0 : World) (G nt : Nat) (b : BD) (c : Code) : Prop :=
  ∀ call, (∀ N0 W0, CallOk P sy N0 W0 G call) → ∀ L a ds m nx u N X, b.f call L a ds m nx u N X = true → ∀ e act W, GlobOk G e → St sy N0 W0 e m nx W → Frm sy e nt a act.tmps → RD sy e ds act.defers → ∀ um, RMode sy e u um → ∀ c0 cs,
    c.wpS P (PostS sy N0 W0 e nt N X c0 cs) act ({ c0 with mode := um } :: cs) W
/-- Code that recovers nothing. -/
theorem plain_ok {nt : Nat} {b : BC} {c : Code} (hb : CodeOk P sy N0 W0 G nt b c) : RecOk P sy N0 W0 G nt ⟨fun call L a ds m nx u KM KY => b.f call L a ds m nx (fun a ds m nx => KM a ds m nx u) (fun e a ds m nx => KY e a ds m nx u)⟩ c := by
  intro call hcall L a ds m nx u N X h e act W hG hst hf hd um hu c0 cs
  refine wpS_of_wp (wp_mono (hb call hcall L a ds m nx _ _ h e act W hG hst hf hd) fun x act' W' hP => ?_)
  have conv : ∀ {C : T AV → List Dfr → M → Nat → AM → Bool}, Ends sy N0 W0 e nt (fun a ds m nx => C a ds m nx u) act' W' → EndsS sy N0 W0 e nt C c0 cs act' ({ c0 with mode := um } :: cs) W' := fun {C} hE => by
    obtain ⟨e', a', ds', m', nx', he, h1, h2, h3, h4⟩ := hE.is
    exact ⟨e', a', ds', m', nx', u, um, he, h1, h2, h3, hu.mono he, rfl, h4⟩
  cases x with
  | normal => exact conv hP
  | exit id => exact conv (C := X (.exit id)) hP
  | goto l => exact conv (C := X (.goto l)) hP
  | ret => exact conv (C := X .ret) hP
  | panic ch =>
    obtain ⟨e', c, cs', a', ds', m', nx', he, h1, h2, h3, _, _, h4⟩ := hP
    exact ⟨c, e', a', ds', m', nx', u, um, he, h1, h2, h3, hu.mono he, rfl, h4⟩
  | outgrown => exact hP
theorem run_recover {o : Oper} {act : Act} {W : World} (h : isRec o.op = true) : (execOp act.eval o).run P W = .ok .recover W := by
  cases hop : o.op <;> rw [hop] at h <;> first | (cases h; done) | skip
  rename_i c
  obtain ⟨cal, args, ts⟩ := c
  cases cal with
  | builtin b =>
    cases b <;> first | (cases h; done) | skip
    simp [execOp, hop, resolve, invoke, builtin]
  | _ => cases h
theorem recAM_ok {e : Env} {u : AM} {um : FrameMode} {K : AV → AM → Bool} (h : recAM u K = true) (hu : RMode sy e u um) (c0 : Frame) (cs : List Frame) :
    (∃ v v' u' um', recoverD ({ c0 with mode := um } :: cs) = some (v', { c0 with mode := um' } :: cs) ∧ RV sy e v v' ∧ RMode sy e u' um' ∧ K v u' = true) ∨ (recoverD ({ c0 with mode := um } :: cs) = none ∧ K (.nil .i) u = true) := by
  cases hu with
  | returning => exact .inr ⟨rfl, h⟩
  | panicking hc =>
    cases hc with
    | nil => exact .inr ⟨rfl, h⟩
    | cons hv hr =>
      rename_i v v' b l es
      cases b with
      | true => exact .inr ⟨rfl, h⟩
      | false => exact .inl ⟨v, v', _, _, rfl, hv, .panicking (.cons hv hr), h⟩
theorem cRecOps_ok (nt : Nat) (ops : Array Oper) {call : CallK} (hcall : ∀ N0 W0, CallOk P sy N0 W0 G call) (L : Nat) : ∀ (l : List Oper) (k : Nat), l = ops.toList.drop k → ∀ (a : T AV) (ds : List Dfr) (m : M) (nx : Nat) (u : AM) (N : KM) (X : KY), (cRecOps P G nt ops l).f call L a ds m nx u N X = true → ∀ (e : Env) (act : Act) (W : World), GlobOk G e → St sy N0 W0 e m nx W → Frm sy e nt a act.tmps → RD sy e ds act.defers →
    ∀ um, RMode sy e u um → ∀ (c0 : Frame) (cs : List Frame) (e0 : Env), e0.le e → wpOpsS P ops (PostS sy N0 W0 e0 nt N X c0 cs) (List.range' k (ops.size - k)) act ({ c0 with mode := um } :: cs) W
  | [], k, hl, a, ds, m, nx, u, N, X, h, e, act, W, hG, hst, hf, hd, um, hu, c0, cs, e0, he0 => by
    have : ops.size - k = 0 := by
      have := congrArg List.length hl
      simp at this; omega
    rw [this]
    exact ⟨e, a, ds, m, nx, u, um, he0, hst, hf, hd, hu, rfl, h⟩
  | o :: l, k, hl, a, ds, m, nx, u, N, X, h, e, act, W, hG, hst, hf, hd, um, hu, c0, cs, e0, he0 => by
    have hk : k < ops.size := by
      have := congrArg List.length hl
      simp at this; omega
    have ho : ops[k]? = some o := by
      rw [← Array.getElem?_toList, ← List.head?_drop, ← hl]; rfl
    have hl' : l = ops.toList.drop (k + 1) := by
      rw [← List.tail_drop, ← hl]; rfl
    have e1 : ops.size - k = (ops.size - (k + 1)) + 1 := by omega
    rw [e1, List.range'_succ]
    unfold wpOpsS
    rw [ho]
    simp only
    cases hr : (isRec o.op && o.guard.isNone) with
    | true =>
      simp only [cRecOps, hr, BD.f] at h
      simp only [Bool.and_eq_true] at hr
      have hg : o.guard = none := by cases hq : o.guard with
        | none => rfl
        | some x => rw [hq] at hr; simp at hr
      have hw : Region.wanted o (yielded ops act.tmps) = true := by simp [Region.wanted, hg]
      rw [if_pos hw, run_recover hr.1]
      simp only
      rcases recAM_ok h hu c0 cs with ⟨v, v', u', um', h1, h2, h3, h4⟩ | ⟨h1, h4⟩
      · rw [h1]
        obtain ⟨a', h5, h6⟩ := cPut_ok (act := act) h4 hf h2
        exact cRecOps_ok nt ops hcall L l (k + 1) hl' a' ds m nx u' N X h5 e _ W hG hst h6 (by rw [put_defers]; exact hd) um' h3 c0 cs e0 he0
      · rw [h1]
        obtain ⟨a', h5, h6⟩ := cPut_ok (act := act) (v' := .nilIface) h4 hf .nili
        exact cRecOps_ok nt ops hcall L l (k + 1) hl' a' ds m nx u N X h5 e _ W hG hst h6 (by rw [put_defers]; exact hd) um hu c0 cs e0 he0
    | false =>
      simp only [cRecOps, hr, BD.f] at h
      have hone := cOne_ok nt ops o call hcall L a ds m nx _ _ h e act W hG hst hf hd (fun act' W' => wpOpsS P ops (PostS sy N0 W0 e0 nt N X c0 cs) (List.range' (k + 1) (ops.size - (k + 1))) act' ({ c0 with mode := um } :: cs) W')
        (fun x act' W' => PostS sy N0 W0 e0 nt N X c0 cs x act' ({ c0 with mode := um } :: cs) W')
        (fun act' W' hE => by
          obtain ⟨e', a', ds', m', nx', he, hst', hf', hd', hC⟩ := hE.is
          exact cRecOps_ok nt ops hcall L l (k + 1) hl' a' ds' m' nx' u N X hC e' act' W' (hG.mono he) hst' hf' hd' um (hu.mono he) c0 cs e0 (Env.le_trans he0 he))
        (fun chain act' W' hP => by
          obtain ⟨e', c, cs', a', ds', m', nx', he, h1, h2, h3, _, _, h4⟩ := hP
          exact ⟨c, e', a', ds', m', nx', u, um, Env.le_trans he0 he, h1, h2, h3, hu.mono he, rfl, h4⟩)
      split
      · rename_i hw
        rw [if_pos hw] at hone
        unfold Oper.wp at hone
        split
        · rename_i w' hrec
          rw [hrec] at hone
          exact hone.elim
        · exact hone
      · rename_i hw
        rw [if_neg hw] at hone
        exact hone
theorem cRec_ok (hD : ∀ nt id ops, CodeOk P sy N0 W0 G nt (cDraw P G nt ops) (.region id ops true)) (nt : Nat) : ∀ c : Code, RecOk P sy N0 W0 G nt (cRec P G nt c) c
  | .seq x y => by
    cases hr : hasRec (.seq x y) with
    | false =>
      have e1 : cRec P G nt (.seq x y) = ⟨fun call L a ds m nx u KM KY => (cCode P G nt (.seq x y)).f call L a ds m nx (fun a ds m nx => KM a ds m nx u) (fun e a ds m nx => KY e a ds m nx u)⟩ := by simp only [cRec, hr, BD.f]
      rw [e1]
      exact plain_ok (cCode_ok hD nt _)
    | true =>
      have e1 : cRec P G nt (.seq x y) = ⟨fun call L a ds m nx u KM KY => (cRec P G nt x).f call L a ds m nx u (fun a ds m nx u => (cRec P G nt y).f call L a ds m nx u KM KY) KY⟩ := by simp only [cRec, hr, BD.f]
      rw [e1]
      intro call hcall L a ds m nx u N X h e act W hG hst hf hd um hu c0 cs
      refine wpS_seq ?_
      have h1 := cRec_ok hD nt x call hcall L a ds m nx u _ X h e act W hG hst hf hd um hu c0 cs
      intro fr k hb hro
      obtain ⟨x', act', cs', W', hP, harr⟩ := h1 fr k hb hro
      refine ⟨x', act', cs', W', ?_, harr⟩
      cases x' with
      | normal =>
        obtain ⟨e', a', ds', m', nx', u', um', he, hst', hf', hd', hu', rfl, hC⟩ := hP.is
        have h2 := cRec_ok hD nt y call hcall L a' ds' m' nx' u' N X hC e' act' W' (hG.mono he) hst' hf' hd' um' hu' c0 cs
        intro fr k hb hro
        obtain ⟨x2, act2, cs2, W2, hP2, harr2⟩ := h2 fr k hb hro
        exact ⟨x2, act2, cs2, W2, hP2.le he, harr2⟩
      | exit id => exact hP
      | goto l => exact hP
      | ret => exact hP
      | panic ch => exact hP
      | outgrown => exact hP
  | .region id ops false => by
    cases hr : hasRec (.region id ops false) with
    | false =>
      have e1 : cRec P G nt (.region id ops false) = ⟨fun call L a ds m nx u KM KY => (cCode P G nt (.region id ops false)).f call L a ds m nx (fun a ds m nx => KM a ds m nx u) (fun e a ds m nx => KY e a ds m nx u)⟩ := by simp only [cRec, hr, BD.f]
      rw [e1]
      exact plain_ok (cCode_ok hD nt _)
    | true =>
      have e1 : cRec P G nt (.region id ops false) = cRecOps P G nt ops ops.toList := by simp only [cRec, hr, BD.f]
      rw [e1]
      intro call hcall L a ds m nx u N X h e act W hG hst hf hd um hu c0 cs
      refine wpS_region ?_
      rw [List.range_eq_range']
      exact cRecOps_ok nt ops hcall L ops.toList 0 rfl a ds m nx u N X h e act W hG hst hf hd um hu c0 cs e (Env.le_refl e)
  | .region id ops true => plain_ok (cCode_ok hD nt _)
  | .skip => plain_ok (cCode_ok hD nt (.skip))
  | .label a => plain_ok (cCode_ok hD nt (.label a))
  | .cond a b c => plain_ok (cCode_ok hD nt (.cond a b c))
  | .block a b => plain_ok (cCode_ok hD nt (.block a b))
  | .loop a => plain_ok (cCode_ok hD nt (.loop a))
  | .exit a => plain_ok (cCode_ok hD nt (.exit a))
  | .goto a => plain_ok (cCode_ok hD nt (.goto a))
  | .ret => plain_ok (cCode_ok hD nt (.ret))
  | .rangeFunc a b c d => plain_ok (cCode_ok hD nt (.rangeFunc a b c d))
  | .scope a => plain_ok (cCode_ok hD nt (.scope a))
  | .refuse a => plain_ok (cCode_ok hD nt (.refuse a))
theorem noDs_yes {ds : List Dfr} {K : Bool} (h : noDs ds K = true) : ds = [] ∧ K = true := by
  cases ds with
  | nil => exact ⟨rfl, h⟩
  | cons d ds => cases h
theorem invoke_enter {f : FuncId} {fn : Func} {args : Array Value} {W : World} (hf : P.funcs[f]? = some fn) {b : Code} (hb : fn.body = some b) (hn : (fn.name == "runtime.NumGoroutine") = false) : (callFunc f args).run P W = .ok (.enter f args) W := by
  have h0 : ¬ fn.name = "runtime.NumGoroutine" := by simpa using hn
  simp [callFunc, hf, h0, hb]
/-- A function that was put off. -/
theorem cDfr_ok (hD : ∀ nt id ops, CodeOk P sy N0 W0 G nt (cDraw P G nt ops) (.region id ops true)) {f : FuncId} {call : CallK} (hcall : ∀ N0 W0, CallOk P sy N0 W0 G call) {L : Nat} {l : AV} {m : M} {nx : Nat} {u : AM} {K : M → Nat → AM → Bool} (h : (cDfr P G f).f call L l m nx u K = true)
    {e : Env} {args : List Value} {W : World} (hG : GlobOk G e) (hst : St sy N0 W0 e m nx W) (hl : RL sy e l args) {um : FrameMode} (hu : RMode sy e u um) :
    (callFunc f args.toArray).run P W = .ok (.enter f args.toArray) W ∧ CallsD P f args.toArray um W fun en u' W' => (∃ v, en = .returned v) ∧ ∃ e' m' nx' ua, e.le e' ∧ St sy N0 W0 e' m' nx' W' ∧ RMode sy e' ua u' ∧ K m' nx' ua = true := by
  cases hf : P.funcs[f]? with
  | none => simp only [cDfr, hf, BG.f, undF_eq, infoF_eq, funF_eq] at h; cases h
  | some g =>
    cases hb : g.body with
    | none => simp only [cDfr, hf, hb, BG.f, undF_eq, infoF_eq, funF_eq] at h; cases h
    | some b =>
      cases hn : (Nat.ble g.ntmps top && !(g.name == "runtime.NumGoroutine")) with
      | false => simp only [cDfr, hf, hb, hn, BG.f, undF_eq, infoF_eq, funF_eq] at h; cases h
      | true =>
        simp only [cDfr, hf, hb, hn, BG.f, undF_eq, infoF_eq, funF_eq] at h
        simp only [Bool.and_eq_true, Bool.not_eq_true'] at hn
        obtain ⟨h1, h2⟩ := ifB_yes h
        have hlen : args.length ≤ g.ntmps := by
          have := ble_iff.1 h1
          rw [hl.cntA] at this
          exact this
        refine ⟨invoke_enter hf hb hn.2, callsD_of_wpS hf hb fun c0 cs hc0 => ?_⟩
        obtain ⟨a, h3, hfr⟩ := enter_ok h2 hl hlen (ble_iff.1 hn.1)
        have hw := cRec_ok hD g.ntmps b call hcall L a [] m nx u _ _ h3 e { tmps := args.toArray ++ Array.replicate (g.ntmps - args.toArray.size) undef, defers := [] } W hG hst hfr .nil um hu c0 cs
        have hc0' : ({ c0 with mode := um } : Frame) = c0 := by subst hc0; rfl
        rw [hc0'] at hw
        intro fr k hk hro
        obtain ⟨x, act', cs', W', hP, harr⟩ := hw fr k hk hro
        refine ⟨x, act', cs', W', ?_, harr⟩
        have out : ∀ {C : T AV → List Dfr → M → Nat → AM → Bool}, (∀ a ds m nx u, C a ds m nx u = true → noDs ds ((cRes P g.results.toList).f a m fun _ => K m nx u) = true) → EndsS sy N0 W0 e g.ntmps C c0 cs act' cs' W' →
            act'.defers = [] ∧ ∃ u', cs' = { c0 with mode := u' } :: cs ∧ ∃ v, (results g act'.tmps).run P W' = .ok v W' ∧ ((∃ v', Ending.returned v = .returned v') ∧ ∃ e' m' nx' ua, e.le e' ∧ St sy N0 W0 e' m' nx' W' ∧ RMode sy e' ua u' ∧ K m' nx' ua = true) := fun {C} hC hE => by
          obtain ⟨e', a', ds', m', nx', u', um', he, hst', hf', hd', hu', rfl, h4⟩ := hE.is
          obtain ⟨rfl, h5⟩ := noDs_yes (hC _ _ _ _ _ h4)
          obtain ⟨v, v', h6, h7, h8⟩ := cRes_ok h5 hf' hst'
          refine ⟨?_, um', rfl, v', h8, ⟨v', rfl⟩, e', m', nx', u', he, hst', hu', h6⟩
          generalize hq : act'.defers = q at hd'
          cases hd'
          rfl
        cases x with
        | normal => exact out (fun _ _ _ _ _ h => h) hP
        | ret => exact out (C := fun a ds m nx u => noDs ds ((cRes P g.results.toList).f a m fun _ => K m nx u)) (fun _ _ _ _ _ h => h) hP
        | exit id => obtain ⟨e', a', ds', m', nx', u', um', _, _, _, _, _, _, h4⟩ := hP.is; cases h4
        | goto id => obtain ⟨e', a', ds', m', nx', u', um', _, _, _, _, _, _, h4⟩ := hP.is; cases h4
        | panic ch =>
          obtain ⟨c, hP⟩ := hP
          obtain ⟨e', a', ds', m', nx', u', um', _, _, _, _, _, _, h4⟩ := hP.is
          cases h4
        | outgrown => exact hP.elim
end
end Go.Proofs.YtnkbpjmijeeddaaGreatDoor.Ev
end

section
/- A call that the evaluator answers is answered so by the model. Conditions: what is not walked into answers as the table of such functions says; regions that draw their order are run soundly. -/
namespace Go.Proofs.YtnkbpjmijeeddaaGreatDoor.Ev
open Go Go.RowKit
set_option linter.unusedSimpArgs false
set_option linter.unusedVariables false
section
variable {sy : Nat → Value} {N0 : Par} {W0 : World} {P : Program} {G : Nat}
theorem RC.plain {e : Env} : ∀ {l : List (AV × Bool)} {es : List PanicEntry}, RC sy e l es → es.dropWhile (!·.goexit) = []
  | _, _, .nil => rfl
  | _, _, .cons hv h => by simp [List.dropWhile, RC.plain h]
theorem settle_ok {e : Env} {u : AM} {um : FrameMode} (h : RMode sy e u um) : RMode sy e (settleA u) (settle um) := by
  cases h with
  | returning => exact .returning
  | panicking hc =>
    cases hc with
    | nil => exact .panicking .nil
    | cons hv hr =>
      rename_i v v' b l es
      cases b with
      | true =>
        have : settle (.panicking ({ v := v', recovered := true, goexit := false } :: es)) = .returning := by simp [settle, hr.plain]
        rw [this]; exact .returning
      | false =>
        have e1 : settle (.panicking ({ v := v', recovered := false, goexit := false } :: es)) = .panicking ({ v := v', recovered := false, goexit := false } :: es) := rfl
        have e2 : settleA (some ((v, false) :: l)) = some ((v, false) :: l) := rfl
        rw [e1, e2]
        exact .panicking (.cons hv hr)
theorem unchain_ok {e : Env} : ∀ {l : List (AV × Bool)} {es : List PanicEntry} {c : AV}, unchainA l = some c → RC sy e l es → ∃ cs, es = raw cs ∧ RL sy e c cs := by
  intro l
  induction l with
  | nil =>
    intro es c h hr
    cases hr; cases h
    exact ⟨[], rfl, .eol⟩
  | cons x l ih =>
    intro es c h hr
    cases hr with
    | cons hv hr =>
      rename_i v v' b es
      cases b with
      | true => cases h
      | false =>
        obtain ⟨c', h1, rfl⟩ := Option.map_eq_some_iff.1 (show (unchainA l).map (.cons v) = some c from h)
        obtain ⟨cs, rfl, h2⟩ := ih h1 hr
        exact ⟨_ :: cs, rfl, .cons hv h2⟩
theorem chain_ok {e : Env} : ∀ {c : AV} {cs : List Value}, RL sy e c cs → RC sy e (chainA c) (raw cs)
  | _, _, .eol => .nil
  | _, _, .cons hv hl => .cons hv (chain_ok hl)
/-- What a call hands on. -/
def outR (Y : Value → World → Prop) (Z : List Value → World → Prop) : Ending → World → Prop
  | .returned v, W => Y v W
  | .panicked chain, W => ∃ cs, chain = raw cs ∧ Z cs W
  | .outgrown, _ => False
theorem KOk.le {e e' : Env} {K : KV} {Y : Value → World → Prop} (h : KOk sy N0 W0 e K Y) (he : e.le e') : KOk sy N0 W0 e' K Y := fun e2 v v' m nx W h2 => h e2 v v' m nx W (Env.le_trans he h2)
theorem POk.le {e e' : Env} {K : KV} {Z : List Value → World → Prop} (h : POk sy N0 W0 e K Z) (he : e.le e') : POk sy N0 W0 e' K Z := fun e2 v v' m nx W h2 => h e2 v v' m nx W (Env.le_trans he h2)
theorem leave_ok (hD : ∀ nt id ops, CodeOk P sy N0 W0 G nt (cDraw P G nt ops) (.region id ops true)) {call : CallK} (hcall : ∀ N0 W0, CallOk P sy N0 W0 G call) {L : Nat} {fn : Func} {nt : Nat} {a : T AV} {tmps : Array Value} {KR KP : KV} {Y : Value → World → Prop} {Z : List Value → World → Prop} :
    ∀ (ds : List Dfr) (es : List Deferred) (m : M) (nx : Nat) (u : AM) (um : FrameMode) (W : World) (e : Env), leaveK P G call L (cRes P fn.results.toList) a KR KP ds m nx u = true → GlobOk G e → St sy N0 W0 e m nx W → Frm sy e nt a tmps → RD sy e ds es → RMode sy e u um →
      KOk sy N0 W0 e KR Y → POk sy N0 W0 e KP Z → Leaves P fn tmps (outR Y Z) es um W
  | [], es, m, nx, u, um, W, e, h, hG, hst, hf, hd, hu, hY, hZ => by
    cases hd
    cases hu with
    | returning =>
      obtain ⟨v, v', h1, h2, h3⟩ := cRes_ok h hf hst
      exact ⟨v', h3, hY e v v' m nx W (Env.le_refl e) hst h2 h1⟩
    | panicking hc =>
      rename_i l es'
      obtain ⟨c, h1, h2⟩ := ifO_yes (o := unchainA l) (x := fun c => KP c m nx) h
      obtain ⟨cs, rfl, h3⟩ := unchain_ok h1 hc
      exact ⟨cs, rfl, hZ e c cs m nx W (Env.le_refl e) hst h3 h2⟩
  | d :: ds, es, m, nx, u, um, W, e, h, hG, hst, hf, hd, hu, hY, hZ => by
    cases hd with
    | cons hx hc hds =>
      rename_i xs cs es
      have h' : appA d.args d.captured (fun l => (cDfr P G d.f).f call L l m nx u fun m nx u => leaveK P G call L (cRes P fn.results.toList) a KR KP ds m nx (settleA u)) = true := by
        cases u <;> exact h
      obtain ⟨l, h1, h2⟩ := appA_ok _ _ _ _ hx hc h'
      obtain ⟨h3, h4⟩ := cDfr_ok hD hcall h1 hG hst h2 hu
      refine ⟨(fun hr => by subst hr; cases hu), .func d.f, cs.toArray, d.f, (xs ++ cs).toArray, rfl, ?_, ?_⟩
      · have e1 : invoke (.fn (.func d.f) cs.toArray) xs.toArray = callFunc d.f (xs ++ cs).toArray := by simp [invoke]
        show (invoke (.fn (.func d.f) cs.toArray) xs.toArray).run P W = _
        rw [e1]; exact h3
      · refine CallsD.mono h4 fun en u' W' hh => ?_
        obtain ⟨⟨v, rfl⟩, e', m', nx', ua, he, hst', hu', hK⟩ := hh
        exact leave_ok hD hcall ds es m' nx' (settleA ua) (settle u') W' e' hK (hG.mono he) hst' (hf.mono he) (hds.mono he) (settle_ok hu') (hY.le he) (hZ.le he)
theorem goOut_eq {call : CallK} {L : Nat} {q : BQ} {a : T AV} {KR KP : KV} {ds : List Dfr} {m : M} {nx : Nat} : goOut P G call L q a KR KP ds m nx = leaveK P G call L q a KR KP ds m nx none := by
  cases ds <;> rfl
/-- Functions that are not walked into answer as their table says. -/
def PrimOk (P : Program) (sy : Nat → Value) (G : Nat) (pr : Prims) : Prop :=
  ∀ (N0 : Par) (W0 : World) f g, pr f = some g → ∀ l K m, g.f m l K = true → ∀ e args nx W, GlobOk G e → St sy N0 W0 e m nx W → RL sy e l args →
    ∃ v v', K v = true ∧ RV sy e v v' ∧ ((callFunc f args.toArray).run P W = .ok (.value v') W ∨ ((callFunc f args.toArray).run P W = .ok (.enter f args.toArray) W ∧ Calls P f args.toArray W fun en W' => en = .returned v' ∧ Below W.heap.size W W'))
theorem St.later {e : Env} {m : M} {nx : Nat} {W W' : World} (h : St sy N0 W0 e m nx W) (hb : Below W.heap.size W W') : St sy N0 W0 e m nx W' := by
  refine ⟨⟨fun p B r base sz h1 h2 => ?_, h.rm.inj, h.rm.nm, fun p x hp => Nat.lt_of_lt_of_le (h.rm.lt p x hp) hb.size, h.rm.nb, h.rm.res⟩, h.be.trans (hb.mono h.hN), Nat.le_trans h.hN hb.size⟩
  have hlt : r < W.heap.size := h.rm.lt p _ h2
  exact (h.rm.blk p B r base sz h1 h2).world (fun o => hb.cell (p := ⟨r, o, none⟩) hlt) (fun o => hb.frozen (p := ⟨r, o, none⟩) hlt)
theorem evC_ok (hD : ∀ N0 W0 nt id ops, CodeOk P sy N0 W0 G nt (cDraw P G nt ops) (.region id ops true)) {pr : Prims} (hp : PrimOk P sy G pr) (L : Nat) : ∀ n N0 W0, CallOk P sy N0 W0 G (evC P pr G L n)
  | 0, _, _ => fun _ _ _ _ _ _ h => by cases h
  | n + 1, N0, W0 => by
    have ih := evC_ok hD hp L n
    intro f l m nx K KP h e args W hG0 hst hl Y Z hY hZ
    have hG : GlobOk G e := hG0
    have h' : (cFun P pr G f).f (evC P pr G L n) L l m nx K KP = true := h
    cases hpf : pr f with
    | some g =>
      simp only [cFun, hpf, BF.f, undF_eq, infoF_eq, funF_eq] at h'
      obtain ⟨v, v', h1, h2, h3⟩ := hp N0 W0 f g hpf l _ m h' e args nx W hG hst hl
      rcases h3 with h3 | ⟨h3, h4⟩
      · rw [h3]
        exact hY e v v' m nx W (Env.le_refl e) hst h2 h1
      · rw [h3]
        refine Calls.mono h4 fun en W' hh => ?_
        obtain ⟨rfl, hb⟩ := hh
        exact hY e v v' m nx W' (Env.le_refl e) (hst.later hb) h2 h1
    | none =>
      cases hf : P.funcs[f]? with
      | none => simp only [cFun, hpf, hf, BF.f, undF_eq, infoF_eq, funF_eq] at h'; cases h'
      | some fn =>
        cases hb : fn.body with
        | none => simp only [cFun, hpf, hf, hb, BF.f, undF_eq, infoF_eq, funF_eq] at h'; cases h'
        | some b =>
          cases hn : (Nat.ble fn.ntmps top && !(fn.name == "runtime.NumGoroutine")) with
          | false => simp only [cFun, hpf, hf, hb, hn, BF.f, undF_eq, infoF_eq, funF_eq] at h'; cases h'
          | true =>
            simp only [cFun, hpf, hf, hb, hn, BF.f, undF_eq, infoF_eq, funF_eq] at h'
            simp only [Bool.and_eq_true, Bool.not_eq_true'] at hn
            obtain ⟨h1, h2⟩ := ifB_yes h'
            have hlen : args.length ≤ fn.ntmps := by
              have := ble_iff.1 h1
              rw [hl.cntA] at this
              exact this
            obtain ⟨a, h3, hfr⟩ := enter_ok h2 hl hlen (ble_iff.1 hn.1)
            rw [invoke_enter hf hb hn.2]
            have hw := cCode_ok (hD N0 W0) fn.ntmps b (evC P pr G L n) ih L a [] m nx _ _ h3 e { tmps := args.toArray ++ Array.replicate (fn.ntmps - args.toArray.size) undef, defers := [] } W hG hst hfr .nil
            have hcalls : Calls P f args.toArray W (outR Y Z) := by
              refine calls_of_wp_defers hf hb (wp_mono hw fun x act' W' hP => ?_)
              have out : Ends sy N0 W0 e fn.ntmps (fun a ds m nx => goOut P G (evC P pr G L n) L (cRes P fn.results.toList) a K KP ds m nx) act' W' → Leaves P fn act'.tmps (outR Y Z) act'.defers .returning W' := fun hE => by
                obtain ⟨e', a', ds', m', nx', he, hst', hf', hd', hC⟩ := hE.is
                rw [goOut_eq] at hC
                exact leave_ok (hD N0 W0) ih ds' _ m' nx' none .returning W' e' hC (hG.mono he) hst' hf' hd' .returning (hY.le he) (hZ.le he)
              cases x with
              | normal => exact out hP
              | ret => exact out hP
              | exit id => obtain ⟨e', a', ds', m', nx', _, _, _, _, hC⟩ := hP.is; cases hC
              | goto id => obtain ⟨e', a', ds', m', nx', _, _, _, _, hC⟩ := hP.is; cases hC
              | panic ch =>
                obtain ⟨e', c, cs, a', ds', m', nx', he, hst', hf', hd', rfl, hc, hC⟩ := hP
                generalize hq : act'.defers = q at hd'
                cases ds' with
                | nil =>
                  cases hd'
                  show Leaves P fn act'.tmps (outR Y Z) act'.defers (.panicking (raw cs)) W'
                  rw [hq]
                  exact ⟨cs, rfl, hZ e' c cs m' nx' W' he hst' hc hC⟩
                | cons d ds' =>
                  show Leaves P fn act'.tmps (outR Y Z) act'.defers (.panicking (raw cs)) W'
                  rw [hq]
                  exact leave_ok (hD N0 W0) ih (d :: ds') _ m' nx' (some (chainA c)) (.panicking (raw cs)) W' e' hC (hG.mono he) hst' hf' hd' (.panicking (chain_ok hc)) (hY.le he) (hZ.le he)
              | outgrown => exact hP.elim
            exact Calls.mono hcalls fun en W' hh => by cases en <;> exact hh
end
end Go.Proofs.YtnkbpjmijeeddaaGreatDoor.Ev
end
