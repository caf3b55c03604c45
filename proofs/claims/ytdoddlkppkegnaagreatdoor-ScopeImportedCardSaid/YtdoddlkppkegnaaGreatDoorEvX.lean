/- The evaluator's append and copy do what the model's do. No conditions. -/
import Derived.Test.YtdoddlkppkegnaaGreatDoorEvN
import Derived.Deep.Upon
namespace Go.Proofs.YtdoddlkppkegnaaGreatDoor.Ev
open Go Go.RowKit
set_option linter.unusedSimpArgs false
set_option linter.unusedVariables false
section
variable {sy : Nat → Value} {N0 : Par} {W0 : World} {P : Program} {G : Nat} {e : Env} {m : M} {nx : Nat} {W : World}
theorem St.drew (h : St sy N0 W0 e m nx W) : St sy N0 W0 e m nx W.drew := ⟨h.rm.drew, h.be.drew, h.hN⟩
theorem St.kill (h : St sy N0 W0 e m nx W) (p : Nat) (hp : e p ≠ none) : St sy N0 W0 e (T.set none none p m) nx W := ⟨h.rm.kill p hp, h.be, h.hN⟩
theorem elemAt_ok {ts : List TypeId} {es : Nat} (h : elemAt P ts = some es) : ∃ t tx el i z, ts = [t, tx] ∧ P.underlying t = some (.slice el) ∧ P.info? el = some i ∧ i.zero = some z ∧ i.size = es ∧ 1 ≤ es ∧ i.bytes ≤ 1000000 ∧ z.cells.size = es ∧
    ((∃ e', P.underlying tx = some (.slice e')) ∨ P.underlying tx = some .string) := by
  match ts, h with
  | [], h => cases h
  | [_], h => cases h
  | _ :: _ :: _ :: _, h => cases h
  | [t, tx], h =>
    unfold elemAt at h
    try simp only [undF_eq, infoF_eq, funF_eq] at h
    cases hu : P.underlying t with
    | none => simp only [hu] at h; cases h
    | some d =>
      cases d <;> simp only [hu] at h <;> first | (cases h; done) | skip
      rename_i el
      cases hi : P.info? el with
      | none => simp only [hi] at h; cases h
      | some i =>
        cases hz : zeroL P el with
        | none => simp only [hi, hz] at h; cases h
        | some z =>
          simp only [hi, hz] at h
          split at h
          · rename_i hb
            simp only [Bool.and_eq_true] at hb
            cases h
            obtain ⟨⟨⟨h1, h2⟩, h3⟩, h4⟩ := hb
            obtain ⟨v, hv1, _, hv3⟩ := zeroL_ok (sy := fun _ => undef) (e := fun _ => none) hz
            have hiz : i.zero = some v := by
              have := hv3 default
              simp only [zeroValue, typeInfo, Sem.run_bind, run_program, Result.andThen_ok, hi, Sem.run_pure] at this
              cases hq : i.zero with
              | none => rw [hq] at this; simp [unsupported, Sem.run] at this
              | some v' => rw [hq] at this; simp at this; rw [this]
            refine ⟨t, tx, el, i, v, rfl, hu, hi, hiz, rfl, ble_iff.1 h1, ble_iff.1 h2, ?_, ?_⟩
            · have := hv1.cntA
              rw [beq_iff.1 h3] at this
              simpa using this.symm
            · split at h4
              · rename_i heq; exact .inl ⟨_, heq⟩
              · rename_i heq; exact .inr heq
              · cases h4
          · cases h
variable {es t tx el : Nat} {i : TypeInfo} {z : Value}
/-- There is no room: what was there and what comes lie in a new block. -/
theorem join_ok {nk : Nat} {old l : AV} {olds news : List Value} {K : KV} (h : joinK es m nx nk old l K = true) (hst : St sy N0 W0 e m nx W) (ho : RL sy e old olds) (hl : RL sy e l news) (hlen : (olds ++ news).length = nk * es) (hze : z.cells.size = es) {cap : Nat} (hcap : nk ≤ cap) :
    ∃ e' v m', e.le e' ∧ K v m' (nx + 1) = true ∧ RV sy e' v (.slice (some ⟨W.heap.size, 0, none⟩) nk cap) ∧ St sy N0 W0 e' m' (nx + 1) (W.alloc (.cells ((olds ++ news).toArray ++ Builtin.zeroCells z.cells (cap - nk)) el)) := by
  obtain ⟨c1, h1, _, hc1⟩ := fillK_ok olds old 0 .leaf ho h
  rw [Nat.zero_add] at h1 hc1
  obtain ⟨c2, h2, _, hc2⟩ := fillK_ok news l olds.length c1 hl h1
  have hsz : ((olds ++ news).toArray ++ Builtin.zeroCells z.cells (cap - nk)).size = cap * es := by
    rw [Array.size_append, size_zeroCells, hze, List.size_toArray, hlen, ← Nat.add_mul]
    congr 1; omega
  have e1 : olds.length + news.length = nk * es := by rw [← hlen, List.length_append]
  obtain ⟨e', m', h3, h4, h5, h6⟩ := newF_ok (el := el) (cs := (olds ++ news).toArray ++ Builtin.zeroCells z.cells (cap - nk)) h2 hst (by rw [hsz, e1]; exact Nat.mul_le_mul_right _ hcap) (fun ht i hi => by
    have hb : olds.length + news.length ≤ 2 ^ 25 := by unfold top at ht; omega
    obtain ⟨hn1, hn2⟩ := hc2 hb
    have hget : ∀ j, j < olds.length + news.length → ((olds ++ news).toArray ++ Builtin.zeroCells z.cells (cap - nk))[j]? = (olds ++ news)[j]? := fun j hj => by
      rw [Array.getElem?_append_left (by simpa using hj)]; simp
    by_cases hio : i < olds.length
    · obtain ⟨v, g1, g2, g3⟩ := (hc1 (by omega)).1 i hio
      rw [Nat.zero_add] at g2 g3
      have := hn2 i (by omega) (.inl hio)
      exact ⟨v, by rw [hget i hi, List.getElem?_append_left hio]; exact g1, by rw [this]; exact g2, by rw [this]; exact g3⟩
    · obtain ⟨v, g1, g2, g3⟩ := hn1 (i - olds.length) (by omega)
      have e2 : olds.length + (i - olds.length) = i := by omega
      rw [e2] at g2 g3
      exact ⟨v, by rw [hget i hi, List.getElem?_append_right (by omega)]; exact g1, g2, g3⟩)
  rw [hsz] at h5
  exact ⟨e', _, m', h3, h4, .slc (o := 0) h5 hcap (by omega) (fun k hk => by cases hk), h6⟩
/-- There is room, or there is none. -/
theorem move_ok {p : Nat} {o w n k nk : Nat} {l : AV} {news : List Value} {K : KV} (h : moveK es m nx nk p o w l K = true) (hst : St sy N0 W0 e m nx W) {r base sz cap : Nat} (hp : e p = some (r, base, sz)) (hl : RL sy e l news)
    (hw : w = n * es) (hnk : nk = n + k) (hlen : news.length = k * es) (hcap : n ≤ cap) (hsz : o + cap * es ≤ sz) (hze : z.cells.size = es) :
    ∃ olds : List Value, olds.length = n * es ∧ (∀ j v, olds[j]? = some v → W.cell? ⟨r, base + o + j, none⟩ = some v) ∧
      (n + k ≤ cap → (∀ j, j < news.length → (W.cell? ⟨r, base + o + w + j, none⟩).isSome = true) ∧ (∀ j, j < news.length → W.frozen? ⟨r, base + o + w + j, none⟩ = false) ∧
        ∃ e' v m', e.le e' ∧ K v m' (nx + 1) = true ∧ RV sy e' v (.slice (some ⟨r, base + o, none⟩) nk cap) ∧ St sy N0 W0 e' m' (nx + 1) (W.setCells r (base + o + w) news)) ∧
      (∀ cap', nk ≤ cap' → ∃ e' v m', e.le e' ∧ K v m' (nx + 1) = true ∧ RV sy e' v (.slice (some ⟨W.heap.size, 0, none⟩) nk cap') ∧
        St sy N0 W0 e' m' (nx + 1) (W.drew.alloc (.cells ((olds ++ news).toArray ++ Builtin.zeroCells z.cells (cap' - nk)) el))) := by
  obtain ⟨ho, h1⟩ := ifB_yes h
  obtain rfl := beq_iff.1 ho
  obtain ⟨B, hB, h2⟩ := blkK_yes h1
  obtain ⟨hro, h3⟩ := ifB_no h2
  obtain ⟨hb, h4⟩ := ifB_yes h3
  simp only [Bool.and_eq_true] at hb
  have hfz := ble_iff.1 hb.1
  have hws := ble_iff.1 hb.2
  have hH := hst.rm.blk p B r base sz hB hp
  subst hw
  subst hnk
  -- the old cells
  obtain ⟨lo, olds, g1, g2, g3, g4, g5, _⟩ := rdK_ok (sy := sy) (e := e) (W := W) (r := r) (base := base) (c := B.c) (n * es) 0 (K := fun _ => true) (by
    have : ∀ (c : T AV) (n o : Nat), rdK c n o (fun _ => true) = true := by
      intro c n
      induction n with
      | zero => intro o; rfl
      | succ n ih =>
        intro o
        show getN c o (fun v => frcN (Nat.succ o) fun o => rdK c n o fun l => true) = true
        rw [getN_eq, frcN_eq]
        exact ih _
    exact this _ _ _) (fun i _ hi => hH.cells i (by omega))
  refine ⟨olds, g3, fun j v hv => g4 j v hv, fun hroom => ?_, fun cap' hcap' => ?_⟩
  · have hfit : n * es + news.length ≤ sz := by
      have : (n + k) * es ≤ cap * es := Nat.mul_le_mul_right _ hroom
      rw [Nat.add_mul] at this
      omega
    refine ⟨fun j hj => ?_, fun j hj => ?_, ?_⟩
    · obtain ⟨v, hv⟩ := hH.there (n * es + j) (by omega)
      rw [Nat.add_zero, Nat.add_assoc, hv]; rfl
    · rw [Nat.add_zero, Nat.add_assoc]
      exact hH.free hro (n * es + j) (by omega) (by omega)
    · obtain ⟨c0, h5, _, _⟩ := fillK_ok news l (n * es) B.c hl h4
      unfold killK at h5
      rw [T.setP_eq] at h5
      obtain ⟨hnx, hn, _, _⟩ := newF_yes h5
      obtain ⟨c1, h8, h9⟩ := RM.fill news l (n * es) m W B hst.rm hB hp hws hfit hl h4 hn
      unfold killK at h8
      rw [T.setP_eq] at h8
      obtain ⟨_, _, _, h7⟩ := newF_yes h8
      have hrm := (h9.kill p (by rw [hp]; simp)).congr (m' := T.set none none p m) (fun q => by
        by_cases hq : p = q
        · subst hq; rw [M.at_same, M.at_same]
        · rw [M.at_set hq, M.at_set hq, M.at_set hq])
      have hH' := h9.blk p _ r base sz M.at_same hp
      have hnew : Holds sy N0 e (W.setCells r (base + n * es) news) ⟨c1, n * es + news.length, B.fz, false⟩ r base sz :=
        ⟨hfit, hn, hH'.there, (fun i hi => hH'.cells i (by have hi' : i < n * es + news.length := hi; show i < max B.n (n * es + news.length); omega)), (fun _ => hH.own hro), (fun _ => hH'.free hro)⟩
      have hname := hrm.name hnx hnew (by rw [size_setCells]; exact hst.rm.lt p _ hp) (fun q C x hq hx => by
        by_cases hpq : p = q
        · subst hpq; rw [M.at_same] at hq; cases hq
        · rw [M.at_set hpq] at hq
          intro hr
          exact hpq (hst.rm.inj p q B C _ _ hB hq hp hx hr.symm))
      refine ⟨_, _, _, Env.le_new (hst.rm.fresh hnx), h7, ?_, ⟨hname, Below.setCells (hH.own hro) _ _ _ hst.be, by rw [size_setCells]; exact hst.hN⟩⟩
      exact .slc (o := 0) Env.new_same (by omega) (by omega) (fun k hk => by cases hk)
  · obtain ⟨c1, h5, _, hc1⟩ := fillK_ok news l (n * es) B.c hl h4
    unfold killK at h5
    rw [T.setP_eq] at h5
    have hlo : (olds ++ news).length = (n + k) * es := by rw [List.length_append, g3, hlen, Nat.add_mul]
    have hsz' : ((olds ++ news).toArray ++ Builtin.zeroCells z.cells (cap' - (n + k))).size = cap' * es := by
      rw [Array.size_append, size_zeroCells, hze, List.size_toArray, hlo, ← Nat.add_mul]
      congr 1; omega
    have hst' : St sy N0 W0 e (T.set none none p m) nx W.drew := (hst.kill p (by rw [hp]; simp)).drew
    have e1 : n * es + news.length = (n + k) * es := by rw [hlen, Nat.add_mul]
    obtain ⟨e', m', h6, h7, h8, h9⟩ := newF_ok (el := el) (cs := (olds ++ news).toArray ++ Builtin.zeroCells z.cells (cap' - (n + k))) h5 hst' (by rw [hsz', e1]; exact Nat.mul_le_mul_right _ hcap') (fun ht i hi => by
      have hb : n * es + news.length ≤ 2 ^ 25 := by unfold top at ht; omega
      obtain ⟨hn1, hn2⟩ := hc1 hb
      have hget : ∀ j, j < n * es + news.length → ((olds ++ news).toArray ++ Builtin.zeroCells z.cells (cap' - (n + k)))[j]? = (olds ++ news)[j]? := fun j hj => by
        rw [Array.getElem?_append_left (by simp [g3]; exact hj)]; simp
      by_cases hio : i < n * es
      · obtain ⟨v, q1, q2, q3⟩ := hH.cells i (by omega)
        have := hn2 i (by omega) (.inl hio)
        have hv : olds[i]? = some v := by
          have hi' : i < olds.length := by omega
          have := g4 i olds[i] (List.getElem?_eq_getElem hi')
          rw [Nat.add_zero] at this
          rw [List.getElem?_eq_getElem hi', ← this, q1]
        exact ⟨v, by rw [hget i hi, List.getElem?_append_left (by omega)]; exact hv, by rw [this]; exact q2, by rw [this]; exact q3⟩
      · obtain ⟨v, q1, q2, q3⟩ := hn1 (i - n * es) (by omega)
        have e2 : n * es + (i - n * es) = i := by omega
        rw [e2] at q2 q3
        exact ⟨v, by rw [hget i hi, List.getElem?_append_right (by omega), g3]; exact q1, q2, q3⟩)
    rw [hsz'] at h8
    exact ⟨e', _, m', h6, h7, .slc (o := 0) h8 hcap' (by omega) (fun k hk => by cases hk), h9⟩
theorem move_top {p : Nat} {o w n nk : Nat} {l : AV} {K : KV} (h : moveK es m nx nk p o w l K = true) (hst : St sy N0 W0 e m nx W) {r base sz : Nat} (hp : e p = some (r, base, sz)) : w ≤ top := by
  obtain ⟨_, h1⟩ := ifB_yes h
  obtain ⟨B, hB, h2⟩ := blkK_yes h1
  obtain ⟨_, h3⟩ := ifB_no h2
  obtain ⟨hb, _⟩ := ifB_yes h3
  simp only [Bool.and_eq_true] at hb
  exact Nat.le_trans (ble_iff.1 hb.2) (hst.rm.blk p B r base sz hB hp).top
theorem read_top {p : Nat} {o n : Nat} {K : AV → Bool} (h : readK m p o n K = true) (hst : St sy N0 W0 e m nx W) {r base sz : Nat} (hp : e p = some (r, base, sz)) : o + n ≤ top := by
  obtain ⟨B, hB, h1⟩ := blkK_yes h
  obtain ⟨h2, _⟩ := ifB_yes h1
  exact Nat.le_trans (ble_iff.1 h2) (hst.rm.blk p B r base sz hB hp).top
/-- append. -/
theorem append_ok {x y : AV} {xv yv : Value} {K : KV} (h : appendK es m nx x y K = true) (hst : St sy N0 W0 e m nx W) (hx : RV sy e x xv) (hy : RV sy e y yv)
    (ht : P.underlying t = some (.slice el)) (hi : P.info? el = some i) (hz : i.zero = some z) (hes : i.size = es) (h1 : 1 ≤ es) (hby : i.bytes ≤ 1000000) (hze : z.cells.size = es) (htx : (∃ e', P.underlying tx = some (.slice e')) ∨ P.underlying tx = some .string) (ty : TypeId) :
    ∃ e' v v' m' nx' W', e.le e' ∧ K v m' nx' = true ∧ RV sy e' v v' ∧ St sy N0 W0 e' m' nx' W' ∧ (Builtin.append_ #[t, tx] ty #[xv, yv]).run P W = .ok v' W' := by
  subst hes
  obtain ⟨k, l, news, h2, hl, hlen, hone, hlenOf, hcells, _⟩ := srcK_ok h hst.rm hy (P := P)
  obtain ⟨hk, h3⟩ := ifB_yes h2
  have hk' := ble_iff.1 hk
  have hsrc : Src P i.size tx yv k news W := Src.world (W' := W) htx hlenOf hcells hlen hone
  have nothing : ∀ {A : Option Addr} {n cap : Nat}, k = 0 → n ≤ cap → (Builtin.append_ #[t, tx] ty #[.slice A n cap, yv]).run P W = .ok (.slice A n cap) W := fun {A n cap} hk0 hn => by
    have hnil : news = [] := List.eq_nil_of_length_eq_zero (by rw [hlen, hk0, Nat.zero_mul])
    rw [hnil, hk0] at hsrc
    exact run_append_nothing W t tx ty el i ht hi A n cap hn yv hsrc
  rcases asSlc_yes h3 with ⟨p, o, es', n, c, rfl, h4⟩ | ⟨rfl, h4⟩
  · obtain ⟨h5, h6⟩ := ifB_yes h4
    obtain rfl := beq_iff.1 h5
    rw [frcN_eq, frcN_eq] at h6
    cases hx with
    | slc hp hn hsz hcap =>
      rename_i r base sz cap
      have hnle : ∀ q, q + n * i.size ≤ top → n ≤ top := fun q hq => by
        have : n * 1 ≤ n * i.size := Nat.mul_le_mul_left n h1
        omega
      cases c with
      | none =>
        have h7 : ifB (Nat.beq k 0) (K (.slc p o i.size n none) m nx) (moveK i.size m nx (Nat.add n k) p o (Nat.mul n i.size) l K) = true := h6
        cases hk0 : Nat.beq k 0 with
        | true =>
          rw [hk0] at h7
          exact ⟨e, _, _, m, nx, W, Env.le_refl e, h7, .slc hp hn hsz hcap, hst, nothing (beq_iff.1 hk0) hn⟩
        | false =>
          rw [hk0] at h7
          have h8 : moveK i.size m nx (n + k) p o (n * i.size) l K = true := h7
          have htop := move_top (n := n) h8 hst hp
          have hnt := hnle 0 (by omega)
          obtain ⟨olds, g1, g2, g3, g4⟩ := move_ok (el := el) h8 hst hp hl rfl rfl hlen hn hsz hze
          by_cases hroom : n + k ≤ cap
          · obtain ⟨g5, g6, e', v, m', g7, g8, g9, g10⟩ := g3 hroom
            refine ⟨e', v, _, m', nx + 1, _, g7, g8, g9, g10, ?_⟩
            exact run_append_room_src W t tx ty el i ht hi r (base + o) n cap yv k news hsrc hroom g5 g6
          · obtain ⟨e', v, m', g7, g8, g9, g10⟩ := g4 (grownCap W (n + k) cap el) (grownCap_ge W (n + k) cap el)
            refine ⟨e', v, _, m', nx + 1, _, g7, g8, g9, g10, ?_⟩
            exact run_append_grow_src W t tx ty el i z ht hi hz _ n cap olds (run_firstCells_some W.drew i.size n _ _ _ olds g1 (fun j v hv => by
              rw [Addr.add_lit]; exact g2 j v hv)) yv k news hsrc (by omega) (by unfold top at hnt; omega) (grow_fits (by omega) (by unfold top at hnt; omega) hby)
      | some c =>
        obtain rfl := hcap c rfl
        have h7 : ifB (Nat.ble (Nat.add n k) cap) (frcN (Nat.add o (Nat.mul n i.size)) fun at_ => writeK true m p at_ l fun m => K (.slc p o i.size (Nat.add n k) (some cap)) m nx)
          (readK m p o (Nat.mul n i.size) fun old => joinK i.size m nx (Nat.add n k) old l K) = true := h6
        cases hr : Nat.ble (Nat.add n k) cap with
        | true =>
          rw [hr] at h7
          have h8 : (frcN (Nat.add o (Nat.mul n i.size)) fun at_ => writeK true m p at_ l fun m => K (.slc p o i.size (Nat.add n k) (some cap)) m nx) = true := h7
          rw [frcN_eq] at h8
          have hroom : n + k ≤ cap := ble_iff.1 hr
          have hfit : (n + k) * i.size ≤ cap * i.size := Nat.mul_le_mul_right _ hroom
          rw [Nat.add_mul] at hfit
          obtain ⟨m', g1, g2, _, g4, g5⟩ := writeK_ok h8 hst hp (fun _ => by rw [hlen]; show o + n * i.size + k * i.size ≤ sz; omega) hl
          have e1 : base + (o + n * i.size) = base + o + n * i.size := by omega
          refine ⟨e, _, .slice (some ⟨r, base + o, none⟩) (n + k) cap, m', nx, _, Env.le_refl e, g1, .slc hp hroom hsz (fun k hk => by cases hk; rfl), g2, ?_⟩
          have e2 : base + Nat.add o (Nat.mul n i.size) = base + o + n * i.size := e1
          rw [e2] at g4 g5 ⊢
          exact run_append_room_src W t tx ty el i ht hi r (base + o) n cap yv k news hsrc hroom g4 g5
        | false =>
          rw [hr] at h7
          have h8 : (readK m p o (n * i.size) fun old => joinK i.size m nx (n + k) old l K) = true := h7
          have hroom : ¬ n + k ≤ cap := fun hh => by rw [show Nat.ble (Nat.add n k) cap = true from ble_iff.2 hh] at hr; cases hr
          have htop := read_top h8 hst hp
          have hnt := hnle o htop
          obtain ⟨old, olds, g1, g2, g3, g4, _⟩ := readK_ok h8 hst.rm hp
          obtain ⟨e', v, m', g7, g8, g9, g10⟩ := join_ok (el := el) (W := W.drew) g1 hst.drew g2 hl (by rw [List.length_append, g3, hlen, Nat.add_mul]) hze (grownCap_ge W (n + k) cap el)
          refine ⟨e', v, _, m', nx + 1, _, g7, g8, g9, g10, ?_⟩
          exact run_append_grow_src W t tx ty el i z ht hi hz _ n cap olds (run_firstCells_some W.drew i.size n _ _ _ olds g3 (fun j v hv => by
            rw [Addr.add_lit]; exact g4 j v hv)) yv k news hsrc (by omega) (by unfold top at hnt; omega) (grow_fits (by omega) (by unfold top at hnt; omega) hby)
  · cases hx
    cases hk0 : Nat.beq k 0 with
    | true =>
      rw [hk0] at h4
      exact ⟨e, _, _, m, nx, W, Env.le_refl e, h4, .nils, hst, nothing (beq_iff.1 hk0) (Nat.le_refl _)⟩
    | false =>
      rw [hk0] at h4
      have h8 : joinK i.size m nx k .eol l K = true := h4
      have hk1 : k ≠ 0 := fun hh => by rw [hh] at hk0; cases hk0
      obtain ⟨e', v, m', g7, g8, g9, g10⟩ := join_ok (el := el) (W := W.drew) h8 hst.drew .eol hl (by simpa using hlen) hze (grownCap_ge W k 0 el)
      refine ⟨e', v, _, m', nx + 1, _, g7, g8, g9, g10, ?_⟩
      have := run_append_grow_src W t tx ty el i z ht hi hz none 0 0 [] (run_firstCells_none W.drew i.size 0 0 0) yv k news hsrc (by omega) (by omega) (grow_fits (by omega) (by omega) hby)
      simpa using this
theorem op_append (args : Array Operand) (ts : Array TypeId) : OpOk P sy N0 W0 G (cOp P G (.call { callee := .builtin .append, args, argTypes := ts })) (.call { callee := .builtin .append, args, argTypes := ts }) := by
  obtain ⟨args⟩ := args
  obtain ⟨ts⟩ := ts
  cases he : elemAt P ts with
  | none => simp only [cOp, he, BX.f, undF_eq, infoF_eq, funF_eq]; exact xNo_ok
  | some es =>
    cases args with
    | nil => simp only [cOp, he, BX.f, undF_eq, infoF_eq, funF_eq]; exact xNo_ok
    | cons x args => cases args with
      | nil => simp only [cOp, he, BX.f, undF_eq, infoF_eq, funF_eq]; exact xNo_ok
      | cons y args => cases args with
        | cons z args => simp only [cOp, he, BX.f, undF_eq, infoF_eq, funF_eq]; exact xNo_ok
        | nil =>
          simp only [cOp, he, BX.f, undF_eq, infoF_eq, funF_eq]
          intro call _ a m nx K KP hb e act W hG hst hops Y Z hK _ o ho
          obtain ⟨xv, h1, h2⟩ := cOpd_ok hG hops (x := x) (by simp [Op.operands, Call.operands]) hb
          obtain ⟨yv, h3, h4⟩ := cOpd_ok hG hops (x := y) (by simp [Op.operands, Call.operands]) h1
          obtain ⟨t, tx, el, i, z, rfl, ht, hi, hz, hes, h5, h6, h7, h8⟩ := elemAt_ok he
          obtain ⟨e', v, v', m', nx', W', g1, g2, g3, g4, g5⟩ := append_ok h3 hst h2 h4 ht hi hz hes h5 h6 h7 h8 o.type
          have hrun : (execOp act.eval o).run P W = .ok (.value v') W' := by
            simp [execOp, ho, resolve, invoke, builtin, g5]
          rw [hrun]
          exact hK e' v v' m' nx' W' g1 g4 g3 g2
end
end Go.Proofs.YtdoddlkppkegnaaGreatDoor.Ev
