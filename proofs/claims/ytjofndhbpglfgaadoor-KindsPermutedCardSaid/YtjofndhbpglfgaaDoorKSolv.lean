/- kinds: the solver in memory; root, slot. -/
import Derived.Test.YtjofndhbpglfgaaDoorKFind
import Derived.Deep.LoopGhost
namespace Go.Proofs.YtjofndhbpglfgaaDoor
open Go.RowKit Go.Shelf

theorem infoIntK : (Tryd.prog.info? 3).map (fun i => (i.zero, i.size, i.bytes)) = some (some (.int .i64 0), 1, 8) := by kernel_rfl
def ints (l : List Nat) : List Value := l.map fun i : Nat => Value.int .i64 (i : Int)
def kintz (l : List Int) : List Value := l.map (Value.int .i64)
/-- From one slot to its root, in so many steps. -/
def Leads (up : List Nat) : Nat → Nat → Nat → Prop
  | 0, i, r => i = r ∧ up[i]? = some i
  | n + 1, i, r => ∃ j, up[i]? = some j ∧ j ≠ i ∧ Leads up n j r
theorem Leads.lt {up : List Nat} : ∀ {n i r : Nat}, Leads up n i r → i < up.length
  | 0, _, _, h => (List.getElem?_eq_some_iff.1 h.2).1
  | _ + 1, _, _, ⟨_, h, _⟩ => (List.getElem?_eq_some_iff.1 h).1
theorem Leads.root {up : List Nat} : ∀ {n i r : Nat}, Leads up n i r → up[r]? = some r
  | 0, _, _, h => by obtain ⟨rfl, h⟩ := h; exact h
  | _ + 1, _, _, ⟨_, _, _, h⟩ => Leads.root h
theorem Leads.unique {up : List Nat} : ∀ {n i r m s : Nat}, Leads up n i r → Leads up m i s → r = s
  | 0, _, _, 0, _, h, h' => h.1.symm.trans h'.1
  | 0, _, _, _ + 1, _, h, ⟨j, h1, h2, _⟩ => absurd (Option.some.inj (h1.symm.trans h.2)) h2
  | _ + 1, _, _, 0, _, ⟨j, h1, h2, _⟩, h => absurd (Option.some.inj (h1.symm.trans h.2)) h2
  | _ + 1, _, _, _ + 1, _, ⟨j, h1, _, h3⟩, ⟨j', h1', _, h3'⟩ => by
    obtain rfl : j = j' := Option.some.inj (h1.symm.trans h1')
    exact Leads.unique h3 h3'
/-- Each slot has a root. -/
def Uf (up : List Nat) : Prop := ∀ i, i < up.length → ∃ n r, Leads up n i r
open Classical in
noncomputable def rt (up : List Nat) (i : Nat) : Nat := if h : ∃ r n, Leads up n i r then h.choose else i
theorem rt_eq {up : List Nat} {n i r : Nat} (h : Leads up n i r) : rt up i = r := by
  have h' : ∃ r n, Leads up n i r := ⟨r, n, h⟩
  unfold rt
  rw [dif_pos h']
  obtain ⟨m, hm⟩ := h'.choose_spec
  exact Leads.unique hm h
theorem Uf.rt {up : List Nat} (h : Uf up) {i : Nat} (hi : i < up.length) : ∃ n, Leads up n i (Proofs.YtjofndhbpglfgaaDoor.rt up i) := by
  obtain ⟨n, r, hr⟩ := h i hi
  exact ⟨n, by rw [rt_eq hr]; exact hr⟩
theorem Uf.rt_lt {up : List Nat} (h : Uf up) {i : Nat} (hi : i < up.length) : Proofs.YtjofndhbpglfgaaDoor.rt up i < up.length := by
  obtain ⟨n, hn⟩ := h.rt hi
  exact (List.getElem?_eq_some_iff.1 hn.root).1
theorem Uf.rt_root {up : List Nat} (h : Uf up) {i : Nat} (hi : i < up.length) : up[Proofs.YtjofndhbpglfgaaDoor.rt up i]? = some (Proofs.YtjofndhbpglfgaaDoor.rt up i) := by
  obtain ⟨n, hn⟩ := h.rt hi
  exact hn.root
theorem Leads.snoc {up : List Nat} {k : Nat} : ∀ {n i r : Nat}, Leads up n i r → Leads (up ++ [k]) n i r
  | 0, _, _, h => ⟨h.1, by rw [List.getElem?_append_left (List.getElem?_eq_some_iff.1 h.2).1]; exact h.2⟩
  | _ + 1, _, _, ⟨j, h1, h2, h3⟩ => ⟨j, by rw [List.getElem?_append_left (List.getElem?_eq_some_iff.1 h1).1]; exact h1, h2, Leads.snoc h3⟩
theorem Uf.snoc {up : List Nat} (h : Uf up) : Uf (up ++ [up.length]) := fun i hi => by
  rcases Nat.lt_or_ge i up.length with h1 | h1
  · obtain ⟨n, r, hr⟩ := h i h1
    exact ⟨n, r, hr.snoc⟩
  · have : i = up.length := by simp at hi; omega
    subst this
    exact ⟨0, _, rfl, by simp⟩
theorem rt_snoc {up : List Nat} (h : Uf up) {i k : Nat} (hi : i < up.length) : rt (up ++ [k]) i = rt up i := by
  obtain ⟨n, hn⟩ := h.rt hi
  exact rt_eq hn.snoc
theorem rt_snoc_new (up : List Nat) : rt (up ++ [up.length]) up.length = up.length := rt_eq (n := 0) ⟨rfl, by simp⟩
/-- A root that is joined to another one. -/
theorem Leads.join {up : List Nat} {a b : Nat} (ha : up[a]? = some a) (hb : up[b]? = some b) (hab : a ≠ b) : ∀ {n i r : Nat}, Leads up n i r → ∃ m, Leads (up.set a b) m i (if r = a then b else r)
  | 0, i, r, h => by
    obtain ⟨rfl, h⟩ := h
    have hal := (List.getElem?_eq_some_iff.1 ha).1
    by_cases e : i = a
    · subst e
      exact ⟨1, b, by rw [List.getElem?_set_self hal], hab.symm, by rw [if_pos rfl], by rw [List.getElem?_set_ne hab]; exact hb⟩
    · refine ⟨0, by rw [if_neg e], ?_⟩
      rw [List.getElem?_set_ne (Ne.symm e)]; exact h
  | n + 1, i, r, ⟨j, h1, h2, h3⟩ => by
    obtain ⟨m, hm⟩ := Leads.join ha hb hab h3
    have e : a ≠ i := fun e => by subst e; exact h2 (Option.some.inj (h1.symm.trans ha))
    exact ⟨m + 1, j, by rw [List.getElem?_set_ne e]; exact h1, h2, hm⟩
theorem Uf.join {up : List Nat} (h : Uf up) {a b : Nat} (ha : up[a]? = some a) (hb : up[b]? = some b) (hab : a ≠ b) : Uf (up.set a b) := fun i hi => by
  obtain ⟨n, r, hr⟩ := h i (by simpa using hi)
  obtain ⟨m, hm⟩ := hr.join ha hb hab
  exact ⟨m, _, hm⟩
theorem rt_join {up : List Nat} (h : Uf up) {a b : Nat} (ha : up[a]? = some a) (hb : up[b]? = some b) (hab : a ≠ b) {i : Nat} (hi : i < up.length) : rt (up.set a b) i = if rt up i = a then b else rt up i := by
  obtain ⟨n, hn⟩ := h.rt hi
  obtain ⟨m, hm⟩ := hn.join ha hb hab
  exact rt_eq hm

/-! ### The solver in memory -/
structure Sv (W : World) (B p : Nat) (known : List KindSig) (datas : List DataSig) (first up : List Nat) (kind : List Int) (kv dv fv uv cv : Value) : Prop where
  blk : Blk W p 76 [kv, dv, fv, uv, cv]
  fo : W.ownsRow B 3 1 fv first.length (ints first)
  uo : W.ownsRow B 3 1 uv up.length (ints up)
  co : W.ownsRow B 3 1 cv kind.length (kintz kind)
  fu : ∀ i, fv.ownBlock = some i → ¬ uv.ownBlock = some i
  fc : ∀ i, fv.ownBlock = some i → ¬ cv.ownBlock = some i
  uc : ∀ i, uv.ownBlock = some i → ¬ cv.ownBlock = some i
  kn : Sl W (· < B) KindSig.d known kv
  dt : Sl W (· < B) DataSig.d datas dv
  low : B ≤ p
theorem own_shape {w : World} {base : Nat} {e : TypeId} {k n : Nat} {v : Value} {xs : List Value} (h : w.ownsRow base e k v n xs) : ∃ A c, v = .slice A n c ∧ n ≤ c ∧ c ≤ maxLen := by
  rcases h.2 with ⟨rfl, rfl⟩ | ⟨g, cap, cur, rfl, _, _, h1, h2, _⟩
  · exact ⟨none, 0, rfl, Nat.le_refl _, by unfold maxLen; omega⟩
  · exact ⟨_, cap, rfl, h1, h2⟩
theorem own_not {W : World} {B g n : Nat} {v : Value} {xs : List Value} {t : TypeId} {cs : List Value} (h : W.ownsRow B 3 1 v n xs) (hb : Blk W g t cs) (hne : 3 ≠ t) : ¬ v.ownBlock = some g := own_ne_blk h hb hne
/-- The cell of a row at an index. -/
theorem own_cell {W : World} {B n : Nat} {v : Value} {xs : List Value} (h : W.ownsRow B 3 1 v n xs) {i : Nat} {u : Value} (hu : xs[i]? = some u) (hn : xs.length = n) : ∃ g c, v = .slice (some ⟨g, 0, none⟩) n c ∧ W.cell? ⟨g, i, none⟩ = some u ∧ g < W.heap.size ∧ B ≤ g ∧ W.frozen? ⟨g, i, none⟩ = false := by
  have hi := (List.getElem?_eq_some_iff.1 hu).1
  have h' := h
  rcases h.2 with ⟨rfl, rfl⟩ | ⟨g, cap, cur, rfl, hB, hg, h1, h2, h3, h4⟩
  · omega
  · refine ⟨g, cap, rfl, ?_, (Array.getElem?_eq_some_iff.1 hg).1, hB, ?_⟩
    · rw [h.cellAt i (by omega)]; exact hu
    · exact h.frozenAt i
section
variable {W W' : World} {B p : Nat} {known : List KindSig} {datas : List DataSig} {first up : List Nat} {kind : List Int} {kv dv fv uv cv : Value}
theorem Sv.same (h : Sv W B p known datas first up kind kv dv fv uv cv) (hk : Keeps (fun _ => False) W W') : Sv W' B p known datas first up kind kv dv fv uv cv :=
  ⟨h.blk.keeps hk (fun h => h), own_keeps h.fo hk (fun _ _ h => h), own_keeps h.uo hk (fun _ _ h => h), own_keeps h.co hk (fun _ _ h => h), h.fu, h.fc, h.uc, h.kn.keeps hk (fun _ _ h => h), h.dt.keeps hk (fun _ _ h => h), h.low⟩
theorem ints_get {l : List Nat} {i j : Nat} (h : l[i]? = some j) : (ints l)[i]? = some (.int .i64 (j : Int)) := by simp [ints, h]
theorem kintz_get {l : List Int} {i : Nat} {j : Int} (h : l[i]? = some j) : (kintz l)[i]? = some (.int .i64 j) := by simp [kintz, h]
@[simp] theorem ints_length (l : List Nat) : (ints l).length = l.length := by simp [ints]
@[simp] theorem kintz_length (l : List Int) : (kintz l).length = l.length := by simp [kintz]

set_option maxHeartbeats 1000000 in
theorem root_any (hS : Sv W B p known datas first up kind kv dv fv uv cv) (n i r : Nat) (h : Leads up n i r) :
    Calls Tryd.prog 45 #[.pointer (some ⟨p, 0, none⟩), .int .i64 (i : Int)] W fun e w' => e = .returned (.int .i64 (r : Int)) ∧ W = w' := by
  have c3 := hS.blk.cell (i := 3) rfl
  obtain ⟨U, uc, rfl, _⟩ := own_shape hS.uo
  have HUo := Lib.hid hS.uo
  clear hS
  go_enter Tryd.func45, Tryd.ntmps45
  go_wp2
  go_loopg [1] n (fun q iv wr => ∃ j : Nat, iv = .int .i64 (j : Int) ∧ wr = W ∧ Leads up q j r)
  case atStart => exact ⟨i, rfl, rfl, h⟩
  case round =>
    obtain ⟨j, rfl, rfl, hL⟩ := hrel
    have hjl := hL.lt
    cases gk with
    | zero =>
      obtain ⟨rfl, h1⟩ := hL
      obtain ⟨g, cc, hv, hc, hg, _, _⟩ := own_cell HUo.out (ints_get h1) (by simp)
      simp only [Value.slice.injEq] at hv
      obtain ⟨rfl, _, rfl⟩ := hv
      have j0 : (0 : Int) ≤ (j : Int) := by omega
      have j1 : (j : Int) < (up.length : Int) := by omega
      go_wp2
      go_ret
      exact ⟨rfl, rfl⟩
    | succ q =>
      obtain ⟨k, h1, h2, h3⟩ := hL
      obtain ⟨g, cc, hv, hc, hg, _, _⟩ := own_cell HUo.out (ints_get h1) (by simp)
      simp only [Value.slice.injEq] at hv
      obtain ⟨rfl, _, rfl⟩ := hv
      have j0 : (0 : Int) ≤ (j : Int) := by omega
      have j1 : (j : Int) < (up.length : Int) := by omega
      have hne : ((k : Int) != (j : Int)) = true := by rw [bne_iff_ne]; omega
      go_wp2
      go_roundg q
      case measure => omega
      case rel => exact ⟨k, rfl, rfl, h3⟩

end
end Go.Proofs.YtjofndhbpglfgaaDoor
