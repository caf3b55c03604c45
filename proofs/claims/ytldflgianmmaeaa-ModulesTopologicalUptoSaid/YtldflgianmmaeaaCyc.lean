/- modules.Cycle in plain Lean: the lists that the walks compute, and that a cycle that is found is one. -/
import Derived.Test.YtldflgianmmaeaaCycSort
namespace Go.Proofs.Ytldflgianmmaeaa
open Go

abbrev Bt := ByteArray
def sortT (l : List T) : List T := l.mergeSort fun x y => decide (x ≤ y)
/-- A list of strings, sorted. -/
def sortB (l : List Bt) : List Bt := (sortT (l.map (·.data.toList))).map toB
theorem mem_sortB {l : List Bt} {x : Bt} : x ∈ sortB l ↔ x ∈ l := by
  unfold sortB sortT
  rw [List.mem_map]
  constructor
  · rintro ⟨t, ht, rfl⟩
    rw [List.mem_mergeSort] at ht
    obtain ⟨y, hy, rfl⟩ := List.mem_map.1 ht
    rwa [toB_data]
  · intro hx
    exact ⟨x.data.toList, by rw [List.mem_mergeSort]; exact List.mem_map.2 ⟨x, hx, rfl⟩, toB_data x⟩
theorem sortB_length (l : List Bt) : (sortB l).length = l.length := by simp [sortB, sortT]

/-- What a module imports. -/
def impOf (N : List Bt) (I : List (List Bt)) (x : Bt) : List Bt := I.getD (idxInt (fun y => decide (x = y)) N).toNat []
def reachB (N : List Bt) (I : List (List Bt)) (to : Bt) : Nat → List Bt → Bool
  | 0, _ => false
  | k + 1, here => isIn (normB (here.flatMap (impOf N I))) to || reachB N I to k (normB (here.flatMap (impOf N I)))
/-- a ≤ b, as the program compares. -/
def leS (a b : Bt) : Bool := decide (a.data.toList ≤ b.data.toList)
def lastB (way : List Bt) : Bt := way.getLastD ⟨#[]⟩
def headB (way : List Bt) : Bt := way.headD ⟨#[]⟩
/-- The ways that are tried from a list of next modules. -/
def tryN (f : List Bt → Option (List Bt)) (way : List Bt) : List Bt → Option (List Bt)
  | [] => none
  | m :: l => if leS m (headB way) || isIn way m then tryN f way l else (f (way ++ [m])).or (tryN f way l)
def walkP (N : List Bt) (I : List (List Bt)) : Nat → List Bt → Option (List Bt)
  | 0, way => if isIn (sortB (impOf N I (lastB way))) (headB way) then some way else none
  | d + 1, way => if reachB N I (headB way) (d + 2) [lastB way] then tryN (walkP N I d) way (sortB (impOf N I (lastB way))) else none
def tryS (N : List Bt) (I : List (List Bt)) (d : Nat) : List Bt → Option (List Bt)
  | [] => none
  | s :: l => (walkP N I d [s]).or (tryS N I d l)
/-- From a size on, so many sizes. -/
def cycF (N : List Bt) (I : List (List Bt)) : Nat → Nat → Option (List Bt)
  | 0, _ => none
  | k + 1, d => (tryS N I d (sortB N)).or (cycF N I k (d + 1))
def cycP (N : List Bt) (I : List (List Bt)) : Option (List Bt) := cycF N I N.length 0

/-- Each element of a way imports the next one. -/
def Chain (N : List Bt) (I : List (List Bt)) : List Bt → Prop
  | [] => True
  | [_] => True
  | a :: b :: l => b ∈ impOf N I a ∧ Chain N I (b :: l)
theorem Chain.snoc {N : List Bt} {I : List (List Bt)} {m : Bt} : ∀ {way : List Bt}, Chain N I way → (way ≠ [] → m ∈ impOf N I (lastB way)) → Chain N I (way ++ [m])
  | [], _, _ => trivial
  | [a], _, h => ⟨h (by simp), trivial⟩
  | a :: b :: l, h, hm => ⟨h.1, Chain.snoc (way := b :: l) h.2 (fun _ => by have := hm (by simp); simpa [lastB] using this)⟩
theorem Chain.get {N : List Bt} {I : List (List Bt)} : ∀ {way : List Bt}, Chain N I way → ∀ (i : Nat) (a b : Bt), way[i]? = some a → way[i + 1]? = some b → b ∈ impOf N I a
  | [], _, i, a, b, h, _ => by simp at h
  | [x], _, i, a, b, _, h => by simp at h
  | x :: y :: l, h, 0, a, b, h1, h2 => by simp at h1 h2; subst h1 h2; exact h.1
  | x :: y :: l, h, i + 1, a, b, h1, h2 => Chain.get (way := y :: l) h.2 i a b (by simpa using h1) (by simpa using h2)

theorem headB_snoc {way : List Bt} (h : way ≠ []) (m : Bt) : headB (way ++ [m]) = headB way := by
  cases way with
  | nil => exact absurd rfl h
  | cons a l => rfl
theorem lastB_snoc (way : List Bt) (m : Bt) : lastB (way ++ [m]) = m := by simp [lastB]
theorem leS_refl (a : Bt) : leS a a = true := decide_eq_true (List.le_refl _)
theorem leS_not {a b : Bt} (h : leS a b = false) : leS b a = true := by
  unfold leS at *
  rcases List.le_total b.data.toList a.data.toList with h1 | h1
  · exact decide_eq_true h1
  · rw [decide_eq_true h1] at h; cases h

theorem tryN_some {f : List Bt → Option (List Bt)} {way c : List Bt} : ∀ {l : List Bt}, tryN f way l = some c → ∃ m, m ∈ l ∧ leS m (headB way) = false ∧ isIn way m = false ∧ f (way ++ [m]) = some c
  | [], h => by simp [tryN] at h
  | m :: l, h => by
    unfold tryN at h
    split at h
    · obtain ⟨x, hx, h1⟩ := tryN_some h
      exact ⟨x, List.mem_cons_of_mem _ hx, h1⟩
    · rename_i hc
      cases hf : f (way ++ [m]) with
      | some c' =>
        rw [hf] at h
        have : c' = c := by simpa using h
        subst this
        simp only [Bool.or_eq_true, not_or, Bool.not_eq_true] at hc
        exact ⟨m, by simp, hc.1, hc.2, hf⟩
      | none =>
        rw [hf] at h
        obtain ⟨x, hx, h1⟩ := tryN_some (l := l) (by simpa using h)
        exact ⟨x, List.mem_cons_of_mem _ hx, h1⟩

/-- What a walk finds: a chain that begins as the way, closes, and has its least name first. -/
structure Cyc (N : List Bt) (I : List (List Bt)) (c : List Bt) : Prop where
  ne : c ≠ []
  chain : Chain N I c
  back : headB c ∈ impOf N I (lastB c)
  least : ∀ m ∈ c, leS (headB c) m = true
  inN : ∀ m ∈ c, m ∈ N

theorem walkP_some {N : List Bt} {I : List (List Bt)} (hI : ∀ x ∈ N, ∀ m ∈ impOf N I x, m ∈ N) : ∀ (d : Nat) (way c : List Bt), way ≠ [] → Chain N I way → (∀ m ∈ way, leS (headB way) m = true) → (∀ m ∈ way, m ∈ N) → walkP N I d way = some c → Cyc N I c
  | 0, way, c, hne, hc, hl, hn, h => by
    unfold walkP at h
    split at h
    · rename_i hi
      obtain rfl : way = c := by simpa using h
      exact ⟨hne, hc, mem_sortB.1 (isIn_iff.1 hi), hl, hn⟩
    · simp at h
  | d + 1, way, c, hne, hc, hl, hn, h => by
    unfold walkP at h
    split at h
    · obtain ⟨m, hm, h1, _, h3⟩ := tryN_some h
      have hm' := mem_sortB.1 hm
      have hlast : lastB way ∈ N := hn _ (by
        unfold lastB
        cases way with
        | nil => exact absurd rfl hne
        | cons a l => rw [List.getLastD_cons]; exact List.getLastD_mem_cons)
      refine walkP_some hI d (way ++ [m]) c (by simp) (hc.snoc fun _ => hm') (fun x hx => ?_) (fun x hx => ?_) h3
      · rw [headB_snoc hne]
        rcases List.mem_append.1 hx with hx | hx
        · exact hl x hx
        · rw [List.mem_singleton.1 hx]; exact leS_not h1
      · rcases List.mem_append.1 hx with hx | hx
        · exact hn x hx
        · rw [List.mem_singleton.1 hx]; exact hI _ hlast m hm'
    · simp at h

theorem tryS_some {N : List Bt} {I : List (List Bt)} {d : Nat} {c : List Bt} : ∀ {l : List Bt}, tryS N I d l = some c → ∃ s ∈ l, walkP N I d [s] = some c
  | [], h => by simp [tryS] at h
  | s :: l, h => by
    unfold tryS at h
    cases hf : walkP N I d [s] with
    | some c' =>
      rw [hf] at h
      have : c' = c := by simpa using h
      subst this
      exact ⟨s, by simp, hf⟩
    | none =>
      rw [hf] at h
      obtain ⟨x, hx, h1⟩ := tryS_some (l := l) (by simpa using h)
      exact ⟨x, List.mem_cons_of_mem _ hx, h1⟩
theorem cycF_some {N : List Bt} {I : List (List Bt)} (hI : ∀ x ∈ N, ∀ m ∈ impOf N I x, m ∈ N) {c : List Bt} : ∀ {k d : Nat}, cycF N I k d = some c → Cyc N I c
  | 0, d, h => by simp [cycF] at h
  | k + 1, d, h => by
    unfold cycF at h
    cases hf : tryS N I d (sortB N) with
    | some c' =>
      rw [hf] at h
      have : c' = c := by simpa using h
      subst this
      obtain ⟨s, hs, hw⟩ := tryS_some hf
      refine walkP_some hI d [s] c' (by simp) trivial (fun m hm => ?_) (fun m hm => ?_) hw
      · rw [List.mem_singleton.1 hm]; exact leS_refl s
      · rw [List.mem_singleton.1 hm]; exact mem_sortB.1 hs
    | none =>
      rw [hf] at h
      exact cycF_some hI (by simpa using h)
end Go.Proofs.Ytldflgianmmaeaa
