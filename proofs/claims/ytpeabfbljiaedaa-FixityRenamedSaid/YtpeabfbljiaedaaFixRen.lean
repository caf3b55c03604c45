/- Renaming an operator, to one that does not occur, in a table and a sequence renames it in what fixity.Build computes. No program in sight. -/
import Derived.Test.YtpeabfbljiaedaaFixBuild
namespace Go.Proofs.Ytpeabfbljiaedaa
open Go.RowKit

def newOp : ByteArray := ⟨#[114, 101, 110, 97, 109, 101, 100]⟩
def ren (old op : ByteArray) : ByteArray := if op = old then newOp else op
def renSig (old : ByteArray) (x : FixSig) : FixSig := ⟨ren old x.op, x.side, x.level⟩
def renItem (old : ByteArray) (x : FixItem) : FixItem := ⟨ren old x.op, x.n⟩
def renNode (old : ByteArray) (x : FixNode) : FixNode := ⟨ren old x.op, x.n, x.a, x.b⟩

theorem newOp_ne : newOp ≠ noOp := by
  intro h
  have := congrArg (fun s : ByteArray => s.data.size) h
  simp [newOp, noOp] at this
section
variable {old : ByteArray} (hold : old ≠ noOp)
theorem ren_inj {a b : ByteArray} (ha : a ≠ newOp) (hb : b ≠ newOp) : ren old a = ren old b ↔ a = b := by
  unfold ren
  by_cases h1 : a = old
  · by_cases h2 : b = old
    · simp [h1, h2]
    · rw [if_pos h1, if_neg h2]
      exact ⟨fun h => absurd h.symm hb, fun h => absurd (h ▸ h1) h2⟩
  · by_cases h2 : b = old
    · rw [if_neg h1, if_pos h2]
      exact ⟨fun h => absurd h ha, fun h => absurd (h.symm ▸ h2) h1⟩
    · rw [if_neg h1, if_neg h2]
include hold in
theorem ren_noOp : ren old noOp = noOp := by unfold ren; rw [if_neg (fun h => hold h.symm)]
include hold in
theorem ren_empty (op : ByteArray) : ren old op = noOp ↔ op = noOp := by
  unfold ren
  by_cases h : op = old
  · rw [if_pos h]
    exact ⟨fun h2 => absurd h2 newOp_ne, fun h2 => absurd (h ▸ h2) hold⟩
  · rw [if_neg h]
include hold in
theorem ren_isEmpty (op : ByteArray) : (ren old op).toList.isEmpty = op.toList.isEmpty := by
  rw [Bool.eq_iff_iff, List.isEmpty_iff, List.isEmpty_iff, toList_noOp, toList_noOp, ren_empty hold]

theorem fixFind_ren {T : List FixSig} (hT : ∀ x ∈ T, x.op ≠ newOp) {op : ByteArray} (hop : op ≠ newOp) : fixFind (T.map (renSig old)) (ren old op) = renSig old (fixFind T op) := by
  induction T with
  | nil => rfl
  | cons x T ih =>
    rw [List.map_cons, fixFind, fixFind]
    have hx := hT x (by simp)
    by_cases h : x.op = op
    · rw [if_pos h, if_pos (show (renSig old x).op = ren old op from (ren_inj hx hop).2 h)]
    · rw [if_neg h, if_neg (show ¬ (renSig old x).op = ren old op from fun h2 => h ((ren_inj hx hop).1 h2))]
      exact ih (fun y hy => hT y (by simp [hy]))
theorem sameOp_iff (op : ByteArray) (y : FixSig) : sameOp op y = true ↔ y.op = op := by
  unfold sameOp
  rw [beq_iff_eq]
  exact ⟨str_inj, fun h => by rw [h]⟩
theorem any_ren {op : ByteArray} (hop : op ≠ newOp) : ∀ (pre : List FixSig), (∀ x ∈ pre, x.op ≠ newOp) → (pre.map (renSig old)).any (sameOp (ren old op)) = pre.any (sameOp op)
  | [], _ => rfl
  | x :: pre, h => by
    rw [List.map_cons, List.any_cons, List.any_cons, any_ren hop pre (fun y hy => h y (by simp [hy]))]
    congr 1
    rw [Bool.eq_iff_iff, sameOp_iff, sameOp_iff]
    exact ren_inj (h x (by simp)) hop
include hold in
theorem fixCheckFrom_ren : ∀ (r pre : List FixSig), (∀ x ∈ pre, x.op ≠ newOp) → (∀ x ∈ r, x.op ≠ newOp) → fixCheckFrom (pre.map (renSig old)) (r.map (renSig old)) = fixCheckFrom pre r
  | [], _, _, _ => rfl
  | x :: r, pre, hp, hr => by
    have hx := hr x (by simp)
    rw [List.map_cons, fixCheckFrom, fixCheckFrom]
    have h1 : ((renSig old x).op.toList = []) = (x.op.toList = []) := by
      rw [toList_noOp, toList_noOp]; exact propext (ren_empty hold x.op)
    have h2 : fixBad (renSig old x) = fixBad x := rfl
    have h3 : (pre.map (renSig old)).any (sameOp (renSig old x).op) = pre.any (sameOp x.op) := any_ren hx pre hp
    have h4 : fixCheckFrom (pre.map (renSig old) ++ [renSig old x]) (r.map (renSig old)) = fixCheckFrom (pre ++ [x]) r := by
      have := fixCheckFrom_ren r (pre ++ [x]) (fun y hy => by
        rcases List.mem_append.1 hy with h | h
        · exact hp y h
        · rw [List.mem_singleton.1 h]; exact hx) (fun y hy => hr y (by simp [hy]))
      rwa [List.map_append] at this
    rw [h2, h3, h4]
    by_cases hc : x.op.toList = []
    · rw [if_pos hc, if_pos (h1 ▸ hc)]
    · rw [if_neg hc, if_neg (fun h => hc (h1 ▸ h))]
include hold in
theorem fixCheck_ren {T : List FixSig} (hT : ∀ x ∈ T, x.op ≠ newOp) : fixCheck (T.map (renSig old)) = fixCheck T := by
  unfold fixCheck
  rw [List.length_map]
  have := fixCheckFrom_ren hold T [] (by simp) hT
  rw [List.map_nil] at this
  rw [this]
include hold in
theorem fixAlt_ren : ∀ (r : List FixItem) (i : Nat), fixAltFrom i (r.map (renItem old)) = fixAltFrom i r
  | [], _ => rfl
  | x :: r, i => by
    rw [List.map_cons, fixAltFrom, fixAltFrom, fixAlt_ren r (i + 1)]
    rw [show (renItem old x).op.toList.isEmpty = x.op.toList.isEmpty from ren_isEmpty hold x.op]
include hold in
theorem opAt_ren (I : List FixItem) (k : Nat) : opAt (I.map (renItem old)) k = ren old (opAt I k) := by
  unfold opAt
  rcases Nat.lt_or_ge k I.length with h | h
  · simp [h, renItem]
  · simp [List.getElem?_eq_none h, ren_noOp hold]
include hold in
theorem leafOf_ren (I : List FixItem) (k : Nat) : leafOf (I.map (renItem old)) k = renNode old (leafOf I k) := by
  unfold leafOf renNode
  rw [ren_noOp hold]
  rcases Nat.lt_or_ge k I.length with h | h
  · simp [h, renItem]
  · simp [List.getElem?_eq_none h]
theorem opAt_ne {I : List FixItem} (hI : ∀ x ∈ I, x.op ≠ newOp) (k : Nat) : opAt I k ≠ newOp := by
  unfold opAt
  rcases Nat.lt_or_ge k I.length with h | h
  · simp only [List.getD_eq_getElem?_getD, List.getElem?_eq_getElem h, Option.getD_some]
    exact hI _ (List.getElem_mem h)
  · simp only [List.getD_eq_getElem?_getD, List.getElem?_eq_none h, Option.getD_none]
    exact fun e => newOp_ne e.symm

def renSt (old : ByteArray) (s : FixSt) : FixSt := ⟨s.at_, s.out.map (renNode old), s.e⟩
include hold in
theorem readLeaf_ren (I : List FixItem) (s : FixSt) : readLeaf (I.map (renItem old)) (renSt old s) = renSt old (readLeaf I s) := by
  simp [readLeaf, renSt, leafOf_ren hold]
include hold in
theorem fixLoop_ren {T : List FixSig} {I : List FixItem} (hT : ∀ x ∈ T, x.op ≠ newOp) (hI : ∀ x ∈ I, x.op ≠ newOp) : ∀ (n : Nat) (least : Int) (outer last : FixSig) (left : Nat) (s : FixSt),
    fixLoop (T.map (renSig old)) (I.map (renItem old)) n least (renSig old outer) (renSig old last) left (renSt old s) =
      (renSt old (fixLoop T I n least outer last left s).1, (fixLoop T I n least outer last left s).2) := by
  intro n
  induction n with
  | zero => intro least outer last left s; rfl
  | succ n ih =>
    intro least outer last left s
    rw [fixLoop, fixLoop]
    have hf : fixFind (T.map (renSig old)) (opAt (I.map (renItem old)) (renSt old s).at_) = renSig old (fixFind T (opAt I s.at_)) := by
      rw [show (renSt old s).at_ = s.at_ from rfl, opAt_ren hold]
      exact fixFind_ren hT (opAt_ne hI _)
    rw [hf]
    generalize fixFind T (opAt I s.at_) = x
    have hag : ∀ y : FixSig, fixAgainst (renSig old x) (renSig old y) = fixAgainst x y := fun _ => rfl
    rw [List.length_map, hag, hag]
    by_cases c1 : s.e ≠ 0 ∨ I.length ≤ s.at_
    · rw [if_pos c1, if_pos (show (renSt old s).e ≠ 0 ∨ I.length ≤ (renSt old s).at_ from c1)]
    · rw [if_neg c1, if_neg (show ¬ ((renSt old s).e ≠ 0 ∨ I.length ≤ (renSt old s).at_) from c1)]
      by_cases c2 : x.level < least
      · rw [if_pos c2, if_pos (show (renSig old x).level < least from c2)]
      · rw [if_neg c2, if_neg (show ¬ (renSig old x).level < least from c2)]
        by_cases c3 : (fixAgainst x outer || fixAgainst x last) = true
        · rw [if_pos c3, if_pos c3]; rfl
        · rw [if_neg c3, if_neg c3]
          simp only
          have e1 : readLeaf (I.map (renItem old)) ⟨(renSt old s).at_ + 1, (renSt old s).out, (renSt old s).e⟩ = renSt old (readLeaf I ⟨s.at_ + 1, s.out, s.e⟩) := readLeaf_ren hold I ⟨s.at_ + 1, s.out, s.e⟩
          have e2 : (renSt old s).out.length = s.out.length := by simp [renSt]
          have e3 : nextLevel (renSig old x) = nextLevel x := rfl
          rw [e1, e2, e3, ih (nextLevel x) x x s.out.length (readLeaf I ⟨s.at_ + 1, s.out, s.e⟩)]
          generalize fixLoop T I n (nextLevel x) x x s.out.length (readLeaf I ⟨s.at_ + 1, s.out, s.e⟩) = r
          have e4 : (⟨(renSt old r.1).at_, (renSt old r.1).out ++ [⟨(renSig old x).op, 0, (left : Int), (r.2 : Int)⟩], (renSt old r.1).e⟩ : FixSt) = renSt old ⟨r.1.at_, r.1.out ++ [⟨x.op, 0, left, r.2⟩], r.1.e⟩ := by
            simp [renSt, renNode, renSig]
          have e5 : (renSt old r.1).out.length = r.1.out.length := by simp [renSt]
          simp only
          rw [e4, e5]
          exact ih least outer x r.1.out.length ⟨r.1.at_, r.1.out ++ [⟨x.op, 0, left, r.2⟩], r.1.e⟩
include hold in
theorem fixRun_ren {T : List FixSig} {I : List FixItem} (hT : ∀ x ∈ T, x.op ≠ newOp) (hI : ∀ x ∈ I, x.op ≠ newOp) : fixRun (T.map (renSig old)) (I.map (renItem old)) = (renSt old (fixRun T I).1, (fixRun T I).2) := by
  unfold fixRun
  have h := fixLoop_ren hold hT hI I.length 0 fixStart fixStart 0 (readLeaf I ⟨0, [], 0⟩)
  rw [← readLeaf_ren hold] at h
  rw [List.length_map, ← h]
  have e : renSig old fixStart = fixStart := by unfold renSig fixStart; rw [ren_noOp hold]
  rw [e]
  rfl
include hold in
theorem fixBuild_ren {T : List FixSig} {I : List FixItem} (hT : ∀ x ∈ T, x.op ≠ newOp) (hI : ∀ x ∈ I, x.op ≠ newOp) : fixBuild (T.map (renSig old)) (I.map (renItem old)) = ((fixBuild T I).1.map (renNode old), (fixBuild T I).2) := by
  unfold fixBuild
  rw [fixCheck_ren hold hT, List.length_map, fixAlt_ren hold, fixRun_ren hold hT hI]
  by_cases c1 : fixCheck T ≠ 0
  · rw [if_pos c1, if_pos c1]; rfl
  · rw [if_neg c1, if_neg c1]
    by_cases c2 : 400 < I.length
    · rw [if_pos c2, if_pos c2]; rfl
    · rw [if_neg c2, if_neg c2]
      by_cases c3 : I.length % 2 = 0
      · rw [if_pos c3, if_pos c3]; rfl
      · rw [if_neg c3, if_neg c3]
        by_cases c4 : fixAltFrom 0 I = false
        · rw [if_pos c4, if_pos c4]; rfl
        · rw [if_neg c4, if_neg c4]
          by_cases c5 : (fixRun T I).1.e ≠ 0
          · rw [if_pos c5, if_pos (show (renSt old (fixRun T I).1).e ≠ 0 from c5)]; rfl
          · rw [if_neg c5, if_neg (show ¬ (renSt old (fixRun T I).1).e ≠ 0 from c5)]; rfl
end
end Go.Proofs.Ytpeabfbljiaedaa
