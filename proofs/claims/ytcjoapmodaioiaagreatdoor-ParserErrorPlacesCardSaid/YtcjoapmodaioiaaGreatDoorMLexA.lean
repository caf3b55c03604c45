/- The parser: Lex, LexLaw, Lines, LexPl. -/
import Derived.Test.YtcjoapmodaioiaaGreatDoorBase
import Derived.Lib.Bytealg
import Derived.Lib.SplitLaws
import Derived.Lib.IndexLaws
import Derived.Lib.Join
import Derived.Lib.LastIndexByte
import Derived.Lib.Space
section
namespace Go.Proofs.YtcjoapmodaioiaaGreatDoor
open Go

abbrev Bs := List UInt8
def small (c : UInt8) : Bool := (decide (97 ≤ c.toNat) && decide (c.toNat ≤ 122)) || decide (c.toNat = 95)
def large (c : UInt8) : Bool := decide (65 ≤ c.toNat) && decide (c.toNat ≤ 90)
def digit (c : UInt8) : Bool := decide (48 ≤ c.toNat) && decide (c.toNat ≤ 57)
def inner (c : UInt8) : Bool := small c || large c || digit c || decide (c.toNat = 39)
def symbols : Bs := [33, 35, 36, 37, 38, 42, 43, 47, 60, 61, 62, 63, 64, 94, 124, 45, 126, 58, 46, 92]
def mark (c : UInt8) : Bool := decide (0 ≤ Lib.indexByte symbols c)
def puncts : Bs := [40, 41, 123, 125, 44, 59]
def punct (c : UInt8) : Bool := decide (0 ≤ Lib.indexByte puncts c)

def numFrom (n : Int) : Bs → Int
  | [] => n
  | c :: t => numFrom (min (n * 10 + ((c.toNat : Int) - 48)) 1073741824) t

structure Tk where
  kind : Int
  text : Bs
  n : Int
  line : Int
  col : Int

structure It where
  len : Nat
  tok : Option (Int × Bs × Int)
  bad : Bool

variable (kw dash : Bs → Bool)

def item (c : UInt8) (t : Bs) : It :=
  if c = 32 then ⟨1, none, false⟩
  else if small c then let u := (c :: t).takeWhile inner; ⟨u.length, some (if kw u then 4 else 0, u, 0), false⟩
  else if large c then let u := (c :: t).takeWhile inner; ⟨u.length, some (1, u, 0), false⟩
  else if digit c then let u := (c :: t).takeWhile digit; let n := numFrom 0 u
    if 1073741823 < n then ⟨u.length, some (2, u, 0), true⟩ else ⟨u.length, some (2, u, n), false⟩
  else if punct c then ⟨1, some (5, [c], 0), false⟩
  else if mark c then let u := (c :: t).takeWhile mark
    if 1 < u.length ∧ dash u = true then ⟨((c :: t).takeWhile (fun b => b != 10)).length, none, false⟩
    else ⟨u.length, some (if kw u then 4 else 3, u, 0), false⟩
  else ⟨1, none, true⟩

def put? (o : Option (Int × Bs × Int)) (ln cl : Int) (l : List Tk) : List Tk := match o with
  | none => l
  | some (k, u, n) => ⟨k, u, n, ln, cl⟩ :: l

def lex : Nat → Bs → Int → Int → List Tk × Bool
  | 0, _, _, _ => ([], false)
  | _ + 1, [], ln, cl => ([⟨9, [], 0, ln, cl⟩], false)
  | f + 1, c :: t, ln, cl =>
    if c = 10 then lex f t (ln + 1) 1
    else
      let it := item kw dash c t
      let r := lex f ((c :: t).drop it.len) ln (cl + it.len)
      (put? it.tok ln cl r.1, it.bad || r.2)
end Go.Proofs.YtcjoapmodaioiaaGreatDoor
end

section
namespace Go.Proofs.YtcjoapmodaioiaaGreatDoor
open Go

theorem tw_le {p : UInt8 → Bool} : ∀ x : Bs, (x.takeWhile p).length ≤ x.length
  | [] => by simp
  | a :: x => by
    rw [List.takeWhile_cons]
    split
    · have := tw_le (p := p) x; simp only [List.length_cons]; omega
    · simp
theorem tw_pos {p : UInt8 → Bool} {c : UInt8} (h : p c = true) (t : Bs) : 1 ≤ ((c :: t).takeWhile p).length := by
  rw [List.takeWhile_cons, if_pos h]; simp
theorem inner_10 : inner 10 = false := by decide
theorem digit_10 : digit 10 = false := by decide
theorem mark_10 : mark 10 = false := by decide
theorem small_inner {c : UInt8} (h : small c = true) : inner c = true := by simp [inner, h]
theorem large_inner {c : UInt8} (h : large c = true) : inner c = true := by simp [inner, h]

section
variable {kw dash : Bs → Bool}

theorem item_len {c : UInt8} (hc : c ≠ 10) (t : Bs) : 1 ≤ (item kw dash c t).len ∧ (item kw dash c t).len ≤ t.length + 1 := by
  have l1 := tw_le (p := inner) (c :: t)
  have l2 := tw_le (p := digit) (c :: t)
  have l3 := tw_le (p := mark) (c :: t)
  have l4 := tw_le (p := fun b => b != 10) (c :: t)
  simp only [List.length_cons] at l1 l2 l3 l4
  unfold item
  split
  · simp
  · split
    · rename_i h; exact ⟨tw_pos (small_inner h) t, l1⟩
    · split
      · rename_i h; exact ⟨tw_pos (large_inner h) t, l1⟩
      · split
        · rename_i h
          dsimp only
          split <;> exact ⟨tw_pos h t, l2⟩
        · split
          · simp
          · split
            · rename_i h
              dsimp only
              split
              · exact ⟨tw_pos (by simpa using hc) t, l4⟩
              · exact ⟨tw_pos h t, l3⟩
            · simp

theorem tw_nl {p : UInt8 → Bool} (hp : p 10 = false) (x : Bs) : (10 : UInt8) ∉ x.take (x.takeWhile p).length := by
  rw [← List.prefix_iff_eq_take.1 (List.takeWhile_prefix p)]
  intro h
  have := List.all_takeWhile (p := p) (l := x)
  rw [List.all_eq_true] at this
  have := this 10 h
  rw [hp] at this; cases this

theorem item_nl {c : UInt8} (hc : c ≠ 10) (t : Bs) : (10 : UInt8) ∉ (c :: t).take (item kw dash c t).len := by
  have l0 : (10 : UInt8) ∉ (c :: t).take 1 := by simp; exact fun e => hc e.symm
  have l1 := tw_nl inner_10 (c :: t)
  have l2 := tw_nl digit_10 (c :: t)
  have l3 := tw_nl mark_10 (c :: t)
  have l4 := tw_nl (p := fun b => b != 10) rfl (c :: t)
  unfold item
  split
  · exact l0
  · split
    · exact l1
    · split
      · exact l1
      · split
        · dsimp only
          split <;> exact l2
        · split
          · exact l0
          · split
            · dsimp only
              split
              · exact l4
              · exact l3
            · exact l0

theorem lex_fuel : ∀ (f : Nat) (l : Bs) (ln cl : Int), l.length < f → ∀ f', l.length < f' → lex kw dash f l ln cl = lex kw dash f' l ln cl
  | 0, _, _, _, h, _, _ => by omega
  | f + 1, l, ln, cl, h, 0, h' => by omega
  | f + 1, [], ln, cl, h, f' + 1, h' => rfl
  | f + 1, c :: t, ln, cl, h, f' + 1, h' => by
    simp only [List.length_cons] at h h'
    unfold lex
    by_cases hc : c = 10
    · rw [if_pos hc, if_pos hc]; exact lex_fuel f t _ _ (by omega) f' (by omega)
    · rw [if_neg hc, if_neg hc]
      have hl := (item_len (kw := kw) (dash := dash) hc t).1
      dsimp only
      rw [lex_fuel f ((c :: t).drop (item kw dash c t).len) ln _ (by rw [List.length_drop, List.length_cons]; omega) f' (by rw [List.length_drop, List.length_cons]; omega)]




def Tk.down (d : Int) (x : Tk) : Tk := { x with line := x.line + d }
end
end Go.Proofs.YtcjoapmodaioiaaGreatDoor
end

section
namespace Go.Proofs.YtcjoapmodaioiaaGreatDoor
open Go

theorem idx_none {l : List UInt8} (h : (10 : UInt8) ∉ l) : Lib.indexByte l 10 = -1 := by
  induction l with
  | nil => rfl
  | cons c t ih =>
    have hc : (c == 10) = false := beq_eq_false_iff_ne.2 fun e => h (by simp [e])
    rw [Lib.indexByte, hc, ih (fun m => h (by simp [m]))]; rfl

theorem idx_hit {A B : List UInt8} (h : (10 : UInt8) ∉ A) : Lib.indexByte (A ++ 10 :: B) 10 = A.length := by
  induction A with
  | nil => simp [Lib.indexByte]
  | cons c t ih =>
    have hc : (c == 10) = false := beq_eq_false_iff_ne.2 fun e => h (by simp [e])
    have := ih (fun m => h (by simp [m]))
    rw [List.cons_append, Lib.indexByte, hc, this]
    have h1 : (((t.length : Nat) : Int) == -1) = false := beq_eq_false_iff_ne.2 (by omega)
    simp [h1]

theorem index_nl (l : List UInt8) : Lib.index l [10] = Lib.indexByte l 10 := by
  induction l with
  | nil => rfl
  | cons c t ih =>
    rw [Lib.index, Lib.indexByte, ih]
    by_cases hc : c = 10
    · subst hc; simp
    · have h1 : (c == 10) = false := beq_eq_false_iff_ne.2 hc
      have h2 : List.isPrefixOf [10] (c :: t) = false := by simp [List.isPrefixOf]; exact fun e => hc e.symm
      rw [h1, h2]

theorem cases_nl : ∀ l : List UInt8, (10 : UInt8) ∉ l ∨ ∃ A B, l = A ++ 10 :: B ∧ (10 : UInt8) ∉ A
  | [] => .inl (by simp)
  | c :: t => by
    by_cases hc : c = 10
    · exact .inr ⟨[], t, by simp [hc], by simp⟩
    · rcases cases_nl t with h | ⟨A, B, rfl, h⟩
      · exact .inl (by simp [h]; exact fun e => hc e.symm)
      · exact .inr ⟨c :: A, B, by simp, by simp [h]; exact fun e => hc e.symm⟩

def lines (l : List UInt8) : List (List UInt8) := Lib.splitK [10] 0 (l.count 10) l

theorem count_no {l : List UInt8} (h : (10 : UInt8) ∉ l) : l.count 10 = 0 := List.count_eq_zero.2 h
theorem count_nl {A B : List UInt8} (h : (10 : UInt8) ∉ A) : (A ++ 10 :: B).count 10 = B.count 10 + 1 := by
  rw [List.count_append, count_no h, List.count_cons_self]; omega

theorem lines_one {l : List UInt8} (h : (10 : UInt8) ∉ l) : lines l = [l] := by rw [lines, count_no h]; rfl
theorem lines_cons {A B : List UInt8} (h : (10 : UInt8) ∉ A) : lines (A ++ 10 :: B) = A :: lines B := by
  have hi : Lib.index (A ++ 10 :: B) [10] = A.length := by rw [index_nl, idx_hit h]
  have hm : ¬ (((A.length : Nat) : Int) == -1) = true := fun e => by have := beq_iff_eq.1 e; omega
  rw [lines, count_nl h, Lib.splitK, hi, if_neg hm, lines]
  simp only [Int.toNat_natCast, Nat.add_zero, List.length_singleton]
  have t1 : (A ++ 10 :: B).take A.length = A := by simp
  have t2 : (A ++ 10 :: B).drop (A.length + 1) = B := by rw [← List.drop_drop]; simp
  rw [t1, t2]

theorem lines_ind {p : List UInt8 → Prop} (h1 : ∀ l, (10 : UInt8) ∉ l → p l) (h2 : ∀ A B, (10 : UInt8) ∉ A → p B → p (A ++ 10 :: B)) (l : List UInt8) : p l := by
  rcases cases_nl l with h | ⟨A, B, rfl, h⟩
  · exact h1 l h
  · exact h2 A B h (lines_ind h1 h2 B)
termination_by l.length
decreasing_by simp_all; omega

theorem lines_length (l : List UInt8) : (lines l).length = l.count 10 + 1 := by
  refine lines_ind (p := fun l => (lines l).length = l.count 10 + 1) (fun l h => ?_) (fun A B h ih => ?_) l
  · rw [lines_one h, count_no h]; rfl
  · rw [lines_cons h, count_nl h, List.length_cons, ih]


theorem lines_le (l : List UInt8) : ∀ x ∈ lines l, x.length ≤ l.length := by
  refine lines_ind (p := fun l => ∀ x ∈ lines l, x.length ≤ l.length) (fun l h => ?_) (fun A B h ih => ?_) l
  · rw [lines_one h]; simp
  · rw [lines_cons h]
    intro x hx
    rcases List.mem_cons.1 hx with rfl | hx
    · simp
    · have := ih x hx; simp; omega

def start (l : List UInt8) : Nat → Nat
  | 0 => 0
  | k + 1 => start l k + (Lib.indexByte (l.drop (start l k)) 10 + 1).toNat

theorem start_le (l : List UInt8) : ∀ k, start l k ≤ l.length
  | 0 => Nat.zero_le _
  | k + 1 => by
    have ih := start_le l k
    rw [start]
    rcases cases_nl (l.drop (start l k)) with h | ⟨A, B, e, h⟩
    · rw [idx_none h]; simpa using ih
    · rw [e, idx_hit h]
      have := congrArg List.length e
      simp only [List.length_drop, List.length_append, List.length_cons] at this
      omega

theorem start_succ (l : List UInt8) (k : Nat) : (start l (k + 1) : Int) = (start l k : Int) + Lib.indexByte (l.drop (start l k)) 10 + 1 := by
  have := Lib.indexByte_ge (l.drop (start l k)) 10
  rw [start]; omega

theorem start_cons {A B : List UInt8} (h : (10 : UInt8) ∉ A) : ∀ k, start (A ++ 10 :: B) (k + 1) = A.length + 1 + start B k
  | 0 => by
    have := start_succ (A ++ 10 :: B) 0
    have z : start (A ++ 10 :: B) 0 = 0 := rfl
    rw [z, List.drop_zero, idx_hit h] at this
    have z2 : start B 0 = 0 := rfl
    omega
  | k + 1 => by
    have ih := start_cons (B := B) h k
    have e1 := start_succ (A ++ 10 :: B) (k + 1)
    have e2 := start_succ B k
    have t2 : (A ++ 10 :: B).drop (A.length + 1 + start B k) = B.drop (start B k) := by rw [← List.drop_drop, ← List.drop_drop]; simp
    rw [ih, t2] at e1
    omega

theorem place_law (R : List UInt8) : ∀ (A : List UInt8) (s : Nat), s ≤ A.length → (10 : UInt8) ∉ A.drop s → (s = 0 ∨ A[s - 1]? = some 10) →
    start (A ++ R) (A.count 10) = s ∧ ∃ x, (lines (A ++ R))[A.count 10]? = some x ∧ A.length - s ≤ x.length := by
  intro A
  refine lines_ind (p := fun A => ∀ s, s ≤ A.length → (10 : UInt8) ∉ A.drop s → (s = 0 ∨ A[s - 1]? = some 10) →
    start (A ++ R) (A.count 10) = s ∧ ∃ x, (lines (A ++ R))[A.count 10]? = some x ∧ A.length - s ≤ x.length) (fun A h s hs hd h0 => ?_) (fun A B h ih s hs hd h0 => ?_) A
  · have hs0 : s = 0 := by
      rcases h0 with h0 | h0
      · exact h0
      · exact absurd (List.mem_of_getElem? h0) h
    subst hs0
    rw [count_no h]
    refine ⟨rfl, ?_⟩
    rcases cases_nl R with hr | ⟨C, D, rfl, hr⟩
    · rw [lines_one (by simp [h, hr])]; exact ⟨_, rfl, by simp⟩
    · rw [← List.append_assoc, lines_cons (by simp [h, hr])]; exact ⟨_, rfl, by simp⟩
  · have hsA : A.length + 1 ≤ s := by
      refine Nat.lt_of_not_le fun hle => hd ?_
      rw [List.drop_append_of_le_length hle]; simp
    obtain ⟨u, rfl⟩ : ∃ u, s = A.length + 1 + u := ⟨s - (A.length + 1), by omega⟩
    have hu : u ≤ B.length := by simp at hs; omega
    have t2 : (A ++ 10 :: B).drop (A.length + 1 + u) = B.drop u := by rw [← List.drop_drop, ← List.drop_drop]; simp
    have hu0 : u = 0 ∨ B[u - 1]? = some 10 := by
      rcases Nat.eq_zero_or_pos u with rfl | hp
      · exact .inl rfl
      · right
        rcases h0 with h0 | h0
        · omega
        · rw [List.getElem?_append_right (by omega), show A.length + 1 + u - 1 - A.length = (u - 1) + 1 from by omega, List.getElem?_cons_succ] at h0
          exact h0
    obtain ⟨e1, x, e2, e3⟩ := ih u hu (by rw [← t2]; exact hd) hu0
    rw [count_nl h, List.append_assoc, List.cons_append, start_cons h, lines_cons h, List.getElem?_cons_succ, e1]
    exact ⟨rfl, x, e2, by simp; omega⟩

end Go.Proofs.YtcjoapmodaioiaaGreatDoor
end

section
namespace Go.Proofs.YtcjoapmodaioiaaGreatDoor
open Go

def PieceOk (x : Bs) : Prop := ∃ n y, x = List.replicate n 32 ++ y ∧ (y = [] ∨ ∃ z, y = 45 :: 45 :: z)
def GapOk (g : Bs) : Prop := ∀ x ∈ lines g, PieceOk x
theorem PieceOk.nil : PieceOk [] := ⟨0, [], rfl, .inl rfl⟩
theorem PieceOk.blank {x : Bs} (h : PieceOk x) : PieceOk (x ++ [32]) := by
  obtain ⟨n, y, rfl, rfl | ⟨z, rfl⟩⟩ := h
  · exact ⟨n + 1, [], by rw [List.append_nil, List.append_nil, List.replicate_succ'], .inl rfl⟩
  · exact ⟨n, 45 :: 45 :: (z ++ [32]), by simp, .inr ⟨_, rfl⟩⟩
theorem PieceOk.comment {x : Bs} (h : PieceOk x) (z : Bs) : PieceOk (x ++ 45 :: 45 :: z) := by
  obtain ⟨n, y, rfl, rfl | ⟨z', rfl⟩⟩ := h
  · exact ⟨n, 45 :: 45 :: z, by simp, .inr ⟨_, rfl⟩⟩
  · exact ⟨n, 45 :: 45 :: (z' ++ 45 :: 45 :: z), by simp, .inr ⟨_, rfl⟩⟩
theorem GapOk.nil : GapOk [] := fun x hx => by
  rw [lines_one (by simp)] at hx
  rw [List.mem_singleton.1 hx]; exact PieceOk.nil
theorem GapOk.snoc {u : Bs} (hu : (10 : UInt8) ∉ u) (hp : ∀ x, PieceOk x → PieceOk (x ++ u)) (g : Bs) (h : GapOk g) : GapOk (g ++ u) := by
  revert h
  refine lines_ind (p := fun g => GapOk g → GapOk (g ++ u)) (fun l hl h => ?_) (fun A B hA ih h => ?_) g
  · intro x hx
    rw [lines_one (by simp [hl, hu])] at hx
    rw [List.mem_singleton.1 hx]
    exact hp l (h l (by rw [lines_one hl]; simp))
  · intro x hx
    rw [List.append_assoc, List.cons_append, lines_cons hA] at hx
    rcases List.mem_cons.1 hx with rfl | hx
    · exact h x (by rw [lines_cons hA]; simp)
    · exact ih (fun y hy => h y (by rw [lines_cons hA]; simp [hy])) x hx
theorem GapOk.nl (g : Bs) (h : GapOk g) : GapOk (g ++ [10]) := by
  revert h
  refine lines_ind (p := fun g => GapOk g → GapOk (g ++ [10])) (fun l hl h => ?_) (fun A B hA ih h => ?_) g
  · intro x hx
    rw [lines_cons hl, lines_one (by simp)] at hx
    rcases List.mem_cons.1 hx with rfl | hx
    · exact h x (by rw [lines_one hl]; simp)
    · rw [List.mem_singleton.1 hx]; exact PieceOk.nil
  · intro x hx
    rw [List.append_assoc, List.cons_append, lines_cons hA] at hx
    rcases List.mem_cons.1 hx with rfl | hx
    · exact h x (by rw [lines_cons hA]; simp)
    · exact ih (fun y hy => h y (by rw [lines_cons hA]; simp [hy])) x hx


structure Pos (A : Bs) (s : Nat) (ln cl : Int) : Prop where
  le : s ≤ A.length
  no : (10 : UInt8) ∉ A.drop s
  z : s = 0 ∨ A[s - 1]? = some 10
  ln : ln = (A.count 10 : Int) + 1
  cl : cl = ((A.length - s : Nat) : Int) + 1
theorem Pos.start : Pos [] 0 1 1 := ⟨Nat.le_refl _, by simp, .inl rfl, by simp, by simp⟩
theorem Pos.nl {A : Bs} {s : Nat} {ln cl : Int} (h : Pos A s ln cl) : Pos (A ++ [10]) (A.length + 1) (ln + 1) 1 :=
  ⟨by simp, by simp, .inr (by simp), by rw [h.ln, List.count_append]; simp, by simp⟩
theorem Pos.go {A : Bs} {s : Nat} {ln cl : Int} (h : Pos A s ln cl) {u : Bs} (hu : (10 : UInt8) ∉ u) : Pos (A ++ u) s ln (cl + u.length) := by
  have hle := h.le
  refine ⟨by simp; omega, ?_, ?_, ?_, ?_⟩
  · rw [List.drop_append_of_le_length h.le, List.mem_append]
    rintro (h1 | h1)
    · exact h.no h1
    · exact hu h1
  · rcases h.z with h1 | h1
    · exact .inl h1
    · right
      rw [List.getElem?_append_left (List.getElem?_eq_some_iff.1 h1).1]; exact h1
  · rw [h.ln, List.count_append, List.count_eq_zero.2 hu]; rfl
  · rw [h.cl, List.length_append]; omega

def Placed (S : Bs) : Nat → List Tk → Prop
  | e, [] => e = S.length
  | e, x :: l => ∃ (k c : Nat) (y : Bs), x.line = (k : Int) + 1 ∧ x.col = (c : Int) + 1 ∧ (lines S)[k]? = some y ∧ c ≤ y.length ∧ e ≤ start S k + c ∧ start S k + c + x.text.length ≤ S.length ∧
      (S.drop (start S k + c)).take x.text.length = x.text ∧ GapOk ((S.drop e).take (start S k + c - e)) ∧ Placed S (start S k + c + x.text.length) l

theorem take_tw (p : UInt8 → Bool) (l : Bs) : l.take (l.takeWhile p).length = l.takeWhile p := (List.prefix_iff_eq_take.1 (List.takeWhile_prefix p)).symm
section
variable {kw dash : Bs → Bool}
theorem item_some {c : UInt8} {t : Bs} {k n : Int} {u : Bs} (h : (item kw dash c t).tok = some (k, u, n)) : (c :: t).take (item kw dash c t).len = u ∧ u.length = (item kw dash c t).len := by
  unfold item at h ⊢
  by_cases c1 : c = 32
  · rw [if_pos c1] at h; cases h
  rw [if_neg c1] at h ⊢
  by_cases c2 : small c = true
  · rw [if_pos c2] at h ⊢
    simp only [Option.some.injEq, Prod.mk.injEq] at h
    obtain ⟨_, rfl, _⟩ := h
    exact ⟨take_tw _ _, rfl⟩
  rw [if_neg c2] at h ⊢
  by_cases c3 : large c = true
  · rw [if_pos c3] at h ⊢
    simp only [Option.some.injEq, Prod.mk.injEq] at h
    obtain ⟨_, rfl, _⟩ := h
    exact ⟨take_tw _ _, rfl⟩
  rw [if_neg c3] at h ⊢
  by_cases c4 : digit c = true
  · rw [if_pos c4] at h ⊢
    dsimp only at h ⊢
    by_cases c5 : 1073741823 < numFrom 0 ((c :: t).takeWhile digit)
    · rw [if_pos c5] at h ⊢
      simp only [Option.some.injEq, Prod.mk.injEq] at h
      obtain ⟨_, rfl, _⟩ := h
      exact ⟨take_tw _ _, rfl⟩
    · rw [if_neg c5] at h ⊢
      simp only [Option.some.injEq, Prod.mk.injEq] at h
      obtain ⟨_, rfl, _⟩ := h
      exact ⟨take_tw _ _, rfl⟩
  rw [if_neg c4] at h ⊢
  by_cases c5 : punct c = true
  · rw [if_pos c5] at h ⊢
    simp only [Option.some.injEq, Prod.mk.injEq] at h
    obtain ⟨_, rfl, _⟩ := h
    exact ⟨rfl, rfl⟩
  rw [if_neg c5] at h ⊢
  by_cases c6 : mark c = true
  · rw [if_pos c6] at h ⊢
    dsimp only at h ⊢
    by_cases c7 : 1 < ((c :: t).takeWhile mark).length ∧ dash ((c :: t).takeWhile mark) = true
    · rw [if_pos c7] at h; cases h
    · rw [if_neg c7] at h ⊢
      simp only [Option.some.injEq, Prod.mk.injEq] at h
      obtain ⟨_, rfl, _⟩ := h
      exact ⟨take_tw _ _, rfl⟩
  · rw [if_neg c6] at h; cases h
theorem item_none (hd : ∀ u, dash u = true → 1 < u.length → ∃ z, u = 45 :: 45 :: z) {c : UInt8} {t : Bs} (h : (item kw dash c t).tok = none) (hb : (item kw dash c t).bad = false) :
    (c :: t).take (item kw dash c t).len = [32] ∨ ∃ z, (c :: t).take (item kw dash c t).len = 45 :: 45 :: z := by
  unfold item at h hb ⊢
  by_cases c1 : c = 32
  · rw [if_pos c1]; left; subst c1; rfl
  rw [if_neg c1] at h hb ⊢
  by_cases c2 : small c = true
  · rw [if_pos c2] at h; cases h
  rw [if_neg c2] at h hb ⊢
  by_cases c3 : large c = true
  · rw [if_pos c3] at h; cases h
  rw [if_neg c3] at h hb ⊢
  by_cases c4 : digit c = true
  · rw [if_pos c4] at h
    dsimp only at h
    split at h <;> cases h
  rw [if_neg c4] at h hb ⊢
  by_cases c5 : punct c = true
  · rw [if_pos c5] at h; cases h
  rw [if_neg c5] at h hb ⊢
  by_cases c6 : mark c = true
  · rw [if_pos c6] at h hb ⊢
    dsimp only at h hb ⊢
    by_cases c7 : 1 < ((c :: t).takeWhile mark).length ∧ dash ((c :: t).takeWhile mark) = true
    · rw [if_pos c7]
      right
      obtain ⟨z, hz⟩ := hd _ c7.2 c7.1
      show ∃ z, (c :: t).take ((c :: t).takeWhile (fun b => b != 10)).length = 45 :: 45 :: z
      rw [take_tw]
      obtain ⟨r, hr⟩ := List.takeWhile_prefix mark (l := c :: t)
      rw [hz] at hr
      rw [← hr]
      exact ⟨(z ++ r).takeWhile (fun b => b != 10), by simp⟩
    · rw [if_neg c7] at h; cases h
  · rw [if_neg c6] at hb; cases hb

theorem lex_places (hd : ∀ u, dash u = true → 1 < u.length → ∃ z, u = 45 :: 45 :: z) : ∀ (f : Nat) (rest A E g : Bs) (s : Nat) (ln cl : Int), rest.length < f → Pos A s ln cl → A = E ++ g → GapOk g → (lex kw dash f rest ln cl).2 = false →
    Placed (A ++ rest) E.length (lex kw dash f rest ln cl).1
  | 0, _, _, _, _, _, _, _, h, _, _, _, _ => by omega
  | f + 1, [], A, E, g, s, ln, cl, _, hp, hA, hg, _ => by
    have e : lex kw dash (f + 1) [] ln cl = ([⟨9, [], 0, ln, cl⟩], false) := rfl
    rw [e]
    obtain ⟨h1, y, h2, h3⟩ := place_law [] A s hp.le hp.no hp.z
    have hle := hp.le
    have hEl : E.length ≤ A.length := by rw [hA]; simp
    have hs : start (A ++ []) (A.count 10) + (A.length - s) = A.length := by rw [h1]; omega
    refine ⟨A.count 10, A.length - s, y, hp.ln, hp.cl, h2, h3, by omega, by simp only [List.length_nil]; rw [hs]; simp, by simp, ?_, ?_⟩
    · rw [hs, List.append_nil, hA]
      simpa using hg
    · show _ = _
      rw [hs]; simp
  | f + 1, c :: t, A, E, g, s, ln, cl, hf, hp, hA, hg, hb => by
    simp only [List.length_cons] at hf
    by_cases hc : c = 10
    · subst hc
      have e : lex kw dash (f + 1) (10 :: t) ln cl = lex kw dash f t (ln + 1) 1 := by rw [lex, if_pos rfl]
      rw [e] at hb ⊢
      have := lex_places hd f t (A ++ [10]) E (g ++ [10]) (A.length + 1) (ln + 1) 1 (by omega) hp.nl (by rw [hA, List.append_assoc]) (GapOk.nl g hg) hb
      simpa using this
    · have hl := item_len (kw := kw) (dash := dash) hc t
      have hn := item_nl (kw := kw) (dash := dash) hc t
      have e : lex kw dash (f + 1) (c :: t) ln cl = (put? (item kw dash c t).tok ln cl (lex kw dash f ((c :: t).drop (item kw dash c t).len) ln (cl + (item kw dash c t).len)).1, (item kw dash c t).bad || (lex kw dash f ((c :: t).drop (item kw dash c t).len) ln (cl + (item kw dash c t).len)).2) := by
        rw [lex, if_neg hc]
      have hdl : ((c :: t).drop (item kw dash c t).len).length < f := by rw [List.length_drop, List.length_cons]; omega
      rw [e] at hb ⊢
      simp only [Bool.or_eq_false_iff] at hb
      have hsplit : (A ++ (c :: t).take (item kw dash c t).len) ++ (c :: t).drop (item kw dash c t).len = A ++ c :: t := by rw [List.append_assoc, List.take_append_drop]
      have hul : ((c :: t).take (item kw dash c t).len).length = (item kw dash c t).len := by rw [List.length_take, List.length_cons]; omega
      have hgo := hp.go hn
      rw [hul] at hgo
      cases ho : (item kw dash c t).tok with
      | none =>
        have hgap : GapOk (g ++ (c :: t).take (item kw dash c t).len) := by
          refine GapOk.snoc hn (fun x hx => ?_) g hg
          rcases item_none hd ho hb.1 with h1 | ⟨z, h1⟩
          · rw [h1]; exact hx.blank
          · rw [h1]; exact hx.comment z
        have := lex_places hd f _ _ E _ s ln _ hdl hgo (by rw [hA, List.append_assoc]) hgap hb.2
        rw [hsplit] at this
        exact this
      | some p =>
        obtain ⟨k, u, n⟩ := p
        obtain ⟨h1, h2⟩ := item_some ho
        obtain ⟨h3, y, h4, h5⟩ := place_law (c :: t) A s hp.le hp.no hp.z
        have hle := hp.le
        have hEl : E.length ≤ A.length := by rw [hA]; simp
        have hs : start (A ++ c :: t) (A.count 10) + (A.length - s) = A.length := by rw [h3]; omega
        have ih := lex_places hd f _ _ (A ++ (c :: t).take (item kw dash c t).len) [] s ln _ hdl hgo (by simp) GapOk.nil hb.2
        rw [hsplit, List.length_append, hul] at ih
        show Placed _ _ (⟨k, u, n, ln, cl⟩ :: _)
        refine ⟨A.count 10, A.length - s, y, hp.ln, hp.cl, h4, h5, by omega, ?_, ?_, ?_, ?_⟩
        · show _ + u.length ≤ _
          rw [hs, h2, List.length_append, List.length_cons]; omega
        · show ((A ++ c :: t).drop _).take u.length = u
          rw [hs, List.drop_left' rfl, h2, h1]
        · rw [hs, List.drop_append_of_le_length hEl, hA]
          simpa using hg
        · show Placed _ (_ + u.length) _
          rw [hs, h2]; exact ih
end
end Go.Proofs.YtcjoapmodaioiaaGreatDoor
end
