/- A text moved right has the tokens of the text, moved right (plain); ReplaceAll of line feeds. -/
import Derived.Test.YtnpgdeioaehahaaDoorLayMv
import Derived.Test.YtnpgdeioaehahaaDoorTokSl
import Derived.Lib.Replace
import Derived.Lib.IndexLaws
namespace Go.Proofs.YtnpgdeioaehahaaDoor
open Go

def spn (b : Nat) : Bs := List.replicate b 32
/-- Spaces behind every line feed. -/
def mvR (b : Nat) : Bs → Bs
  | [] => []
  | c :: t => if c = 10 then 10 :: (spn b ++ mvR b t) else c :: mvR b t
def Tk.right (d : Int) (x : Tk) : Tk := { x with col := x.col + d }
theorem tw_R {p : UInt8 → Bool} (hp : p 10 = false) (b : Nat) : ∀ x : Bs, (mvR b x).takeWhile p = x.takeWhile p
  | [] => rfl
  | c :: t => by
    rw [mvR]
    by_cases h : c = 10
    · rw [if_pos h, h, List.takeWhile_cons_of_neg (by rw [hp]; decide), List.takeWhile_cons_of_neg (by rw [hp]; decide)]
    · rw [if_neg h, List.takeWhile_cons, List.takeWhile_cons, tw_R hp b t]
theorem cons_R {c : UInt8} (h : c ≠ 10) (b : Nat) (t : Bs) : c :: mvR b t = mvR b (c :: t) := by rw [mvR, if_neg h]
variable {kw dash : Bs → Bool}
theorem item_R {c : UInt8} (hc : c ≠ 10) (b : Nat) (t : Bs) : item kw dash c (mvR b t) = item kw dash c t := by
  unfold item
  rw [cons_R hc b t, tw_R inner_10, tw_R digit_10, tw_R mark_10, tw_R (p := fun b => b != 10) (by decide)]
theorem drop_R (b : Nat) : ∀ (n : Nat) (x : Bs), (10 : UInt8) ∉ x.take n → (mvR b x).drop n = mvR b (x.drop n)
  | 0, _, _ => rfl
  | _ + 1, [], _ => by simp [mvR]
  | n + 1, c :: t, h => by
    rw [List.take_succ_cons] at h
    have hc : c ≠ 10 := fun e => h (by rw [e]; exact List.mem_cons_self)
    rw [mvR, if_neg hc, List.drop_succ_cons, List.drop_succ_cons]
    exact drop_R b n t (fun hh => h (List.mem_cons_of_mem _ hh))
theorem lex_sp (l : Bs) (ln : Int) (f : Nat) : ∀ (b : Nat) (cl : Int), lex kw dash (f + b) (spn b ++ l) ln cl = lex kw dash f l ln (cl + b)
  | 0, cl => by simp [spn]
  | b + 1, cl => by
    have e : spn (b + 1) ++ l = 32 :: (spn b ++ l) := rfl
    rw [e, show f + (b + 1) = (f + b) + 1 by omega, lex, if_neg (by decide)]
    have hi : ∀ t, item kw dash 32 t = ⟨1, none, false⟩ := fun t => by unfold item; rw [if_pos rfl]
    rw [hi]
    show (put? none ln cl (lex kw dash (f + b) ((32 :: (spn b ++ l)).drop 1) ln (cl + ((1 : Nat) : Int))).1, false || (lex kw dash (f + b) ((32 :: (spn b ++ l)).drop 1) ln (cl + ((1 : Nat) : Int))).2) = _
    rw [List.drop_succ_cons, List.drop_zero, lex_sp l ln f b]
    have e2 : cl + ((1 : Nat) : Int) + (b : Int) = cl + ((b + 1 : Nat) : Int) := by omega
    rw [e2]
    show ((lex kw dash f l ln (cl + ((b + 1 : Nat) : Int))).1, false || (lex kw dash f l ln (cl + ((b + 1 : Nat) : Int))).2) = _
    rw [Bool.false_or]
theorem put_right_tk (o : Option (Int × Bs × Int)) (ln cl d : Int) (l : List Tk) : put? o ln (cl + d) (l.map (Tk.right d)) = (put? o ln cl l).map (Tk.right d) := by
  cases o with
  | none => rfl
  | some x => obtain ⟨k, u, n⟩ := x; rfl
theorem lex_R (b : Nat) : ∀ (f : Nat) (l : Bs) (ln cl : Int) (f' : Nat), l.length < f → (mvR b l).length < f' →
    lex kw dash f' (mvR b l) ln (cl + b) = ((lex kw dash f l ln cl).1.map (Tk.right b), (lex kw dash f l ln cl).2)
  | 0, _, _, _, _, h, _ => absurd h (Nat.not_lt_zero _)
  | f + 1, [], ln, cl, f', _, h' => by
    obtain ⟨g, rfl⟩ : ∃ g, f' = g + 1 := ⟨f' - 1, by omega⟩
    rfl
  | f + 1, c :: t, ln, cl, f', h, h' => by
    obtain ⟨g, rfl⟩ : ∃ g, f' = g + 1 := ⟨f' - 1, by omega⟩
    rw [List.length_cons] at h
    by_cases hc : c = 10
    · subst hc
      have e : mvR b ((10 : UInt8) :: t) = 10 :: (spn b ++ mvR b t) := by rw [mvR, if_pos rfl]
      rw [e] at h' ⊢
      have hl : (spn b).length = b := by simp [spn]
      rw [List.length_cons, List.length_append, hl] at h'
      obtain ⟨g2, rfl⟩ : ∃ g2, g = g2 + b := ⟨g - b, by omega⟩
      rw [lex, if_pos rfl, lex, if_pos rfl, lex_sp]
      exact lex_R b f t (ln + 1) 1 g2 (by omega) (by omega)
    · rw [← cons_R hc] at h' ⊢
      rw [List.length_cons] at h'
      rw [lex, if_neg hc, lex, if_neg hc]
      dsimp only
      rw [item_R hc]
      have hlen := item_len (kw := kw) (dash := dash) hc t
      have hnl := item_nl (kw := kw) (dash := dash) hc t
      obtain ⟨it, hit⟩ : ∃ it, item kw dash c t = it := ⟨_, rfl⟩
      rw [hit] at hlen hnl ⊢
      have hd : (c :: mvR b t).drop it.len = mvR b ((c :: t).drop it.len) := by rw [cons_R hc]; exact drop_R b _ _ hnl
      have e2 : cl + (b : Int) + (it.len : Int) = cl + (it.len : Int) + (b : Int) := by omega
      have h1 := lex_R b f ((c :: t).drop it.len) ln (cl + it.len) g (by rw [List.length_drop, List.length_cons]; omega) (by rw [← hd, List.length_drop, List.length_cons]; omega)
      rw [hd, e2, h1]
      rw [put_right_tk]
def toksM (s : ByteArray) : List Tok := (lexS s).1.map Tk.tok
theorem moved_lex (s s' : ByteArray) (b : Nat) (h : s'.data.toList = spn b ++ mvR b s.data.toList) : toksM s' = (toksM s).map (Tok.right b) ∧ (lexS s').2 = (lexS s).2 := by
  have hl : (spn b).length = b := by simp [spn]
  have hz : s'.size = b + (mvR b s.data.toList).length := by rw [Lib.size_eq, h, List.length_append, hl]
  have e : lexS s' = ((lexS s).1.map (Tk.right b), (lexS s).2) := by
    unfold lexS
    rw [h, hz, show b + (mvR b s.data.toList).length + 1 = ((mvR b s.data.toList).length + 1) + b by omega, lex_sp]
    exact lex_R b (s.size + 1) s.data.toList 1 1 _ (by rw [← Lib.size_eq]; omega) (by omega)
  unfold toksM
  rw [e]
  refine ⟨?_, rfl⟩
  rw [List.map_map, List.map_map]
  rfl

/-! ### ReplaceAll at a line feed -/
def rep10 (new : Bs) : Bs → Bs
  | [] => []
  | c :: t => if c = 10 then new ++ rep10 new t else c :: rep10 new t
theorem rep10_mv (b : Nat) : ∀ l : Bs, rep10 (10 :: spn b) l = mvR b l
  | [] => rfl
  | c :: t => by
    rw [rep10, mvR, rep10_mv b t]
    rfl
theorem rep10_app (new : Bs) : ∀ x y : Bs, rep10 new (x ++ y) = rep10 new x ++ rep10 new y
  | [], _ => rfl
  | c :: x, y => by
    rw [List.cons_append, rep10, rep10, rep10_app new x y]
    split <;> simp
theorem rep10_none (new : Bs) : ∀ x : Bs, (10 : UInt8) ∉ x → rep10 new x = x
  | [], _ => rfl
  | c :: x, h => by
    have hc : c ≠ 10 := fun e => h (by rw [e]; exact List.mem_cons_self)
    rw [rep10, if_neg hc, rep10_none new x (fun hh => h (List.mem_cons_of_mem _ hh))]
theorem idx_cases (l : Bs) : (Lib.index l [10] = -1 ∧ (10 : UInt8) ∉ l) ∨ ∃ i : Nat, Lib.index l [10] = i ∧ i < l.length ∧ (10 : UInt8) ∉ l.take i ∧ l = l.take i ++ 10 :: l.drop (i + 1) := by
  rw [Lib.index_one]
  have hge := Lib.indexByte_ge l 10
  by_cases h : Lib.indexByte l 10 = -1
  · refine .inl ⟨h, fun hm => ?_⟩
    obtain ⟨k, hk, he⟩ := List.mem_iff_getElem.1 hm
    exact Lib.indexByte_none h k (by rw [List.getElem?_eq_getElem hk, he])
  · obtain ⟨i, hi⟩ : ∃ i : Nat, Lib.indexByte l 10 = i := ⟨(Lib.indexByte l 10).toNat, by omega⟩
    obtain ⟨h1, h2⟩ := Lib.indexByte_some hi
    have hlt := (List.getElem?_eq_some_iff.1 h1).1
    have hv := (List.getElem?_eq_some_iff.1 h1).2
    refine .inr ⟨i, hi, hlt, fun hm => ?_, ?_⟩
    · obtain ⟨k, hk, he⟩ := List.mem_iff_getElem.1 hm
      rw [List.length_take] at hk
      rw [List.getElem_take] at he
      exact h2 k (by omega) (by rw [List.getElem?_eq_getElem (by omega), he])
    · rw [← hv, ← List.drop_eq_getElem_cons hlt, List.take_append_drop]
theorem repK_all (new : Bs) : ∀ (f : Nat) (l : Bs), l.length < f → Lib.replaceK [10] new (Lib.countFrom [10] f l) l = rep10 new l ∧ Lib.countFrom [10] f l ≤ l.length
  | 0, _, h => absurd h (Nat.not_lt_zero _)
  | f + 1, l, h => by
    rcases idx_cases l with ⟨h1, h2⟩ | ⟨i, h1, h2, h3, h4⟩
    · rw [Lib.countFrom, h1, if_pos (by decide), Lib.replaceK, rep10_none new l h2]
      exact ⟨rfl, Nat.zero_le _⟩
    · have hne : ¬ (Lib.index l [10] == -1) = true := fun e => by have := beq_iff_eq.1 e; omega
      have hz : (Lib.index l [10]).toNat = i := by omega
      have hlen : (l.drop (i + 1)).length + (i + 1) = l.length := by rw [List.length_drop]; omega
      obtain ⟨g1, g2⟩ := repK_all new f (l.drop (i + 1)) (by omega)
      have hd : ([10] : Bs).length = 1 := rfl
      rw [Lib.countFrom, if_neg hne, hz, hd, Nat.add_comm 1, Lib.replaceK_hit [10] new _ l i h1, hd, g1]
      refine ⟨?_, by omega⟩
      have e2 : rep10 new l = rep10 new (l.take i ++ 10 :: l.drop (i + 1)) := by rw [← h4]
      rw [e2, rep10_app, rep10_none new _ h3, rep10, if_pos rfl, List.append_assoc]
theorem replaceAll_mv (b : Nat) (l : Bs) : Lib.replaceAll l [10] (10 :: spn b) = mvR b l := by
  unfold Lib.replaceAll Lib.replace
  by_cases h : ([10] : Bs) == 10 :: spn b
  · rw [if_pos h]
    have hb : spn b = [] := by have := beq_iff_eq.1 h; simpa using this.symm
    rw [← rep10_mv, hb]
    have key : ∀ l : Bs, rep10 [10] l = l := by
      intro l
      induction l with
      | nil => rfl
      | cons c t ih =>
        rw [rep10, ih]
        split
        · rename_i hc; rw [hc]; rfl
        · rfl
    exact (key l).symm
  · rw [if_neg h]
    have hn : Lib.replaceNum l [10] (-1) = Lib.count l [10] := by unfold Lib.replaceNum; rw [if_pos (.inl (by decide))]
    rw [hn]
    unfold Lib.count
    rw [(repK_all _ _ l (Nat.lt_succ_self _)).1, rep10_mv]
theorem count_le (l : Bs) : Lib.count l [10] ≤ l.length := (repK_all [] _ l (Nat.lt_succ_self _)).2
end Go.Proofs.YtnpgdeioaehahaaDoor
