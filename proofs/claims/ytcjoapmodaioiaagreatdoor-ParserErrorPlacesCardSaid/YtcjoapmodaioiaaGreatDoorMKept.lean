/- The parser: StepKept, Till, StepKept2. -/
import Derived.Test.YtcjoapmodaioiaaGreatDoorBase
import Derived.Deep.RegionLaw
import Derived.OrdersHeld
import Derived.Deep.RegionHeld3
section
namespace Go.Proofs.YtcjoapmodaioiaaGreatDoor
open Go.RowKit

section
variable {w w' W0 : World} {X : Nat → Prop}
theorem heap_lt {g : Nat} {x : Obj} (h : w.heap[g]? = some x) : g < w.heap.size := (Array.getElem?_eq_some_iff.1 h).1
theorem heap_new_at {o : Obj} {n : Nat} (h : n = w.heap.size) : (w.alloc o).heap[n]? = some o := by subst h; exact heap_alloc_new w o
theorem Keeps.heap {g : Nat} {x : Obj} (hk : Keeps X w w') (h : w.heap[g]? = some x) (hg : ¬ X g) : w'.heap[g]? = some x := (hk.block g (heap_lt h) hg).trans h
end

section
variable {P : Program} {W0 w : World}
end
end Go.Proofs.YtcjoapmodaioiaaGreatDoor
end

section
namespace Go.Proofs.YtcjoapmodaioiaaGreatDoor
open Go

section
variable {P : Program} {ops : Array Oper} {Q : Exit → Act → World → Prop} {md : Region.Mode} {S : World → Prop} {st : List Nat}
def early (st : List Nat) (listed : Array Bool) : Bool := st.all fun s => !(listed.getD s true)
theorem early_set {listed : Array Bool} {i : Nat} (hi : i ∉ st) : early st (listed.setIfInBounds i true) = early st listed := by
  unfold early
  rw [Bool.eq_iff_iff, List.all_eq_true, List.all_eq_true]
  constructor
  · intro h s hs
    have := h s hs
    rwa [getD_set_ne true (fun e : i = s => hi (e ▸ hs))] at this
  · intro h s hs
    rw [getD_set_ne true (fun e : i = s => hi (e ▸ hs))]
    exact h s hs
def waits (md : Region.Mode) (ops : Array Oper) (st : List Nat) (i : Nat) : Bool := st.all fun s => match ops[s]? with
  | none => false
  | some o => o.after.any fun e => Region.binds md e && e.on == i
def wpAnyT (P : Program) (md : Region.Mode) (ops : Array Oper) (Q : Exit → Act → World → Prop) (S : World → Prop) (st : List Nat) : Nat → Array Bool → Act → World → Prop
  | 0, listed, a, w => Region.ready md ops listed = [] ∧ Q .normal a w
  | n + 1, listed, a, w => (Region.ready md ops listed = [] → Q .normal a w) ∧
    ∀ i ∈ Region.ready md ops listed, wpOp P ops Q i (fun a' w' => (early st (listed.setIfInBounds i true) = true → S w') ∧ wpAnyT P md ops Q S st n (listed.setIfInBounds i true) a' w') a w
theorem wpAny_of_till : ∀ (n : Nat) (listed : Array Bool) (a : Act) (w : World), wpAnyT P md ops Q S st n listed a w → wpAny P md ops Q n listed a w
  | 0, _, _, _, h => h
  | n + 1, _, _, _, h => ⟨h.1, fun i hi => wpOp_mono (fun a' w' h' => wpAny_of_till n _ a' w' h'.2) (h.2 i hi)⟩

theorem wpAnyT_first {i : Nat} {oi : Oper} {v : Value} (hi : ops[i]? = some oi) (hsel : ∀ (j : Nat) (o : Oper) cs b, ops[j]? = some o → o.op ≠ .select cs b)
    (hQ : ∀ c a w, Q (.panic c) (a.put oi.dst v) w → Q (.panic c) a w) (hw : waits md ops st i = true) (hist : i ∉ st) :
    ∀ (n : Nat) (listed : Array Bool) (a : Act) (w : World), early st listed = true →
      (∀ j oj, ops[j]? = some oj → j ≠ i → listed.getD j true = false → (∀ e ∈ oj.after, Region.binds md e = true → e.on ≠ i) → oi.apart ops oj = true) →
      i ∈ Region.ready md ops listed → YieldsIf P ops S oi v a → S w → wpAnyT P md ops Q S st n (listed.setIfInBounds i true) (a.put oi.dst v) w → wpAnyT P md ops Q S st (n + 1) listed a w
  | 0, listed, a, w, he, _, hr, hy, hS, H => by
    refine ⟨fun h => (by rw [h] at hr; cases hr), fun j hj => ?_⟩
    by_cases hji : j = i
    · subst hji; exact hy.wpOp hi hS ⟨fun _ => hS, H⟩
    · have h0 := ready_mono hj hji
      rw [H.1] at h0
      cases h0
  | n + 1, listed, a, w, he, hfree, hr, hy, hS, H => by
    refine ⟨fun h => (by rw [h] at hr; cases hr), fun j hj => ?_⟩
    by_cases hji : j = i
    · subst hji; exact hy.wpOp hi hS ⟨fun _ => hS, H⟩
    · have h1 := H.2 j (ready_mono hj hji)
      obtain ⟨hjun, oj, hoj, hall⟩ := mem_ready.1 hj
      have hiun : listed.getD i false = false := by
        have h0 := (mem_ready.1 hr).1
        rcases Nat.lt_or_ge i listed.size with h' | h'
        · simp [h'] at h0 ⊢; exact h0
        · simp [Array.getElem?_eq_none h']
      have hno : ∀ e ∈ oj.after, Region.binds md e = true → e.on ≠ i := fun e hm hb heq => by
        have h2 := hall e hm hb
        rw [heq, hiun] at h2
        cases h2
      have hjst : j ∉ st := fun hm => by
        have h2 := List.all_eq_true.1 hw j hm
        rw [hoj] at h2
        obtain ⟨e, hme, hb⟩ := Array.any_eq_true'.1 h2
        rw [Bool.and_eq_true, beq_iff_eq] at hb
        exact hno e hme hb.1 hb.2
      have h3 := wpOp_putIf hoj (hfree j oj hoj hji hjun hno) (fun cs b => hsel i oi cs b hi) (fun cs b => hsel j oj cs b hoj) hQ hy h1
      have hej : early st (listed.setIfInBounds j true) = true := by rw [early_set hjst]; exact he
      have heij : early st ((listed.setIfInBounds i true).setIfInBounds j true) = true := by rw [early_set hjst, early_set hist]; exact he
      have hfree' : ∀ k ok, ops[k]? = some ok → k ≠ i → (listed.setIfInBounds j true).getD k true = false → (∀ e ∈ ok.after, Region.binds md e = true → e.on ≠ i) → oi.apart ops ok = true := fun k ok hk hki hun hn => by
        refine hfree k ok hk hki ?_ hn
        by_cases hjk : j = k
        · subst hjk; exact hjun
        · rwa [getD_set_ne true hjk] at hun
      refine wpOp_mono (fun a' w' h4 => ⟨fun _ => h4.2.1 heij, wpAnyT_first hi hsel hQ hw hist n (listed.setIfInBounds j true) a' w' hej hfree' (ready_mono hr (Ne.symm hji)) h4.1 (h4.2.1 heij) ?_⟩) h3
      rw [Array.setIfInBounds_comm _ _ hji]
      exact h4.2.2
theorem wpAnyT_firstP {i : Nat} {oi : Oper} {v : Value} (hi : ops[i]? = some oi) (hsel : ∀ (j : Nat) (o : Oper) cs b, ops[j]? = some o → o.op ≠ .select cs b)
    (hQ : ∀ c a w, Q (.panic c) (a.put oi.dst v) w → Q (.panic c) a w) (hist : i ∉ st) :
    ∀ (n : Nat) (listed : Array Bool) (a : Act) (w : World),
      (∀ j oj, ops[j]? = some oj → j ≠ i → listed.getD j true = false → (∀ e ∈ oj.after, Region.binds md e = true → e.on ≠ i) → oi.apart ops oj = true) →
      i ∈ Region.ready md ops listed → YieldsIf P ops (fun _ => True) oi v a → (early st listed = true → S w) → wpAnyT P md ops Q S st n (listed.setIfInBounds i true) (a.put oi.dst v) w → wpAnyT P md ops Q S st (n + 1) listed a w
  | 0, listed, a, w, _, hr, hy, hS, H => by
    refine ⟨fun h => (by rw [h] at hr; cases hr), fun j hj => ?_⟩
    by_cases hji : j = i
    · subst hji; exact hy.wpOp hi trivial ⟨fun he => hS (by rwa [early_set hist] at he), H⟩
    · have h0 := ready_mono hj hji
      rw [H.1] at h0
      cases h0
  | n + 1, listed, a, w, hfree, hr, hy, hS, H => by
    refine ⟨fun h => (by rw [h] at hr; cases hr), fun j hj => ?_⟩
    by_cases hji : j = i
    · subst hji; exact hy.wpOp hi trivial ⟨fun he => hS (by rwa [early_set hist] at he), H⟩
    · have h1 := H.2 j (ready_mono hj hji)
      obtain ⟨hjun, oj, hoj, hall⟩ := mem_ready.1 hj
      have hiun : listed.getD i false = false := by
        have h0 := (mem_ready.1 hr).1
        rcases Nat.lt_or_ge i listed.size with h' | h'
        · simp [h'] at h0 ⊢; exact h0
        · simp [Array.getElem?_eq_none h']
      have hno : ∀ e ∈ oj.after, Region.binds md e = true → e.on ≠ i := fun e hm hb heq => by
        have h2 := hall e hm hb
        rw [heq, hiun] at h2
        cases h2
      have h3 := wpOp_putIf hoj (hfree j oj hoj hji hjun hno) (fun cs b => hsel i oi cs b hi) (fun cs b => hsel j oj cs b hoj) hQ hy h1
      have hfree' : ∀ k ok, ops[k]? = some ok → k ≠ i → (listed.setIfInBounds j true).getD k true = false → (∀ e ∈ ok.after, Region.binds md e = true → e.on ≠ i) → oi.apart ops ok = true := fun k ok hk hki hun hn => by
        refine hfree k ok hk hki ?_ hn
        by_cases hjk : j = k
        · subst hjk; exact hjun
        · rwa [getD_set_ne true hjk] at hun
      have hcomm : early st ((listed.setIfInBounds i true).setIfInBounds j true) = early st (listed.setIfInBounds j true) := by rw [Array.setIfInBounds_comm _ _ (Ne.symm hji), early_set hist]
      refine wpOp_mono (fun a' w' h4 => ⟨fun he => h4.2.1 (by rw [hcomm]; exact he), wpAnyT_firstP hi hsel hQ hist n (listed.setIfInBounds j true) a' w' hfree' (ready_mono hr (Ne.symm hji)) h4.1 (fun he => h4.2.1 (by rw [hcomm]; exact he)) ?_⟩) h3
      rw [Array.setIfInBounds_comm _ _ hji]
      exact h4.2.2
theorem wpAnyT_pure {i : Nat} {oi : Oper} {v : Value} {n : Nat} {listed : Array Bool} {a : Act} {w : World} (hi : ops[i]? = some oi)
    (hc : (Region.noSelect ops && Region.free md ops listed i && (Region.ready md ops listed).contains i && !st.contains i) = true)
    (hQ : ∀ c a w, Q (.panic c) (a.put oi.dst v) w → Q (.panic c) a w) (hy : YieldsIf P ops (fun _ => True) oi v a) (hS : early st listed = true → S w)
    (h : wpAnyT P md ops Q S st n (listed.setIfInBounds i true) (a.put oi.dst v) w) : wpAnyT P md ops Q S st (n + 1) listed a w := by
  simp only [Bool.and_eq_true, Bool.not_eq_true'] at hc
  obtain ⟨⟨⟨h1, h2⟩, h3⟩, h5⟩ := hc
  exact wpAnyT_firstP hi (Region.noSelect_spec h1) hQ (by simpa using h5) n listed a w (Region.free_spec hi h2) (by simpa using h3) hy hS h
theorem wpAnyT_take {i : Nat} {oi : Oper} {v : Value} {n : Nat} {listed : Array Bool} {a : Act} {w : World} (hi : ops[i]? = some oi)
    (hc : (Region.noSelect ops && Region.free md ops listed i && (Region.ready md ops listed).contains i && waits md ops st i && !st.contains i && early st listed) = true)
    (hQ : ∀ c a w, Q (.panic c) (a.put oi.dst v) w → Q (.panic c) a w) (hy : YieldsIf P ops S oi v a) (hS : S w)
    (h : wpAnyT P md ops Q S st n (listed.setIfInBounds i true) (a.put oi.dst v) w) : wpAnyT P md ops Q S st (n + 1) listed a w := by
  simp only [Bool.and_eq_true, Bool.not_eq_true'] at hc
  obtain ⟨⟨⟨⟨⟨h1, h2⟩, h3⟩, h4⟩, h5⟩, h6⟩ := hc
  exact wpAnyT_first hi (Region.noSelect_spec h1) hQ h4 (by simpa using h5) n listed a w h6 (Region.free_spec hi h2) (by simpa using h3) hy hS h
def AllT (P : Program) (md : Region.Mode) (ops : Array Oper) (Q : Exit → Act → World → Prop) (S : World → Prop) (st : List Nat) (n : Nat) (listed : Array Bool) (a : Act) (w : World) (rs : List Nat) : Prop :=
  ∀ i ∈ rs, wpOp P ops Q i (fun a' w' => (early st (listed.setIfInBounds i true) = true → S w') ∧ wpAnyT P md ops Q S st n (listed.setIfInBounds i true) a' w') a w
theorem AllT.nil {n : Nat} {listed : Array Bool} {a : Act} {w : World} : AllT P md ops Q S st n listed a w [] := fun _ h => by cases h
theorem AllT.cons {n : Nat} {listed : Array Bool} {a : Act} {w : World} {i : Nat} {o : Oper} {rs : List Nat} (ho : ops[i]? = some o)
    (h : ∀ K' : Act → World → Prop, Shut (∀ a w, (early st (listed.setIfInBounds i true) = true → S w) → ((early st (listed.setIfInBounds i true) = true → S w) → wpAnyT P md ops Q S st n (listed.setIfInBounds i true) a w) → K' a w) → if Region.wanted o (yielded ops a.tmps) = true then Oper.wp P o a w K' Q else K' (a.put o.dst undef) w)
    (hs : AllT P md ops Q S st n listed a w rs) : AllT P md ops Q S st n listed a w (i :: rs) := fun j hj => by
  rcases List.mem_cons.1 hj with rfl | hj
  · exact wpOp_step ho (fun K' hK => h K' (fun a w h1 h2 => hK a w ⟨h1, h2 h1⟩))
  · exact hs j hj
theorem wpAnyT_ready {rs : List Nat} {n : Nat} {listed : Array Bool} {a : Act} {w : World} (hr : Region.ready md ops listed = rs) (hne : rs.isEmpty = false) (h : AllT P md ops Q S st n listed a w rs) : wpAnyT P md ops Q S st (n + 1) listed a w :=
  ⟨(fun h0 => (by rw [← hr, h0] at hne; cases hne)), hr ▸ h⟩
theorem wpAnyT_done {listed : Array Bool} {a : Act} {w : World} (hr : Region.ready md ops listed = []) (h : Q .normal a w) : ∀ n, wpAnyT P md ops Q S st n listed a w
  | 0 => ⟨hr, h⟩
  | _ + 1 => ⟨fun _ => h, by rw [hr]; simp⟩
theorem wp_region_till {id : Nat} {a : Act} {w : World} (st : List Nat) (S : World → Prop) (hm : P.follows .mixedOrders = true) (hS : S w.drew) (h : (early st (Array.replicate ops.size false) = true → S w.drew) → wpAnyT P .any ops Q S st ops.size (Array.replicate ops.size false) a w.drew) : (Code.region id ops true).wp P Q a w :=
  wp_region_any hm (wpAny_of_till _ _ _ _ (h fun _ => hS))
end
theorem AP : (∀ (a : Act) (t : Tmp) (v : Value), a.put (some t) v = { a with tmps := a.tmps.setIfInBounds t v }) ∧ (∀ (a : Act) (v : Value), a.put none v = a) ∧ (∀ {α : Type} (l : List α) (i : Nat) (a : α), l.toArray.setIfInBounds i a = (l.set i a).toArray) ∧ (∀ {α : Type} (a b : α) (l : List α), (a :: l).set 0 b = b :: l) ∧ (∀ {α : Type} (a b : α) (l : List α) (n : Nat), (a :: l).set (n + 1) b = a :: l.set n b) :=
  ⟨fun _ _ _ => rfl, fun _ _ => rfl, fun _ _ _ => by simp, fun _ _ _ => rfl, fun _ _ _ _ => rfl⟩
end Go.Proofs.YtcjoapmodaioiaaGreatDoor
end

section
namespace Go.Proofs.YtcjoapmodaioiaaGreatDoor
open Go.RowKit
section
variable {P : Program} {W0 w : World}
theorem step_append_kept2 {ops : Array Oper} {o : Oper} {a : Act} {K : Act → World → Prop} {Q : Exit → Act → World → Prop} {E : Prop} (hgd : o.guard = none) (s x : Operand) (t : TypeId)
    (ho : o.op = .call { callee := .builtin .append, args := #[s, x], argTypes := #[t, t] })
    (base : Nat) (e : TypeId) (i : TypeInfo) (z : Value) (size bytes : Nat) (ht : P.underlying t = some (.slice e)) (hi : P.info? e = some i) (hz : i.zero = some z)
    (hsize : i.size = size) (hby : i.bytes = bytes) (hzs : z.cells.size = size) (hsz : 0 < size)
    (v : Value) (n : Nat) (xs : List Value) (hs : a.eval s = v) (hown : W0.ownsRow base e size v n xs) (hk : Keeps (fun _ => False) W0 w)
    (g0 : Nat) (c : Nat) (news : Array Value) (hx : a.eval x = .slice (some ⟨g0, 0, none⟩) 1 c) (hl : news.size = size) (hnews : w.heap[g0]? = some (.cells news e (0, 0))) (h1 : ∀ u ∈ news.toList, u.oneCell' = true)
    (h63 : n + 1 ≤ maxLen) (hbytes : (n + 1) * bytes ≤ 140737488355328) (hbase : base ≤ W0.heap.size)
    (h : ∀ g cap w', w'.ownsRow base e size (.slice (some ⟨g, 0, none⟩) (n + 1) cap) (n + 1) (xs ++ news.toList) → Keeps (fun k => v.ownBlock = some k) W0 w' → (∀ k o, w.heap[k]? = some o → ¬ v.ownBlock = some k → w'.heap[k]? = some o) → (v.ownBlock = some g ∨ w.heap.size ≤ g) →
      K (a.put o.dst (.slice (some ⟨g, 0, none⟩) (n + 1) cap)) w') :
    if Region.wanted o (yielded ops a.tmps) = true then Oper.wp P o a w K Q else E := by
  have hw := own_keeps hown hk (fun _ _ h => h)
  refine step_append_lies _ hgd s x t ho base e i z size bytes ht hi hz hsize hby hzs hsz v n xs hs hw ⟨g0, 0, none⟩ 1 c news.toList hx (by rw [Array.length_toList, hl, Nat.one_mul]) (World.news_of_block (cs := news) (t := e) (fr := (0, 0)) hnews) h1 (by omega) h63 hbytes (Nat.le_trans hbase hk.size) _ rfl ?_
  intro g cap w' hown1 hgrow hat _
  exact h g cap w' hown1 ((hk.mono (fun _ _ h => h.elim)).grown hgrow (fun j hj _ => hj)) (fun k ob hko hne => (hgrow.block k (heap_lt hko) (fun e => hne e.symm)).trans hko) (hat.imp id fun e => by rw [e]; exact Nat.le_refl _)
end
end Go.Proofs.YtcjoapmodaioiaaGreatDoor
end
