/- Proves at proofs that are accepted; what Entail finds is accepted; Entail always ends. -/
import Derived.Test.YtdljlpogljjldaaDoorCProves
import Derived.Test.YtdljlpogljjldaaDoorCEntail
import Derived.Test.YtdljlpogljjldaaDoorCWeakL
namespace Go.Proofs.YtdljlpogljjldaaDoor
open Go.RowKit Go.Shelf Go.Sort

theorem proves_any (l : List ClassSig) (s : List InstSig) (hs : List Pred) (hE : EnvOk l s hs) : ∀ p : Pf, ProvAt l s hs p
  | .mk k n subs => proves_step l s hs hE k n subs (fun q hq => have : SizeOf.sizeOf q < SizeOf.sizeOf subs := List.sizeOf_lt_of_mem hq; proves_any l s hs hE q)
termination_by p => SizeOf.sizeOf p
decreasing_by simp; omega
theorem entailP_total {l : List ClassSig} (hK : Known l) {s : List InstSig} {hs : List Pred} {k : Nat} (hk : l.length < k) (hkn : ∀ h ∈ hs, (findC l h.cls).isSome = true) : ∀ (q : Nat) (want : Pred) (depth left : Int), 0 < q → 402 ≤ (q : Int) + depth → ∃ r, entailP l s hs k q want depth left = some r
  | 0, _, _, _, h, _ => absurd h (by decide)
  | q + 1, want, depth, left, _, h => by
    rw [entailP]
    split
    · exact ⟨_, rfl⟩
    · rename_i h1
      obtain ⟨g, hg, _⟩ := givenP_total hK want hk hs 0 hkn
      rw [hg]
      cases g with
      | some z => exact ⟨_, rfl⟩
      | none =>
        dsimp only
        split
        · exact ⟨_, rfl⟩
        · rename_i i needs _
          have hd : ¬ 400 < depth := fun hh => h1 (.inl hh)
          have key : ∀ (ns : List Pred) (acc : List Pf) (left : Int), ∃ r, entailL (fun n left => entailP l s hs k q n (depth + 1) left) ns acc left = some r := by
            intro ns
            induction ns with
            | nil => intro acc left; exact ⟨_, rfl⟩
            | cons n ns ihn =>
              intro acc left
              rw [entailL]
              obtain ⟨r, hr⟩ := entailP_total hK hk hkn q n (depth + 1) left (by omega) (by omega)
              rw [hr]
              obtain ⟨p, e, l1⟩ := r
              dsimp only
              split
              · exact ⟨_, rfl⟩
              · exact ihn (acc ++ [p]) l1
          obtain ⟨r, hr⟩ := key needs [] (left - 1)
          rw [hr]
          obtain ⟨subs, e, l1⟩ := r
          dsimp only
          split
          · exact ⟨_, rfl⟩
          · exact ⟨_, rfl⟩
theorem entailS_total (l : List ClassSig) (s : List InstSig) (hs : List Pred) (want : Pred) : ∃ p r, entailS l s hs want (l.length + 1) 402 = some (p, r) := by
  rw [entailS]
  split
  · exact ⟨_, _, rfl⟩
  · rename_i h1
    split
    · exact ⟨_, _, rfl⟩
    · split
      · exact ⟨_, _, rfl⟩
      · rename_i h3
        have hok := givenErr_ok (Classical.not_not.1 h3)
        obtain ⟨⟨p, e, l1⟩, hr⟩ := entailP_total (instC_ok (Classical.not_not.1 h1)).1.1 (s := s) (hs := hs) (Nat.lt_succ_self _) (fun h hh => (hok h (List.mem_append_left _ hh)).1) 402 want 1 4096 (by decide) (by decide)
        rw [hr]
        exact ⟨_, _, rfl⟩
theorem entailS_ok {l : List ClassSig} {s : List InstSig} {hs : List Pred} {want : Pred} {k q : Nat} {p : Pf} (h : entailS l s hs want k q = some (p, 0)) :
    instC l s = 0 ∧ hs.length ≤ 4096 ∧ givenErr l (hs ++ [want]) = 0 ∧ ∃ left', entailP l s hs k q want 1 4096 = some (p, 0, left') := by
  rw [entailS] at h
  split at h
  · rename_i h1
    simp only [Option.some.injEq, Prod.mk.injEq] at h
    exact absurd h.2 h1
  · rename_i h1
    split at h
    · simp at h
    · rename_i h2
      split at h
      · rename_i h3
        simp only [Option.some.injEq, Prod.mk.injEq] at h
        exact absurd h.2 h3
      · rename_i h3
        cases he : entailP l s hs k q want 1 4096 with
        | none => rw [he] at h; cases h
        | some x =>
          obtain ⟨p', e', l'⟩ := x
          rw [he] at h
          simp only [Option.some.injEq, Prod.mk.injEq] at h
          obtain ⟨rfl, rfl⟩ := h
          exact ⟨Classical.not_not.1 h1, by omega, Classical.not_not.1 h3, l', rfl⟩
/-- What a good answer of Entail says of what it was asked. -/
theorem entailS_env {l : List ClassSig} {s : List InstSig} {hs : List Pred} {want : Pred} {k q : Nat} {p : Pf} (hfit : Fits s) (h : entailS l s hs want k q = some (p, 0)) :
    EnvOk l s hs ∧ want.ty.Wf ∧ nodes want.ty ≤ 4096 ∧ provesP l s hs p want.ty = some want.cls := by
  obtain ⟨h1, h2, h3, l', h4⟩ := entailS_ok h
  have hok := givenErr_ok h3
  have hins := instC_ok h1
  have hw := hok want (by simp)
  exact ⟨⟨hins.1.1, hins.1.2, instOk_of h1 hfit, fun h hh => hok h (List.mem_append_left _ hh), h2⟩, hw.2.1, hw.2.2, entailP_proves q want 1 4096 p l' h4⟩
/-- The plain law of ClassesWeakened. -/
theorem weakened {l : List ClassSig} {s : List InstSig} {hs : List Pred} {more want : Pred} {p p2 : Pf} {f : Int} (h : entailS l s hs want (l.length + 1) 402 = some (p, 0)) (h2 : entailS l s (hs ++ [more]) want (l.length + 1) 402 = some (p2, f)) :
    f = 0 ∨ f = 2 ∨ (findC l more.cls).isSome = false ∨ (chk more.ty 4096 false 1).1 ≠ 0 := by
  obtain ⟨a1, a2, a3, l', a4⟩ := entailS_ok h
  have hok := givenErr_ok a3
  by_cases hm : (findC l more.cls).isSome = true ∧ (chk more.ty 4096 false 1).1 = 0
  · rw [entailS, if_neg (fun hh => hh a1)] at h2
    split at h2
    · simp only [Option.some.injEq, Prod.mk.injEq] at h2
      exact .inr (.inl h2.2.symm)
    · have hg : givenErr l ((hs ++ [more]) ++ [want]) = 0 := givenErr_zero (fun x hx => by
        have key : ∀ (ws : List Pred), givenErr l ws = 0 → ∀ x ∈ ws, (findC l x.cls).isSome = true ∧ (chk x.ty 4096 false 1).1 = 0 := by
          intro ws
          induction ws with
          | nil => intro _ x hx; cases hx
          | cons y r ih =>
            intro hg x hx
            rw [givenErr] at hg
            split at hg
            · exact absurd hg (by decide)
            · rename_i g1
              split at hg
              · rename_i g2; exact absurd hg g2
              · rename_i g2
                rcases List.mem_cons.1 hx with rfl | hx
                · exact ⟨isS g1, Classical.not_not.1 g2⟩
                · exact ih hg x hx
        rcases List.mem_append.1 hx with hx | hx
        · rcases List.mem_append.1 hx with hx | hx
          · exact key _ a3 x (List.mem_append_left _ hx)
          · rw [List.mem_singleton.1 hx]; exact hm
        · exact key _ a3 x (List.mem_append_right _ hx))
      rw [if_neg (fun hh => hh hg)] at h2
      obtain ⟨pf, lE, b1, _⟩ := entailP_more (instC_ok a1).1.1 (s := s) (Nat.lt_succ_self _) hm.1 (fun h hh => (hok h (List.mem_append_left _ hh)).1) 402 want 1 4096 p l' a4 4096 (by decide)
      rw [b1] at h2
      simp only [Option.some.injEq, Prod.mk.injEq] at h2
      exact .inl h2.2.symm
  · by_cases h1 : (findC l more.cls).isSome = true
    · exact .inr (.inr (.inr (fun h3 => hm ⟨h1, h3⟩)))
    · exact .inr (.inr (.inl (by simpa using h1)))
set_option maxRecDepth 100000 in
set_option maxHeartbeats 8000000 in
theorem Proves_any (l : List ClassSig) (s : List InstSig) (hs : List Pred) (want : Pred) (p : Pf) (hE : EnvOk l s hs) (hic : instC l s = 0) (hwf : want.ty.Wf) (hnd : nodes want.ty ≤ 4096) (hp : provesP l s hs p want.ty = some want.cls) (vl vi vh : Value) (F : Nat → Prop) (W : World) (A : Option Addr) (c : Nat) (Ap : Option Addr) (cp : Nat)
    (hvl : Sl W F ClassSig.d l vl) (hvi : Sl W F InstSig.d s vi) (hvh : Sl W F Pred.d hs vh) (hF : ∀ b, F b → b < W.heap.size) (hT : TyC W F want.ty (.slice A want.ty.args.length c)) (hP : PfC W F p (.slice Ap p.subs.length cp)) (hz : Szs W) :
    Calls Tryd.prog 12 #[vl, vi, vh, .agg #[.string want.cls, .int .i64 want.ty.kind, .string want.ty.name, .int .i64 want.ty.var, .slice A want.ty.args.length c], .agg #[.int .i64 p.kind, .int .i64 p.num, .slice Ap p.subs.length cp]] W (fun e w' => e = .returned (.bool true) ∧ Keeps (fun _ => False) W w') := by
  obtain ⟨b8, hb8⟩ : ∃ b8, W.heap.size = b8 := ⟨_, rfl⟩
  obtain ⟨W0, hW0⟩ : ∃ W0, (W.alloc (.cells #[.string want.cls, .int .i64 want.ty.kind, .string want.ty.name, .int .i64 want.ty.var, .slice A want.ty.args.length c] 35)).alloc (.cells #[.int .i64 p.kind, .int .i64 p.num, .slice Ap p.subs.length cp] 27) = W0 := ⟨_, rfl⟩
  have hk0 : Keeps (fun _ => False) W W0 := by rw [← hW0]; exact ((Keeps.refl _ _).alloc _).alloc _
  have hB8 : Blk W0 b8 35 [.string want.cls, .int .i64 want.ty.kind, .string want.ty.name, .int .i64 want.ty.var, .slice A want.ty.args.length c] := by
    rw [← hW0, ← hb8]; exact (Blk.new W _ [_, _, _, _, _]).alloc _
  have hB9 : Blk W0 (b8 + 1) 27 [.int .i64 p.kind, .int .i64 p.num, .slice Ap p.subs.length cp] := by
    have := Blk.new (W.alloc (.cells #[.string want.cls, .int .i64 want.ty.kind, .string want.ty.name, .int .i64 want.ty.var, .slice A want.ty.args.length c] 35)) 27 [.int .i64 p.kind, .int .i64 p.num, .slice Ap p.subs.length cp]
    rw [hW0] at this
    simpa [hb8] using this
  have hs0 := hk0.size
  have HIns := Lib.hid (instances_any l s vl vi F W0 (hvl.keeps hk0 (fun _ _ h => h)) (hvi.keeps hk0 (fun _ _ h => h)) (fun b hb => by have := hF b hb; omega) (hz.keeps hk0 (fun h => h)))
  rw [hic] at HIns
  have HPr : Hid (∀ X, Keeps (fun _ => False) W0 X → Calls Tryd.prog 23 #[vl, vi, vh, .agg #[.int .i64 p.kind, .int .i64 p.num, .slice Ap p.subs.length cp], .agg #[.int .i64 want.ty.kind, .string want.ty.name, .int .i64 want.ty.var, .slice A want.ty.args.length c]] X (fun e w' => e = .returned (.tuple #[.string want.cls, .bool true]) ∧ Keeps (fun _ => False) X w')) := fun X hk => by
    have hsz := hk.size
    have hk2 := hk0.trans hk (fun _ _ h => h)
    exact proves_any l s hs hE p X F F F vl vi vh Ap cp want.ty A c want.cls (hvl.keeps hk2 (fun _ _ h => h)) (hvi.keeps hk2 (fun _ _ h => h)) (hvh.keeps hk2 (fun _ _ h => h)) (fun b hb => by have := hF b hb; omega) (hP.keeps hk2 (fun _ _ h => h)) (fun b hb => by have := hF b hb; omega) (hT.keeps hk2 (fun _ _ h => h)) (fun b hb => by have := hF b hb; omega) hwf hnd hp
  have HB8 := Lib.hid hB8
  have HB9 := Lib.hid hB9
  have HW0 := Lib.hid hW0
  have HBn := Lib.hid hb8
  have HK0 := Lib.hid hk0
  have hne : (want.cls.toList == want.cls.toList) = true := by simp
  clear hvl hvi hvh hF hT hP hz hE hic hwf hnd hp hk0 hB8 hB9 hW0 hb8 hs0
  go_enter Tryd.func12, Tryd.ntmps12
  go_upto_region 1 with (fail)
  rw [HW0.out, HBn.out]
  go_wp2_with fail
  with_reducible refine HIns.out.mono ?_
  rintro e w1 ⟨rfl, hk1⟩
  have h8 := HB8.out.keeps hk1 (fun h => h)
  have h9 := HB9.out.keeps hk1 (fun h => h)
  have a0 := h9.cell (i := 0) rfl
  have a1 := h9.cell (i := 1) rfl
  have a2 := h9.cell (i := 2) rfl
  have c1 := h8.cell (i := 1) rfl
  have c2 := h8.cell (i := 2) rfl
  have c3 := h8.cell (i := 3) rfl
  have c4 := h8.cell (i := 4) rfl
  have HP1 := Lib.hid (HPr.out w1 hk1)
  have HK1 := Lib.hid hk1
  clear hk1 h8 h9 HIns HPr
  go_wp2_with fail
  clear a0 a1 a2 c1 c2 c3 c4
  with_reducible refine HP1.out.mono ?_
  rintro e w2 ⟨rfl, hk2⟩
  have HK2 := Lib.hid (HK1.out.trans hk2 (fun _ _ h => h))
  have c0 := (HB8.out.keeps HK2.out (fun h => h)).cell (i := 0) rfl
  clear hk2
  go_wp2_with fail
  go_ret
  exact ⟨rfl, HK0.out.trans HK2.out (fun _ _ h => h)⟩
end Go.Proofs.YtdljlpogljjldaaDoor
