/- A region that draws its order, within a round of a range over a function (the fence asks nothing else): as a plain one, where no operation is a defer statement. No conditions. -/
import Derived.Test.YthchnabhbpdfgaaDoorTill
import Derived.OrdersIn
import Derived.TacticsIn
import Derived.RangeFuncNested
namespace Go.Proofs.YthchnabhbpdfgaaDoor
open Go

section
variable {P : Program} {ops : Array Oper} {Q : Exit → Act → World → Prop} {md : Region.Mode} {S : World → Prop} {st : List Nat}
theorem rowsIn_of {n l : Nat} {row : String} {args : Array Value} {w : World} {R : Value → World → Prop} (h : Rows P row args w R) : RowsIn (Fence.wide.inRound l) n P row args w R :=
  fun c cs _ => let ⟨v, w', r, s⟩ := h c cs; ⟨v, w', r, stepsIn_wide.2 s⟩
theorem callsIn_round {n l : Nat} {f : FuncId} {args : Array Value} {w : World} {R : Ending → World → Prop} (h : Calls P f args w R) : CallsIn (Fence.wide.inRound l) n P f args w R :=
  CallsIn.inRound l (callsIn_wide.2 h)
theorem oper_round {n l : Nat} {o : Oper} {a : Act} {w : World} {K : Act → World → Prop} (hd : ∀ c, o.op ≠ .defer c) (h : Oper.wp P o a w K Q) : Oper.wpIn (Fence.wide.inRound l) n P o a w K Q := by
  refine ⟨fun _ _ => trivial, ?_⟩
  rw [Fence.inRound_round, Oper.semAt_some l _ _ hd]
  unfold Oper.wp at h
  revert h
  cases (execOp a.eval o).run P w with
  | ok v w' =>
    cases v with
    | value v => exact fun h => h
    | skip => exact fun h => h
    | defer d => exact fun h => h
    | enter f args => exact fun h => ⟨fun h' => (by cases h'), callsIn_round h⟩
    | row row args => exact fun h => ⟨fun h' => (by cases h'), rowsIn_of h⟩
    | _ => exact fun h => (h : False).elim
  | halt h w' =>
    cases h with
    | panic v => exact fun h => h
    | _ => exact fun h => (h : False).elim
theorem wpAny_round {n l : Nat} (hd : ∀ (i : Nat) (o : Oper), ops[i]? = some o → ∀ c, o.op ≠ .defer c) (hL : ¬ LetsOut Q) : ∀ (k : Nat) (listed : Array Bool) (a : Act) (w : World), wpAny P md ops Q k listed a w → wpAnyIn (Fence.wide.inRound l) n P md ops Q k listed a w
  | 0, _, _, _, h => h
  | k + 1, listed, a, w, h => by
    refine ⟨h.1, fun i hi => ?_⟩
    have h2 := h.2 i hi
    unfold wpOp at h2
    unfold wpOpIn
    cases ho : ops[i]? with
    | none =>
      rw [ho] at h2
      exact wpAny_round hd hL k _ _ _ h2
    | some o =>
      rw [ho] at h2
      simp only at h2 ⊢
      split
      · rename_i hw
        rw [if_pos hw] at h2
        rcases h2 with h2 | h2
        · exact oper_round (hd i o ho) (Oper.wp_mono (fun a' w' h3 => wpAny_round hd hL k _ a' w' h3) h2)
        · exact (hL h2.2).elim
      · rename_i hw
        rw [if_neg hw] at h2
        exact ⟨fun _ _ => trivial, wpAny_round hd hL k _ _ _ h2⟩
def noDefer (ops : Array Oper) : Bool := ops.all fun o => match o.op with
  | .defer _ => false
  | _ => true
theorem noDefer_spec (h : noDefer ops = true) (i : Nat) (o : Oper) (ho : ops[i]? = some o) (c : Call) : o.op ≠ .defer c := fun e => by
  have := Array.all_eq_true'.1 h o (Array.mem_of_getElem? ho)
  rw [e] at this
  cases this
theorem wpIn_region_till {id n l : Nat} {a : Act} {w : World} (st : List Nat) (S : World → Prop) (hm : P.follows .mixedOrders = true) (hd : noDefer ops = true) (hL : ¬ LetsOut Q) (hS : S w.drew)
    (h : (early st (Array.replicate ops.size false) = true → S w.drew) → wpAnyT P .any ops (NoPanic Q) S st ops.size (Array.replicate ops.size false) a w.drew) : (Code.region id ops true).wpIn (Fence.wide.inRound l) n P Q a w :=
  wpIn_mono (wpIn_region_any hm (wpAny_round (noDefer_spec hd) (fun ⟨a, w, h⟩ => hL ⟨a, w, NoPanic.imp _ _ _ h⟩) _ _ _ _ (wpAny_of_till _ _ _ _ (h fun _ => hS)))) NoPanic.imp
end
end Go.Proofs.YthchnabhbpdfgaaDoor
