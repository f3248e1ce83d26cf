import Derived.Test.YtekpmpghbeeeoaaGreatDoorIter
import Derived.Test.YtekpmpghbeeeoaaGreatDoorHeld2
import Derived.Deep.RegionHeld3
import Derived.OrdersIn
/- A statement whose order is open, in the round of a loop over an iterator: it is walked as anywhere. -/
namespace Go.Proofs.YtekpmpghbeeeoaaGreatDoor
open Go.RowKit

theorem rowsIn_round {l n : Nat} {P : Program} {row : String} {args : Array Value} {w : World} {R : Value → World → Prop} (h : Rows P row args w R) : RowsIn (Fence.wide.inRound l) n P row args w R := by
  intro c cs _
  obtain ⟨v, w', r, s⟩ := h c cs
  exact ⟨v, w', r, stepsIn_wide.2 s⟩

theorem operIn_round {l n : Nat} {P : Program} {o : Oper} (hnd : ∀ c, o.op ≠ .defer c) {a : Act} {w : World} {K K' : Act → World → Prop} {Q : Exit → Act → World → Prop} (hK : ∀ a w, K a w → K' a w)
    (h : o.wp P a w K Q) : o.wpIn (Fence.wide.inRound l) n P a w K' Q := by
  unfold Oper.wp at h
  refine ⟨fun _ _ => trivial, ?_⟩
  rw [Oper.semAt_eq _ _ _ hnd]
  generalize (execOp a.eval o).run P w = r at h
  have hcall : ∀ {f : FuncId} {args : Array Value} {w' : World}, Calls P f args w' (fun | .returned v, w'' => K (a.put o.dst v) w'' | .panicked chain, w'' => Q (.panic chain) a w'' | .outgrown, _ => LetsOut Q) → CallsIn (Fence.wide.inRound l) (n - 1) P f args w' (fun | .returned v, w'' => K' (a.put o.dst v) w'' | .panicked chain, w'' => Q (.panic chain) a w'' | .outgrown, _ => LetsOut Q) := fun h =>
    CallsIn.inRound l (callsIn_wide.2 (Calls.mono h (fun e w'' he => by cases e <;> first | exact hK _ _ he | exact he)))
  cases r with
  | ok x w' =>
    cases x <;> simp only [Oper.upon, Oper.uponIn] at h ⊢ <;>
      first
        | exact hK _ _ h
        | exact ⟨fun hh => by simp [Fence.wide] at hh, hcall h⟩
        | exact ⟨fun hh => by simp [Fence.wide] at hh, RowsIn.mono (rowsIn_round h) (fun _ _ he => hK _ _ he)⟩
        | exact False.elim h
  | halt x w' => cases x <;> simp only [Oper.upon, Oper.uponIn] at h ⊢ <;> exact h

theorem anyIn_round {l n : Nat} {P : Program} {ops : Array Oper} (hnd : ∀ (i : Nat) (o : Oper), ops[i]? = some o → ∀ c, o.op ≠ .defer c) {md : Region.Mode} {Q : Exit → Act → World → Prop} (hno : ¬ LetsOut Q) :
    ∀ (fuel : Nat) (listed : Array Bool) (a : Act) (w : World), wpAny P md ops Q fuel listed a w → wpAnyIn (Fence.wide.inRound l) n P md ops Q fuel listed a w := by
  intro fuel
  induction fuel with
  | zero => intro listed a w h; exact h
  | succ fuel ih =>
    intro listed a w h
    refine ⟨h.1, fun i hi => ?_⟩
    have h2 := h.2 i hi
    unfold wpOp at h2
    unfold wpOpIn
    cases ho : ops[i]? with
    | none => rw [ho] at h2; exact ih _ _ _ h2
    | some o =>
      rw [ho] at h2
      simp only at h2 ⊢
      by_cases hw : Region.wanted o (yielded ops a.tmps) = true
      · rw [if_pos hw] at h2 ⊢
        exact operIn_round (hnd i o ho) (fun a w => ih _ a w) (h2.resolve_right (fun h => hno h.2))
      · rw [if_neg hw] at h2 ⊢
        exact ⟨fun _ _ => trivial, ih _ _ _ h2⟩

/-- THE DRAWN STATEMENT IN A ROUND, walked by what is held. -/
theorem wpIn_round_held {l n : Nat} {P : Program} {id : Nat} {ops : Array Oper} {Q : Exit → Act → World → Prop} {S : World → Prop} {a : Act} {w : World} (hnd : ops.all (fun o => match o.op with | .defer _ => false | _ => true) = true)
    (hno : ¬ LetsOut Q) (hm : P.follows .mixedOrders = true) (hS : S w.drew) (h : S w.drew → wpAnyH P .any ops Q S ops.size (Array.replicate ops.size false) a w.drew) : (Code.region id ops true).wpIn (Fence.wide.inRound l) n P Q a w :=
  wpIn_region_any hm (anyIn_round (fun i o ho c e => by
    have := Array.all_eq_true.1 hnd i (Array.getElem?_eq_some_iff.1 ho).1
    rw [(Array.getElem?_eq_some_iff.1 ho).2, e] at this
    cases this) hno _ _ _ _ (wpAny_of_held _ _ _ _ (h hS)))
end Go.Proofs.YtekpmpghbeeeoaaGreatDoor
