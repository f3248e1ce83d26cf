import Derived.Test.YtmdecbockpgagaaIter
/- A loop over an iterator whose assign code lays one variable: the frame comes from the goal. -/
namespace Go.Proofs.Ytmdecbockpgagaa
open Go.RowKit Go.Shelf

theorem wpIn_rangeS {α : Type} {n : Nat} {P : Program} {g : Operand} {ps : Array Tmp} {assign body : Code} {Q : Exit → Act → World → Prop} {a : Act} {w : World}
    {gf : Nat} {lb : Array Value} (hg : a.eval g = .func (.func gf) #[] lb) (eg : ∀ args w, (callFunc gf args).run P w = .ok (.enter gf args) w)
    {encs : α → Array Value} {G : List α → α → World → Prop} {T : Nat → Prop} {Kp : World → World → Prop} {S Sp : List α → Prop} {w0 : World} (hseq : SeqT (n - 1) P gf lb encs G T Kp S Sp w0)
    (hKt : ∀ {A B C : World}, Kp A B → Kp B C → Kp A C) (hKr : ∀ W, Kp W W) (hKb : ∀ (W : World) (l : Nat) (o o' : Obj), w.heap.size ≤ l → W.heap[l]? = some o → o.isCells = false → Kp W (W.putObj l o')) (hb0 : Below w0.heap.size w0 w) (hps : ∀ x, (encs x).size = ps.size)
    (hT : ∀ k, T k → k < w.heap.size) (hG : ∀ s x X Y, G s x X → Turn w.heap.size T X Y → G s x Y)
    (I : List α → World → Prop) (Ix : Code → List α → World → Prop) (hI : ∀ s X Y, I s X → Turn w.heap.size T X Y → I s Y) (hIx : ∀ c s X Y, Ix c s X → Turn w.heap.size T X Y → Ix c s Y) (h0 : I [] w) (t : Tmp) (val : α → Value)
    (hassign : ∀ (l : Nat) (x : α) (W : World) (K : Act → World → Prop), K { tmps := ((ps.zip (encs x)).foldl (fun t (p, v) => t.setIfInBounds p v) a.tmps).setIfInBounds t (val x), defers := [] } W →
      assign.wpIn (Fence.wide.inRound l) (n - 1 - 1) P (Exit.then K (fun _ _ _ => False)) { tmps := (ps.zip (encs x)).foldl (fun t (p, v) => t.setIfInBounds p v) a.tmps, defers := [] } W)
    (hbody : ∀ (l : Nat) (pre : List α) (x : α) (W : World) (a1 : Act), a1 = { tmps := ((ps.zip (encs x)).foldl (fun t (p, v) => t.setIfInBounds p v) a.tmps).setIfInBounds t (val x), defers := [] } → I pre W → G pre x W → body.wpIn (Fence.wide.inRound l) (n - 1 - 1) P (ownPostK Kp I Ix (pre ++ [x]) W) a1 W)
    (hdone : ∀ (D : Nat) (xs : List α) (W : World), w.heap.size ≤ D → S xs → I xs W → W.heap[D]? = some (.deferred (some [])) → Q .normal { a with defers := { target := .collected D, args := #[] } :: a.defers } W)
    (hstop : ∀ (D : Nat) (c : Code) (pre : List α) (W : World), w.heap.size ≤ D → Sp pre → Ix c pre W → W.heap[D]? = some (.deferred (some [])) → c.wpIn Fence.wide n P Q { a with defers := { target := .collected D, args := #[] } :: a.defers } W) :
    (Code.rangeFunc g ps assign body).wpIn Fence.wide n P Q a w :=
  wpIn_rangeT hg eg hseq hKt hKr hKb hb0 hps hT hG I Ix hI hIx h0 (fun x => { tmps := ((ps.zip (encs x)).foldl (fun t (p, v) => t.setIfInBounds p v) a.tmps).setIfInBounds t (val x), defers := [] }) hassign (fun l pre x W hi hg => hbody l pre x W _ rfl hi hg) hdone hstop
end Go.Proofs.Ytmdecbockpgagaa
