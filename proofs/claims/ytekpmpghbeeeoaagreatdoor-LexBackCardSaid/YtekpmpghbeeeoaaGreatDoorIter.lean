import Derived.RangeFuncNested
import Derived.RangeFuncBox
import Derived.RangeFuncBound
import Derived.RangeFuncCalls
import Derived.RangeFuncLeaves
import Derived.Shelf.Abstract
import Derived.Shelf.RegionOpen
import Derived.WalkKit
import Derived.OwnWalkIn
import Derived.TacticsInMore
import Derived.LoopNIn
import Derived.LoopIn
import Derived.Maps.AppendAt
import Derived.Test.YtekpmpghbeeeoaaGreatDoorBase
/- A loop over an iterator that keeps its own state in boxes (blocks of T) between two rounds. -/
namespace Go.Proofs.YtekpmpghbeeeoaaGreatDoor
open Go.RowKit Go.Shelf

/-- A step of the iterator's: of what is no block of T's, all that lies below B, and all cells, lie as they lay. -/
structure Turn (B : Nat) (T : Nat → Prop) (W W' : World) : Prop where
  os : W'.os = W.os
  tape : W'.tape = W.tape
  output : W'.output = W.output
  size : W.heap.size ≤ W'.heap.size
  same : ∀ (k : Nat) (o : Obj), W.heap[k]? = some o → ¬ T k → (k < B ∨ o.isCells = true) → W'.heap[k]? = some o

theorem Turn.refl (B : Nat) (T : Nat → Prop) (W : World) : Turn B T W W := ⟨rfl, rfl, rfl, Nat.le_refl _, fun _ _ h _ _ => h⟩
theorem Turn.trans {B : Nat} {T : Nat → Prop} {X Y Z : World} (h : Turn B T X Y) (k : Turn B T Y Z) : Turn B T X Z :=
  ⟨k.os.trans h.os, k.tape.trans h.tape, k.output.trans h.output, Nat.le_trans h.size k.size, fun i o hi hT hc => k.same i o (h.same i o hi hT hc) hT hc⟩
theorem Turn.mono {B B' : Nat} {T : Nat → Prop} {X Y : World} (h : Turn B T X Y) (hB : B' ≤ B) : Turn B' T X Y :=
  ⟨h.os, h.tape, h.output, h.size, fun i o hi hT hc => h.same i o hi hT (hc.imp (fun h => Nat.lt_of_lt_of_le h hB) id)⟩
theorem Turn.of_below (B : Nat) (T : Nat → Prop) {X Y : World} (h : Below X.heap.size X Y) : Turn B T X Y :=
  ⟨h.os, h.tape, h.output, h.size, fun i _ hi _ _ => (h.block i (Array.getElem?_eq_some_iff.1 hi).1).trans hi⟩
theorem Turn.alloc (B : Nat) (T : Nat → Prop) (X : World) (o : Obj) : Turn B T X (X.alloc o) :=
  Turn.of_below B T ((Below.refl _ X).alloc (Nat.le_refl _) o)
theorem Turn.drew (B : Nat) (T : Nat → Prop) (X : World) : Turn B T X X.drew := Turn.of_below B T (Below.refl _ X).drew
theorem Turn.set {B : Nat} {T : Nat → Prop} (X : World) {b : Nat} (v : Value) (hT : T b) : Turn B T X (X.setCell ⟨b, 0, none⟩ v) :=
  ⟨rfl, rfl, rfl, (KeepsWalks.setCell X _ v).size, fun k _ hk hn _ => (Below.heap_setCell X ⟨b, 0, none⟩ v k (fun e => hn (by rw [e]; exact hT))).trans hk⟩
theorem Turn.put {B : Nat} (T : Nat → Prop) {X : World} {l : Nat} {o : Obj} (o' : Obj) (hB : B ≤ l) (hl : X.heap[l]? = some o) (ho : o.isCells = false) : Turn B T X (X.putObj l o') :=
  ⟨rfl, rfl, rfl, by simp, fun k o2 hk _ hc => by
    by_cases e : k = l
    · subst e
      rw [hl] at hk
      cases hk
      rcases hc with hc | hc
      · omega
      · rw [ho] at hc; cases hc
    · exact (World.putObj_heap_other e).trans hk⟩
/-- What lay below n lies below n, where T's blocks lie at or beyond n. -/
theorem Turn.below {B n : Nat} {T : Nat → Prop} {X Y Z : World} (h : Below n X Y) (hn : n ≤ X.heap.size) (hB : n ≤ B) (hT : ∀ k, T k → n ≤ k) (t : Turn B T Y Z) : Below n X Z :=
  h.trans ⟨t.os, t.tape, t.output, t.size, fun k hk => by
    have hlt : k < Y.heap.size := by have := h.size; omega
    rw [Array.getElem?_eq_getElem hlt]
    exact t.same k _ (Array.getElem?_eq_getElem hlt) (fun e => by have := hT k e; omega) (.inl (by omega))⟩
theorem Turn.boxed {B : Nat} {T : Nat → Prop} {X Y : World} (t : Turn B T X Y) {b : Nat} {ty : TypeId} {v : Value} (h : Boxed X b ty v) (hT : ¬ T b) : Boxed Y b ty v :=
  t.same b _ h hT (.inr rfl)
theorem Turn.row {B : Nat} {T : Nat → Prop} {X Y : World} (t : Turn B T X Y) {base : Nat} {e : TypeId} {size : Nat} {v : Value} {n : Nat} {xs : List Value} (h : X.ownsRow base e size v n xs) (hT : ∀ k, base ≤ k → ¬ T k) : Y.ownsRow base e size v n xs := by
  refine ⟨h.1, ?_⟩
  rcases h.2 with h | ⟨g, cap, cur, rfl, hb, hg, hr⟩
  · exact .inl h
  · exact .inr ⟨g, cap, cur, rfl, hb, t.same g _ hg (hT g hb) (.inr rfl), hr⟩

/-- THE CONTRACT OF AN ITERATOR: it turns blocks of T's alone; of each element it says G where it hands it over; a round that goes on keeps Kp. -/
def SeqT {α : Type} (n : Nat) (P : Program) (g : Nat) (lb : Array Value) (encs : α → Array Value) (G : List α → α → World → Prop) (T : Nat → Prop) (Kp : World → World → Prop) (S Sp : List α → Prop) (w : World) : Prop :=
  ∀ (l : Nat) (J Jx : List α → World → Prop) (W : World), Below w.heap.size w W →
    (∀ s X Y, J s X → Turn W.heap.size T X Y → J s Y) → (∀ s X Y, Jx s X → Turn W.heap.size T X Y → Jx s Y) →
    (∀ pre x W1, J pre W1 → G pre x W1 → YieldAt Fence.wide (n - 1) P l (encs x) W1 fun e W' =>
      (e = .returned (.bool true) ∧ J (pre ++ [x]) W' ∧ Kp W1 W') ∨ (e = .returned (.bool false) ∧ Jx (pre ++ [x]) W')) →
    J [] W →
    CallsIn Fence.wide n P g (#[.func (.yield l) #[] #[]] ++ lb) W fun e W' => (∃ v, e = .returned v) ∧ ((∃ xs, S xs ∧ J xs W') ∨ (∃ pre, Sp pre ∧ Jx pre W'))

/-- THE LOOP OVER IT, the loop's variables laid by its own code (Ax: what the frame is then). -/
theorem wpIn_rangeA {α : Type} {n : Nat} {P : Program} {g : Operand} {ps : Array Tmp} {assign body : Code} {Q : Exit → Act → World → Prop} {a : Act} {w : World}
    {gf : Nat} {lb : Array Value} (hg : a.eval g = .func (.func gf) #[] lb) (eg : ∀ args w, (callFunc gf args).run P w = .ok (.enter gf args) w)
    {encs : α → Array Value} {G : List α → α → World → Prop} {T : Nat → Prop} {Kp : World → World → Prop} {S Sp : List α → Prop} {w0 : World} (hseq : SeqT (n - 1) P gf lb encs G T Kp S Sp w0)
    (hKt : ∀ {A B C : World}, Kp A B → Kp B C → Kp A C) (hKb : ∀ (W : World) (l : Nat) (o o' : Obj), w.heap.size ≤ l → W.heap[l]? = some o → o.isCells = false → Kp W (W.putObj l o')) (hb0 : Below w0.heap.size w0 w) (hps : ∀ x, (encs x).size = ps.size)
    (hT : ∀ k, T k → k < w.heap.size) (hG : ∀ s x X Y, G s x X → Turn w.heap.size T X Y → G s x Y)
    (I : List α → World → Prop) (Ix : Code → List α → World → Prop) (hI : ∀ s X Y, I s X → Turn w.heap.size T X Y → I s Y) (hIx : ∀ c s X Y, Ix c s X → Turn w.heap.size T X Y → Ix c s Y) (h0 : I [] w) (Ax : List α → α → Act → World → Prop) (hAx : ∀ s x a X Y, Ax s x a X → Turn w.heap.size T X Y → Ax s x a Y)
    (hassign : ∀ (l : Nat) (pre : List α) (x : α) (W : World) (K : Act → World → Prop), I pre W → G pre x W → (∀ a1 W1, Ax pre x a1 W1 → KeepsOthers W W1 → Kp W W1 → I pre W1 → G pre x W1 → K a1 W1) →
      assign.wpIn (Fence.wide.inRound l) (n - 1 - 1) P (Exit.then K (fun _ _ _ => False)) { tmps := (ps.zip (encs x)).foldl (fun t (p, v) => t.setIfInBounds p v) a.tmps, defers := [] } W)
    (hbody : ∀ (l : Nat) (pre : List α) (x : α) (a1 : Act) (W : World), Ax pre x a1 W → I pre W → G pre x W → body.wpIn (Fence.wide.inRound l) (n - 1 - 1) P (ownPostK Kp I Ix (pre ++ [x]) W) a1 W)
    (hdone : ∀ (D : Nat) (xs : List α) (W : World), w.heap.size ≤ D → S xs → I xs W → W.heap[D]? = some (.deferred (some [])) → Q .normal { a with defers := { target := .collected D, args := #[] } :: a.defers } W)
    (hstop : ∀ (D : Nat) (c : Code) (pre : List α) (W : World), w.heap.size ≤ D → Sp pre → Ix c pre W → W.heap[D]? = some (.deferred (some [])) → c.wpIn Fence.wide n P Q { a with defers := { target := .collected D, args := #[] } :: a.defers } W) :
    (Code.rangeFunc g ps assign body).wpIn Fence.wide n P Q a w := by
  refine wpIn_rangeFunc ?_
  intro fn hfn
  obtain ⟨rec, hrec⟩ : ∃ rec : LoopState → Option Code → Loop, rec = fun st pe => { state := st, pending := pe, fn, tmps := a.tmps, params := ps, assign, body, defers := w.heap.size } := ⟨_, rfl⟩
  obtain ⟨W1, hW1⟩ : ∃ W1, (w.alloc (.deferred (some []))).alloc (.loop (rec .ready none)) = W1 := ⟨_, rfl⟩
  have hsz : W1.heap.size = w.heap.size + 2 := by rw [← hW1]; simp
  have hL1 : W1.heap[w.heap.size + 1]? = some (.loop (rec .ready none)) := by
    rw [← hW1]; have := World.alloc_heap_new (w.alloc (.deferred (some []))) (.loop (rec .ready none)); rwa [World.size_alloc] at this
  have hK1 : W1.heap[w.heap.size]? = some (.deferred (some [])) := by
    rw [← hW1]; exact (Below.heap_alloc _ _ _ (by simp)).trans (World.alloc_heap_new w _)
  have hI1 : I [] W1 := by rw [← hW1]; exact hI _ _ _ (hI _ _ _ h0 (Turn.alloc _ _ _ _)) (Turn.alloc _ _ _ _)
  have hb1 : Below w0.heap.size w0 W1 := by
    rw [← hW1]; exact hb0.trans ((((Below.refl _ w).alloc (Nat.le_refl _) _).alloc (by simp) _).mono hb0.size)
  refine ⟨w.heap.size + 1, [{ target := .collected w.heap.size, args := #[] }], W1, { target := .fn (.func gf) lb, args := #[.func (.yield (w.heap.size + 1)) #[] #[]] }, W1, gf,
    #[.func (.yield (w.heap.size + 1)) #[] #[]] ++ lb, W1, ?_, ?_, fun _ _ => trivial, ?_, fun h => absurd h (by decide), ?_⟩
  · rw [← hW1, hrec]; exact run_enterLoop_outer _ _ _ _ _
  · simp only [resolve, hg]
    simp [go_sem]
  · simp [invoke, go_sem, eg]
  · have hlow : ∀ {X Y : World} {k : Nat} {o : Obj}, Turn W1.heap.size T X Y → X.heap[k]? = some o → w.heap.size ≤ k → k < W1.heap.size → Y.heap[k]? = some o :=
      fun t hk h1 h2 => t.same _ _ hk (fun e => by have := hT _ e; omega) (.inl h2)
    refine (hseq (w.heap.size + 1)
      (fun pre W => I pre W ∧ W.heap[w.heap.size + 1]? = some (.loop (rec .ready none)) ∧ W.heap[w.heap.size]? = some (.deferred (some [])))
      (fun pre W => ∃ c, Ix c pre W ∧ W.heap[w.heap.size + 1]? = some (.loop (rec .done (some c))) ∧ W.heap[w.heap.size]? = some (.deferred (some [])))
      W1 hb1
      (fun s X Y hs t => ⟨hI _ _ _ hs.1 (t.mono (by omega)), hlow t hs.2.1 (by omega) (by omega), hlow t hs.2.2 (by omega) (by omega)⟩)
      (fun s X Y hs t => by
        obtain ⟨c, hc, hl, hk⟩ := hs
        exact ⟨c, hIx _ _ _ _ hc (t.mono (by omega)), hlow t hl (by omega) (by omega), hlow t hk (by omega) (by omega)⟩)
      ?_ ⟨hI1, hL1, hK1⟩).mono ?_
    · rintro pre x W ⟨hi, hl, hk⟩ hg1
      have hy := run_yield (P := P) (args := encs x) hl (by rw [hrec]; exact hps x)
      rw [hrec] at hy
      refine ⟨fn, _, assign, body, hy, roundIn_of_wpIn hfn (hassign _ pre x W _ hi hg1 (fun a1 Wa hax hka hkpa hia hga => ?_))⟩
      have hla := hka.same _ _ hl rfl
      have hkk := hka.same _ _ hk rfl
      refine ⟨_, run_beginRound hla (by rw [hrec]), ?_⟩
      have hlta : w.heap.size + 1 < Wa.heap.size := (Array.getElem?_eq_some_iff.1 hla).1
      have ht2 : Turn w.heap.size T Wa (Wa.putObj (w.heap.size + 1) (.loop { rec .ready none with state := .busy })) := Turn.put T _ (by omega) hla rfl
      have hl2 : (Wa.putObj (w.heap.size + 1) (.loop { rec .ready none with state := .busy })).heap[w.heap.size + 1]? = some (.loop { rec .ready none with state := .busy }) := World.putObj_heap_same hlta
      have hk2 : (Wa.putObj (w.heap.size + 1) (.loop { rec .ready none with state := .busy })).heap[w.heap.size]? = some (.deferred (some [])) := (World.putObj_heap_other (by omega)).trans hkk
      have hw2 : Kp W (Wa.putObj (w.heap.size + 1) (.loop { rec .ready none with state := .busy })) := hKt hkpa (hKb _ _ _ _ (by omega) hla rfl)
      refine wpIn_mono (hbody _ pre x a1 _ (hAx _ _ _ _ _ hax ht2) (hI _ _ _ hia ht2) (hG _ _ _ _ hga ht2)) ?_
      have fin : ∀ (jump : Option Code) (W3 : World), KeepsOthers (Wa.putObj (w.heap.size + 1) (.loop { rec .ready none with state := .busy })) W3 →
          (Instr.endRound (w.heap.size + 1) jump).run P W3 = .ok (.bool jump.isNone) (W3.putObj (w.heap.size + 1) (.loop (rec (if jump.isNone then .ready else .done) jump))) ∧
          W3.heap[w.heap.size + 1]? = some (.loop { rec .ready none with state := .busy }) ∧
          (W3.putObj (w.heap.size + 1) (.loop (rec (if jump.isNone then .ready else .done) jump))).heap[w.heap.size + 1]? = some (.loop (rec (if jump.isNone then .ready else .done) jump)) ∧
          (W3.putObj (w.heap.size + 1) (.loop (rec (if jump.isNone then .ready else .done) jump))).heap[w.heap.size]? = some (.deferred (some [])) := fun jump W3 hk3 => by
        have hl3 := hk3.same _ _ hl2 rfl
        have := run_endRound (P := P) jump hl3
        rw [hrec] at this ⊢
        exact ⟨this, by rw [hrec] at hl3; exact hl3, World.putObj_heap_same (Array.getElem?_eq_some_iff.1 hl3).1, (World.putObj_heap_other (by omega)).trans (hk3.same _ _ hk2 rfl)⟩
      rintro e a3 W3 hp
      cases e with
      | normal =>
        obtain ⟨hk3, hkp3, hi3⟩ := hp
        obtain ⟨hr, hl3, hl4, hk4⟩ := fin none W3 hk3
        exact ⟨_, _, hr, .inl ⟨rfl, ⟨hI _ _ _ hi3 (Turn.put T _ (by omega) hl3 rfl), hl4, hk4⟩, hKt (hKt hw2 hkp3) (hKb _ _ _ _ (by omega) hl3 rfl)⟩⟩
      | ret =>
        obtain ⟨hk3, hi3⟩ := hp
        obtain ⟨hr, hl3, hl4, hk4⟩ := fin (some .ret) W3 hk3
        exact ⟨_, _, hr, .inr ⟨rfl, .ret, hIx _ _ _ _ hi3 (Turn.put T _ (by omega) hl3 rfl), hl4, hk4⟩⟩
      | exit id =>
        obtain ⟨hk3, hi3⟩ := hp
        obtain ⟨hr, hl3, hl4, hk4⟩ := fin (some (.exit id)) W3 hk3
        exact ⟨_, _, hr, .inr ⟨rfl, .exit id, hIx _ _ _ _ hi3 (Turn.put T _ (by omega) hl3 rfl), hl4, hk4⟩⟩
      | goto t =>
        obtain ⟨hk3, hi3⟩ := hp
        obtain ⟨hr, hl3, hl4, hk4⟩ := fin (some (.goto t)) W3 hk3
        exact ⟨_, _, hr, .inr ⟨rfl, .goto t, hIx _ _ _ _ hi3 (Turn.put T _ (by omega) hl3 rfl), hl4, hk4⟩⟩
      | panic ch => exact hp.elim
      | outgrown => exact hp.elim
    · rintro e W2 ⟨⟨v, rfl⟩, (⟨xs, hS, hi, hl, hk⟩ | ⟨pre, hSp, c, hi, hl, hk⟩)⟩
      · exact ⟨none, _, by have := run_endLoop (P := P) hl (by rw [hrec]; simp); rw [hrec] at this; exact this, hdone _ xs _ (Nat.le_refl _) hS (hI _ _ _ hi (Turn.put T _ (by omega) hl rfl)) ((World.putObj_heap_other (by omega)).trans hk)⟩
      · exact ⟨some c, _, by have := run_endLoop (P := P) hl (by rw [hrec]; simp); rw [hrec] at this; exact this, hstop _ c pre _ (Nat.le_refl _) hSp (hIx _ _ _ _ hi (Turn.put T _ (by omega) hl rfl)) ((World.putObj_heap_other (by omega)).trans hk)⟩

/-- THE LOOP OVER IT, where the loop's variables are the frame's own. -/
theorem wpIn_rangeT {α : Type} {n : Nat} {P : Program} {g : Operand} {ps : Array Tmp} {assign body : Code} {Q : Exit → Act → World → Prop} {a : Act} {w : World}
    {gf : Nat} {lb : Array Value} (hg : a.eval g = .func (.func gf) #[] lb) (eg : ∀ args w, (callFunc gf args).run P w = .ok (.enter gf args) w)
    {encs : α → Array Value} {G : List α → α → World → Prop} {T : Nat → Prop} {Kp : World → World → Prop} {S Sp : List α → Prop} {w0 : World} (hseq : SeqT (n - 1) P gf lb encs G T Kp S Sp w0)
    (hKt : ∀ {A B C : World}, Kp A B → Kp B C → Kp A C) (hKr : ∀ W, Kp W W) (hKb : ∀ (W : World) (l : Nat) (o o' : Obj), w.heap.size ≤ l → W.heap[l]? = some o → o.isCells = false → Kp W (W.putObj l o')) (hb0 : Below w0.heap.size w0 w) (hps : ∀ x, (encs x).size = ps.size)
    (hT : ∀ k, T k → k < w.heap.size) (hG : ∀ s x X Y, G s x X → Turn w.heap.size T X Y → G s x Y)
    (I : List α → World → Prop) (Ix : Code → List α → World → Prop) (hI : ∀ s X Y, I s X → Turn w.heap.size T X Y → I s Y) (hIx : ∀ c s X Y, Ix c s X → Turn w.heap.size T X Y → Ix c s Y) (h0 : I [] w) (a₁ : α → Act)
    (hassign : ∀ (l : Nat) (x : α) (W : World) (K : Act → World → Prop), K (a₁ x) W →
      assign.wpIn (Fence.wide.inRound l) (n - 1 - 1) P (Exit.then K (fun _ _ _ => False)) { tmps := (ps.zip (encs x)).foldl (fun t (p, v) => t.setIfInBounds p v) a.tmps, defers := [] } W)
    (hbody : ∀ (l : Nat) (pre : List α) (x : α) (W : World), I pre W → G pre x W → body.wpIn (Fence.wide.inRound l) (n - 1 - 1) P (ownPostK Kp I Ix (pre ++ [x]) W) (a₁ x) W)
    (hdone : ∀ (D : Nat) (xs : List α) (W : World), w.heap.size ≤ D → S xs → I xs W → W.heap[D]? = some (.deferred (some [])) → Q .normal { a with defers := { target := .collected D, args := #[] } :: a.defers } W)
    (hstop : ∀ (D : Nat) (c : Code) (pre : List α) (W : World), w.heap.size ≤ D → Sp pre → Ix c pre W → W.heap[D]? = some (.deferred (some [])) → c.wpIn Fence.wide n P Q { a with defers := { target := .collected D, args := #[] } :: a.defers } W) :
    (Code.rangeFunc g ps assign body).wpIn Fence.wide n P Q a w :=
  wpIn_rangeA hg eg hseq hKt hKb hb0 hps hT hG I Ix hI hIx h0 (fun _ x a1 _ => a1 = a₁ x) (fun _ _ _ _ _ h _ => h)
    (fun l pre x W K hi hg hK => hassign l x W K (hK _ W rfl (KeepsOthers.refl W) (hKr W) hi hg)) (fun l pre x a1 W he hi hg => by subst he; exact hbody l pre x W hi hg) hdone hstop

end Go.Proofs.YtekpmpghbeeeoaaGreatDoor
