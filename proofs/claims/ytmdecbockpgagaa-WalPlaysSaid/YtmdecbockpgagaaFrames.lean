import Derived.Test.YtmdecbockpgagaaIter
import Derived.Test.YtmdecbockpgagaaRdBB
/- frame.frames as an iterator, and frame.All. -/
namespace Go.Proofs.Ytmdecbockpgagaa
open Go.RowKit Go.Shelf Go.Proofs.YtmdecbockpgagaaW.PrintWords Go.Proofs.YtmdecbockpgagaaW.PrintMore

attribute [local go_sem] Oper.semAt_some

/-- What is left behind k frames. -/
def restAt (bs : List Int) : Nat → List Int
  | 0 => bs
  | k + 1 => nextR (restAt bs k)
theorem restAt_by {bs : List Int} (h : By bs) : ∀ k, By (restAt bs k)
  | 0 => h
  | k + 1 => ((restAt_by h k).drop 8).drop _
theorem restAt_len {bs : List Int} {k : Nat} (h : NextOk (restAt bs k)) : (restAt bs (k + 1)).length + 8 ≤ (restAt bs k).length := by
  obtain ⟨h1, -⟩ := h
  show (nextR (restAt bs k)).length + 8 ≤ _
  unfold nextR
  simp only [List.length_drop]
  omega

abbrev FEl := Value × Value
def FG (bs : List Int) (n₀ : Nat) (pre : List FEl) (x : FEl) (W : World) : Prop :=
  NextOk (restAt bs pre.length) ∧ OwnB W n₀ x.1 (nextX (restAt bs pre.length)) ∧ ∃ A c, x.2 = .slice A (restAt bs (pre.length + 1)).length c
def FKp (n₁ Bn : Nat) (X Y : World) : Prop := Below n₁ X Y ∧ Y.heap[Bn]? = X.heap[Bn]?
def lenAt (Bn : Nat) (W : World) : Nat := match W.cell? ⟨Bn, 0, none⟩ with | some (.slice _ l _) => l | _ => 0
theorem lenAt_boxed {W : World} {Bn : Nat} {t : TypeId} {A : Option Addr} {l c : Nat} (h : Boxed W Bn t (.slice A l c)) : lenAt Bn W = l := by
  unfold lenAt; rw [h.cell]

set_option maxRecDepth 100000 in
set_option maxHeartbeats 1000000 in
theorem frames1_in (n l Bn n₁ n₀ B : Nat) (w₀ : World) (v : Value) (bs : List Int) (hn₁ : n₁ = w₀.heap.size) (hr : RdB w₀ v bs) (hby : By bs) (hBn : n₁ ≤ Bn) (J Jx : List FEl → World → Prop)
    (hJ : ∀ s X Y, J s X → Turn B (· = Bn) X Y → J s Y)
    (hY : ∀ pre x W1, J pre W1 → FG bs n₀ pre x W1 → YieldAt Fence.wide (n - 1) Try.prog l #[x.1, x.2] W1 fun e W' =>
      (e = .returned (.bool true) ∧ J (pre ++ [x]) W' ∧ FKp n₁ Bn W1 W') ∨ (e = .returned (.bool false) ∧ Jx (pre ++ [x]) W'))
    (W : World) (hW : Below n₁ w₀ W) (hn₀ : n₀ ≤ W.heap.size) (hbox : Boxed W Bn 22 v) (h0 : J [] W) :
    CallsIn Fence.wide n Try.prog 89 #[.func (.yield l) #[] #[], .pointer (some ⟨Bn, 0, none⟩)] W fun e W' => (∃ v, e = .returned v) ∧
      ((∃ ys : List FEl, ((∀ i, i < ys.length → NextOk (restAt bs i)) ∧ ¬ NextOk (restAt bs ys.length)) ∧ J ys W') ∨ (∃ pre, True ∧ Jx pre W')) := by
  refine callsIn_of_wp Try.func89 rfl trivial ?_ rfl
  simp only [Try.ntmps89, List.size_toArray, List.length_cons, List.length_nil, Nat.reduceAdd, Nat.reduceSub, Array.replicate_succ, Array.replicate_zero, List.push_toArray, List.append_toArray, List.nil_append, List.cons_append]
  gi_wp2
  gi_loopw [] (fun wr => ∃ (pre : List FEl) (u : Value), Boxed wr Bn 22 u ∧ RdTr v bs u (restAt bs pre.length) ∧ Below n₁ w₀ wr ∧ n₀ ≤ wr.heap.size ∧ (∀ i, i < pre.length → NextOk (restAt bs i)) ∧ J pre wr)
    (fun wr => lenAt Bn wr)
  case atStart =>
    exact ⟨[], v, hbox, fun _ h => h, hW, hn₀, fun i hi => absurd hi (by simp), h0⟩
  case round =>
    obtain ⟨pre, u, hb, hT, hB, hs, hok, hj⟩ := hrel
    have hru := hT wr (hr.below (hn₁ ▸ hB))
    have hnext := frame_nextT u (restAt bs pre.length) wr hru (restAt_by hby _)
    obtain ⟨A, c, rfl, hc, hrd⟩ := hru
    have hcell := hb.cell
    gi_wp2_with fail
    refine ⟨trivial, fun h => absurd h (by decide), (callsIn_wide.2 hnext).mono ?_⟩
    rintro e w2 (⟨hnok, x, r, rfl, hx, hrr, hb2, hTr⟩ | ⟨hnok, rfl, hb2⟩)
    · have ht2 : Turn B (· = Bn) wr w2 := Turn.of_below _ _ hb2
      have hj2 := hJ _ _ _ hj ht2
      have hrr' := hrr
      obtain ⟨Ar, cr, rfl, hcr, hrrd⟩ := hrr
      have hG : FG bs n₀ pre (x, .slice Ar (nextR (restAt bs pre.length)).length cr) w2 := ⟨hnok, hx.lower hs, Ar, cr, rfl⟩
      obtain ⟨fn, tmps, assign, body, hy, hR⟩ := hY pre _ w2 hj2 hG
      dsimp only at hy
      have hbx2 : w2.heap[Bn]? = wr.heap[Bn]? := hb2.block Bn hb.lt
      gi_wp2_with fail
      refine ⟨fun h => absurd h (by decide), hR.mono ?_⟩
      have hl := restAt_len hnok
      have hsn : (pre ++ [((x, .slice Ar (nextR (restAt bs pre.length)).length cr) : FEl)]).length = pre.length + 1 := by simp
      rintro e W3 (⟨rfl, hJ3, hk3⟩ | ⟨rfl, hJx3⟩)
      · have hb3 : Boxed W3 Bn 22 (.slice A (restAt bs pre.length).length c) := (hk3.2.trans hbx2).trans hb
        have hc3 := hb3.cell
        have hf3 := hb3.frozen
        gi_wp2
        go_roundw
        case rel =>
          refine ⟨pre ++ [(x, .slice Ar (nextR (restAt bs pre.length)).length cr)], .slice Ar (nextR (restAt bs pre.length)).length cr, hb3.set _, ?_, ?_, ?_, ?_, ?_⟩
          · rw [hsn]
            exact fun W h => hTr W (hT W h)
          · exact ((hB.trans (hb2.mono (hn₁ ▸ hB.size))).trans hk3.1).setCell (p := ⟨Bn, 0, none⟩) hBn _
          · exact Nat.le_trans hs (Nat.le_trans hb2.size (Nat.le_trans hk3.1.size (KeepsWalks.setCell W3 _ _).size))
          · intro i hi
            rw [hsn] at hi
            rcases Nat.lt_succ_iff_lt_or_eq.1 hi with h | rfl
            · exact hok i h
            · exact hnok
          · exact hJ _ _ _ hJ3 (Turn.set W3 _ rfl)
        case measure =>
          rw [lenAt_boxed (hb3.set _), lenAt_boxed hb]
          exact Nat.lt_of_lt_of_le (Nat.lt_add_of_pos_right (by decide)) hl
      · gi_wp2
        refine bodyPost_ret (results_none rfl _ _ _) rfl ?_
        exact ⟨⟨_, rfl⟩, .inr ⟨_, trivial, hJx3⟩⟩
    · gi_wp2_with fail
      refine ⟨fun _ h => (by cases h), ?_⟩
      gi_wp2
      refine bodyPost_ret (results_none rfl _ _ _) rfl ?_
      exact ⟨⟨_, rfl⟩, .inl ⟨pre, ⟨hok, hnok⟩, hJ _ _ _ hj (Turn.of_below _ _ hb2)⟩⟩

/-- frame.frames(b): the closure captures the box of b. -/
theorem frames_in (n : Nat) (A : Option Addr) (k c : Nat) (w : World) :
    CallsIn Fence.wide n Try.prog 82 #[.slice A k c] w fun e w' => e = .returned (.func (.func 89) #[] #[.pointer (some ⟨w.heap.size, 0, none⟩)]) ∧ w' = w.alloc (.cells #[.slice A k c] 22) := by
  refine callsIn_of_wp Try.func82 rfl trivial ?_ rfl
  simp only [Try.ntmps82, List.size_toArray, List.length_cons, List.length_nil, Nat.reduceAdd, Nat.reduceSub, Array.replicate_succ, Array.replicate_zero, List.push_toArray, List.append_toArray, List.nil_append, List.cons_append]
  gi_wp2
  go_ret
  exact ⟨rfl, rfl⟩

/-- THE ITERATOR's CONTRACT. -/
theorem frames_seq (n Bn n₁ : Nat) (w₀ w : World) (v : Value) (bs : List Int) (hn₁ : n₁ = w₀.heap.size) (hr : RdB w₀ v bs) (hby : By bs) (hBn : n₁ ≤ Bn) (hW : Below n₁ w₀ w) (hbox : Boxed w Bn 22 v) :
    SeqT n Try.prog 89 #[.pointer (some ⟨Bn, 0, none⟩)] (fun x : FEl => #[x.1, x.2]) (FG bs w.heap.size) (· = Bn) (FKp n₁ Bn)
      (fun ys => (∀ i, i < ys.length → NextOk (restAt bs i)) ∧ ¬ NextOk (restAt bs ys.length)) (fun _ => True) w := fun l J Jx W hb hJ _ hY h0 =>
  frames1_in n l Bn n₁ w.heap.size W.heap.size w₀ v bs hn₁ hr hby hBn J Jx hJ hY W (hW.trans (hb.mono (hn₁ ▸ hW.size))) hb.size ((hb.block Bn hbox.lt).trans hbox) h0
end Go.Proofs.Ytmdecbockpgagaa
