import Derived.Test.YthgjpppbpgndcaaGreatDoorTagLib
import Derived.Test.YthgjpppbpgndcaaGreatDoorIter
/- strings.SplitSeq at a hyphen: the iterator keeps what is left of the text in a box. -/
namespace Go.Proofs.YthgjpppbpgndcaaGreatDoor
open Go.RowKit Go.Shelf Go.Proofs.YthgjpppbpgndcaaGreatDoorW.PrintWords Go.Proofs.YthgjpppbpgndcaaGreatDoorW.PrintMore

def encT (x : List UInt8) : Array Value := #[.string (S x)]
/-- Between two rounds the iterator's boxes lie as they lay. -/
def TKp (n₁ Bs : Nat) (X Y : World) : Prop := Below n₁ X Y ∧ Y.heap[Bs]? = X.heap[Bs]? ∧ Y.heap[Bs + 1]? = X.heap[Bs + 1]? ∧ Y.heap[Bs + 2]? = X.heap[Bs + 2]?
def boxLen (Bs : Nat) (w : World) : Nat := match w.cell? ⟨Bs, 0, none⟩ with
  | some (.string s) => s.size
  | _ => 0
theorem S_take (l : List UInt8) (i : Nat) : (S l).extract 0 i = S (l.take i) := by
  have := Lib.extract_from_zero (S l) i
  exact congrArg S this
theorem S_drop (l : List UInt8) (i : Nat) : (S l).extract i l.length = S (l.drop i) := by
  have h : ((S l).extract i l.length).data.toList = l.drop i := by
    rw [ByteArray.data_extract, Array.toList_extract]
    show l.extract i l.length = _
    rw [List.extract_eq_take_drop]
    exact List.take_of_length_le (by rw [List.length_drop]; omega)
  exact congrArg S h
theorem run_take (l : List UInt8) (i : Nat) (hi : i ≤ l.length) (W : World) : (Instr.slice 9 (.string (S l)) none (some (.int .i64 (i : Int))) none).run Tryz.prog W = .ok (.string (S (l.take i))) W := by
  have hz := S_size l
  have h2 : (i : Int) ≤ (l.length : Int) := by omega
  have he := S_take l i
  go_simp
theorem run_drop (l : List UInt8) (i : Nat) (hi : i ≤ l.length) (W : World) : (Instr.slice 9 (.string (S l)) (some (.int .i64 (i : Int))) none none).run Tryz.prog W = .ok (.string (S (l.drop i))) W := by
  have hz := S_size l
  have h2 : (i : Int) ≤ (l.length : Int) := by omega
  have he := S_drop l i
  go_simp

set_option maxRecDepth 100000 in
set_option maxHeartbeats 1000000 in
theorem split1_in (n l Bs n₁ B : Nat) (w₀ : World) (s : List UInt8) (hs : s.length ≤ 1000000) (hn₁ : n₁ = w₀.heap.size) (hBs : n₁ ≤ Bs) (hM : ML w₀) (J Jx : List (List UInt8) → World → Prop)
    (hJ : ∀ p X Y, J p X → Turn B (· = Bs) X Y → J p Y)
    (hY : ∀ pre x W1, J pre W1 → (pre ++ [x]) <+: splitL s → YieldAt Fence.wide (n - 1) Tryz.prog l (encT x) W1 fun e W' =>
      (e = .returned (.bool true) ∧ J (pre ++ [x]) W' ∧ TKp n₁ Bs W1 W') ∨ (e = .returned (.bool false) ∧ Jx (pre ++ [x]) W'))
    (W : World) (hW : Below n₁ w₀ W) (hb1 : Boxed W Bs 9 (.string (S s))) (hb2 : Boxed W (Bs + 1) 9 (.string (S [45]))) (hb3 : Boxed W (Bs + 2) 3 (.int .i64 0)) (h0 : J [] W) :
    CallsIn Fence.wide n Tryz.prog 102 #[.func (.yield l) #[] #[], .pointer (some ⟨Bs + 1, 0, none⟩), .pointer (some ⟨Bs, 0, none⟩), .pointer (some ⟨Bs + 2, 0, none⟩)] W fun e W' => (∃ v, e = .returned v) ∧
      ((∃ ys : List (List UInt8), ys = splitL s ∧ J ys W') ∨ (∃ pre, pre <+: splitL s ∧ Jx pre W')) := by
  refine callsIn_of_wp Tryz.func102 rfl trivial ?_ rfl
  simp only [Tryz.ntmps102, List.size_toArray, List.length_cons, List.length_nil, Nat.reduceAdd, Nat.reduceSub, Array.replicate_succ, Array.replicate_zero, List.push_toArray, List.append_toArray, List.nil_append, List.cons_append]
  have c1 := hb1.cell
  have c2 := hb2.cell
  have c3 := hb3.cell
  have hz : (S [45]).size = 1 := rfl
  gi_wp2_with fail
  clear c1 c2 c3
  gi_loopw [7] (fun i wr => ∃ (pre : List (List UInt8)) (rest : List UInt8), rest.length ≤ s.length ∧ splitL s = pre ++ splitL rest ∧ Boxed wr Bs 9 (.string (S rest)) ∧ Boxed wr (Bs + 1) 9 (.string (S [45])) ∧ Boxed wr (Bs + 2) 3 (.int .i64 0) ∧ Below n₁ w₀ wr ∧ J pre wr)
    (fun _ w => boxLen Bs w)
  case atStart => exact ⟨[], s, Nat.le_refl _, rfl, hb1, hb2, hb3, hW, h0⟩
  case round =>
    obtain ⟨pre, rest, hrl, hst, hx1, hx2, hx3, hB, hj⟩ := hrel
    have c1 := hx1.cell
    have c2 := hx2.cell
    have c3 := hx3.cell
    have HB := Lib.hid hB
    have HJ := Lib.hid hj
    have HX1 := Lib.hid hx1
    have HX2 := Lib.hid hx2
    have HX3 := Lib.hid hx3
    have HST := Lib.hid hst
    have HI := Lib.hid (lib_index rest (by omega) wr (hM.below (hn₁ ▸ hB)))
    have hsp := split_index rest
    have hz := S_size rest
    have hz1 : (S [45]).size = 1 := rfl
    have HZ := Lib.hid (by unfold boxLen; rw [c1]; exact hz : boxLen Bs wr = rest.length)
    clear hB hj hx1 hx2 hx3 hst
    rcases hsp with ⟨h1, h2, h3⟩ | ⟨i, hi, h1, h2, h3, h4⟩
    · rw [h1] at HI
      obtain ⟨fn, tmps, assign, body, hy, hR⟩ := hY pre rest wr HJ.out ⟨[], by rw [HST.out, h2, List.append_nil]⟩
      have H2 := Lib.hid h2
      have HR := Lib.hid hR
      unfold encT at hy
      clear h1 h2 h3 hR hz hz1
      gi_wp2_with fail
      refine ⟨trivial, fun h => absurd h (by decide), (callsIn_wide.2 HI.out).mono ?_⟩
      rintro e w2 ⟨rfl, rfl⟩
      gi_wp2_with fail
      refine ⟨fun h => absurd h (by decide), HR.out.mono ?_⟩
      rintro e W3 (⟨rfl, hJ3, hk3⟩ | ⟨rfl, hJx3⟩)
      · gi_wp2
        go_end0
        exact ⟨⟨_, rfl⟩, .inl ⟨_, by rw [HST.out, H2.out], hJ3⟩⟩
      · gi_wp2
        go_end0
        exact ⟨⟨_, rfl⟩, .inr ⟨_, ⟨[], by rw [HST.out, H2.out, List.append_nil]⟩, hJx3⟩⟩
    · rw [h1] at HI
      have HS2 : Hid (splitL s = (pre ++ [rest.take i]) ++ splitL (rest.drop (i + 1))) := Lib.hid (by rw [HST.out, h2, List.append_assoc]; rfl)
      obtain ⟨fn, tmps, assign, body, hy, hR⟩ := hY pre (rest.take i) wr HJ.out ⟨_, HS2.out.symm⟩
      have HR := Lib.hid hR
      have hs1 := run_take rest i (by omega)
      have hs2 := run_drop rest (i + 1) (by omega)
      rw [show (((i + 1 : Nat)) : Int) = (i : Int) + 1 from rfl] at hs2
      unfold encT at hy
      clear h1 h2 h3 h4 hR hz
      gi_wp2_with fail
      refine ⟨trivial, fun h => absurd h (by decide), (callsIn_wide.2 HI.out).mono ?_⟩
      rintro e w2 ⟨rfl, rfl⟩
      gi_wp2_with fail
      refine ⟨fun h => absurd h (by decide), HR.out.mono ?_⟩
      rintro e W3 (⟨rfl, hJ3, hk3⟩ | ⟨rfl, hJx3⟩)
      · have b1 : Boxed W3 Bs 9 (.string (S rest)) := hk3.2.1.trans HX1.out
        have b2 : Boxed W3 (Bs + 1) 9 (.string (S [45])) := hk3.2.2.1.trans HX2.out
        have b3 : Boxed W3 (Bs + 2) 3 (.int .i64 0) := hk3.2.2.2.trans HX3.out
        have d1 := b1.cell
        have d2 := b2.cell
        have d3 := b3.cell
        have f1 := b1.frozen
        have HJ3 := Lib.hid hJ3
        have HK3 := Lib.hid hk3
        have B1 := Lib.hid b1
        have B2 := Lib.hid b2
        have B3 := Lib.hid b3
        clear hJ3 hk3 b1 b2 b3 c1 c2 c3
        gi_wp2_with fail
        go_roundw
        case rel => exact ⟨_, rest.drop (i + 1), by rw [List.length_drop]; omega, HS2.out, B1.out.set _, B2.out.other (by omega) _, B3.out.other (by omega) _, (HB.out.trans HK3.out.1).setCell (p := ⟨Bs, 0, none⟩) hBs _, hJ _ _ _ HJ3.out (Turn.set W3 _ rfl)⟩
        case measure =>
          rw [HZ.out]
          have hb := (B1.out.set (.string (S (rest.drop (i + 1))))).cell
          unfold boxLen
          rw [hb]
          show (S (rest.drop (i + 1))).size < _
          rw [S_size, List.length_drop]
          omega
      · gi_wp2
        refine bodyPost_ret (results_none rfl _ _ _) rfl ?_
        exact ⟨⟨_, rfl⟩, .inr ⟨_, ⟨_, HS2.out.symm⟩, hJx3⟩⟩

theorem split_seq (n Bs n₁ : Nat) (w₀ w : World) (s : List UInt8) (hs : s.length ≤ 1000000) (hn₁ : n₁ = w₀.heap.size) (hBs : n₁ ≤ Bs) (hM : ML w₀) (hW : Below n₁ w₀ w) (hb1 : Boxed w Bs 9 (.string (S s))) (hb2 : Boxed w (Bs + 1) 9 (.string (S [45]))) (hb3 : Boxed w (Bs + 2) 3 (.int .i64 0)) :
    SeqT n Tryz.prog 102 #[.pointer (some ⟨Bs + 1, 0, none⟩), .pointer (some ⟨Bs, 0, none⟩), .pointer (some ⟨Bs + 2, 0, none⟩)] encT (fun pre x _ => (pre ++ [x]) <+: splitL s) (· = Bs) (TKp n₁ Bs)
      (fun ys => ys = splitL s) (fun pre => pre <+: splitL s) w := fun l J Jx W hb hJ _ hY h0 =>
  split1_in n l Bs n₁ W.heap.size w₀ s hs hn₁ hBs hM J Jx hJ hY W (hW.trans (hb.mono (hn₁ ▸ hW.size))) ((hb.block Bs hb1.lt).trans hb1) ((hb.block (Bs + 1) hb2.lt).trans hb2) ((hb.block (Bs + 2) hb3.lt).trans hb3) h0

/-- tag.subtags: the closure captures three boxes. -/
def subW (w : World) (s : List UInt8) : World := ((w.alloc (.cells #[.string (S s)] 9)).alloc (.cells #[.string (S [45])] 9)).alloc (.cells #[.int .i64 0] 3)
theorem splitSeq_in (n : Nat) (s : List UInt8) (w : World) :
    CallsIn Fence.wide n Tryz.prog 86 #[.string (S s), .string (S [45]), .int .i64 0] w fun e w' => e = .returned (.func (.func 102) #[] #[.pointer (some ⟨w.heap.size + 1, 0, none⟩), .pointer (some ⟨w.heap.size, 0, none⟩), .pointer (some ⟨w.heap.size + 2, 0, none⟩)]) ∧ w' = subW w s := by
  refine callsIn_of_wp Tryz.func86 rfl trivial ?_ rfl
  simp only [Tryz.ntmps86, List.size_toArray, List.length_cons, List.length_nil, Nat.reduceAdd, Nat.reduceSub, Array.replicate_succ, Array.replicate_zero, List.push_toArray, List.append_toArray, List.nil_append, List.cons_append]
  gi_wp2
  go_ret
  exact ⟨rfl, rfl⟩
theorem SplitSeq_in (n : Nat) (s : List UInt8) (w : World) :
    CallsIn Fence.wide n Tryz.prog 63 #[.string (S s), .string (S [45])] w fun e w' => e = .returned (.func (.func 102) #[] #[.pointer (some ⟨w.heap.size + 1, 0, none⟩), .pointer (some ⟨w.heap.size, 0, none⟩), .pointer (some ⟨w.heap.size + 2, 0, none⟩)]) ∧ w' = subW w s := by
  refine callsIn_of_wp Tryz.func63 rfl trivial ?_ rfl
  simp only [Tryz.ntmps63, List.size_toArray, List.length_cons, List.length_nil, Nat.reduceAdd, Nat.reduceSub, Array.replicate_succ, Array.replicate_zero, List.push_toArray, List.append_toArray, List.nil_append, List.cons_append]
  gi_wp2_with fail
  refine ⟨trivial, fun h => absurd h (by decide), (splitSeq_in (n - 1) s w).mono ?_⟩
  rintro e w1 ⟨rfl, rfl⟩
  gi_wp2
  go_ret
  exact ⟨rfl, rfl⟩
def normL (l : List UInt8) : List UInt8 := (smallL l).map dashU
theorem normL_length (l : List UInt8) : (normL l).length = l.length := by simp [normL, smallL]
theorem subtags_in (n : Nat) (s : List UInt8) (hs : s.length ≤ 1000000) (w : World) (hM : ML w) :
    CallsIn Fence.wide n Tryz.prog 45 #[.string (S s)] w fun e w' => ∃ wm, Below w.heap.size w wm ∧ e = .returned (.func (.func 102) #[] #[.pointer (some ⟨wm.heap.size + 1, 0, none⟩), .pointer (some ⟨wm.heap.size, 0, none⟩), .pointer (some ⟨wm.heap.size + 2, 0, none⟩)]) ∧ w' = subW wm (normL s) := by
  refine callsIn_of_wp Tryz.func45 rfl trivial ?_ rfl
  simp only [Tryz.ntmps45, List.size_toArray, List.length_cons, List.length_nil, Nat.reduceAdd, Nat.reduceSub, Array.replicate_succ, Array.replicate_zero, List.push_toArray, List.append_toArray, List.nil_append, List.cons_append]
  have HM := Lib.hid hM
  clear hM
  gi_wp2_with fail
  refine ⟨trivial, fun h => absurd h (by decide), (callsIn_wide.2 (tag_small s hs w)).mono ?_⟩
  rintro e w1 ⟨rfl, hb1⟩
  have HB1 := Lib.hid hb1
  clear hb1
  gi_wp2_with fail
  refine ⟨trivial, fun h => absurd h (by decide), (callsIn_wide.2 (lib_replace (smallL s) (by simp [smallL]; exact hs) w1 (HM.out.below HB1.out))).mono ?_⟩
  rintro e w2 ⟨rfl, hb2⟩
  have HB2 := Lib.hid (HB1.out.trans (hb2.mono HB1.out.size))
  clear hb2
  gi_wp2_with fail
  refine ⟨trivial, fun h => absurd h (by decide), (SplitSeq_in (n - 1) (normL s) w2).mono ?_⟩
  rintro e w3 ⟨rfl, rfl⟩
  gi_wp2
  go_ret
  exact ⟨w2, HB2.out, rfl, rfl⟩
end Go.Proofs.YthgjpppbpgndcaaGreatDoor
