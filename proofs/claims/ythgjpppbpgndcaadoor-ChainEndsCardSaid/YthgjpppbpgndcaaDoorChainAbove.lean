import Derived.Test.YthgjpppbpgndcaaDoorChainAll
import Derived.Test.YthgjpppbpgndcaaDoorTagSplit
/- chain.above: an iterator over a tag's parents. -/
namespace Go.Proofs.YthgjpppbpgndcaaDoor
open Go.RowKit Go.Maps Go.Shelf Go.Proofs.YthgjpppbpgndcaaDoorW.PrintWords Go.Proofs.YthgjpppbpgndcaaDoorW.PrintMore

def tmu (t : Nm) : Nat := if t = rootL then 1 else t.length + 2
theorem tmu_pos (t : Nm) : 1 ≤ tmu t := by unfold tmu; split <;> omega
theorem tmu_le (t : Nm) : tmu t ≤ t.length + 2 := by unfold tmu; split <;> omega
theorem parent_mu {t : Nm} (h : parentL t ≠ []) : tmu (parentL t) < tmu t := by
  unfold parentL at h ⊢
  by_cases hc : isC t = true ∧ t ≠ rootL
  · rw [if_pos hc] at h ⊢
    have e : tmu t = t.length + 2 := if_neg hc.2
    rw [e]
    by_cases h1 : (splitL t).length = 1
    · rw [if_pos h1]
      show tmu rootL < _
      have : tmu rootL = 1 := if_pos rfl
      omega
    · rw [if_neg h1]
      rcases last_is t with ⟨-, hn⟩ | ⟨i, hi, -, h2, h3⟩
      · exact absurd (by rw [splitL_none hn]; rfl) h1
      · have hs : splitL t = splitL (t.take i) ++ [t.drop (i + 1)] := by
          conv => lhs; rw [h2]
          rw [splitL_app, splitL_none h3]
        rw [hs, List.dropLast_concat, joinL_split]
        have := tmu_le (t.take i)
        rw [List.length_take] at this
        omega
  · rw [if_neg hc] at h
    exact absurd rfl h
theorem upsN_enough : ∀ (n m : Nat) (t : Nm), tmu t ≤ n → tmu t ≤ m → upsN n t = upsN m t
  | 0, _, t, h, _ => by have := tmu_pos t; omega
  | _ + 1, 0, t, _, h => by have := tmu_pos t; omega
  | n + 1, m + 1, t, h, k => by
    unfold upsN
    by_cases hp : parentL t = []
    · rw [if_pos hp, if_pos hp]
    · have := parent_mu hp
      rw [if_neg hp, if_neg hp, upsN_enough n m _ (by omega) (by omega)]
/-- The parents from a name on, that one too. -/
def upq (q : Nm) : List Nm := if q = [] then [] else q :: ups q
theorem ups_is (t : Nm) : ups t = upq (parentL t) := by
  unfold ups upq
  show upsN (t.length + 1 + 1) t = _
  unfold upsN
  by_cases hp : parentL t = []
  · rw [if_pos hp, if_pos hp]
  · have := parent_mu hp
    have := tmu_le t
    have := tmu_le (parentL t)
    rw [if_neg hp, if_neg hp, upsN_enough (t.length + 1) ((parentL t).length + 2) _ (by omega) (by omega)]
    rfl
theorem parent_len (t : Nm) : (parentL t).length ≤ t.length + 4 := by
  by_cases hp : parentL t = []
  · rw [hp]; simp
  · have h1 := parent_mu hp
    have h2 := tmu_le t
    unfold tmu at h1
    split at h1
    · rename_i e; rw [e]; show 4 ≤ _; omega
    · split at h1 <;> omega
theorem parent_len40 {t : Nm} (h : t.length ≤ 40) : (parentL t).length ≤ 40 := by
  by_cases hp : parentL t = []
  · rw [hp]; simp
  · have h1 := parent_mu hp
    have h2 := tmu_le t
    unfold tmu at h1
    split at h1
    · rename_i e; rw [e]; show 4 ≤ _; omega
    · split at h1 <;> omega
theorem parent_lenC (t : Nm) : (parentL t).length ≤ 40 := by
  by_cases hp : parentL t = []
  · rw [hp]; simp
  · refine parent_len40 (isC_len ?_)
    unfold parentL at hp
    by_cases hc : isC t = true ∧ t ≠ rootL
    · exact hc.1
    · rw [if_neg hc] at hp
      exact absurd rfl hp
/-- The measure of a string's value. -/
def smu (v : Value) : Nat := match v with
  | .string s => if s.data.toList = [] then 0 else tmu s.data.toList
  | _ => 0
theorem smu_S (q : Nm) : smu (.string (S q)) = if q = [] then 0 else tmu q := rfl
set_option maxHeartbeats 1000000 in
theorem above_in (n : Nat) (t : Nm) (w : World) :
    CallsIn Fence.wide n Tryd.prog 25 #[.string (S t)] w fun e w' => e = .returned (.func (.func 41) #[] #[.pointer (some ⟨w.heap.size, 0, none⟩)]) ∧ w' = w.alloc (.cells #[.string (S t)] 9) := by
  refine callsIn_of_wp Tryd.func25 rfl trivial ?_ rfl
  simp only [Tryd.ntmps25, List.size_toArray, List.length_cons, List.length_nil, Nat.reduceAdd, Nat.reduceSub, Array.replicate_succ, Array.replicate_zero, List.push_toArray, List.append_toArray, List.nil_append, List.cons_append]
  gi_wp2
  go_ret
  exact ⟨rfl, rfl⟩
def BKp (n₁ : Nat) (X Y : World) : Prop := Below n₁ X Y
set_option maxHeartbeats 1000000 in
theorem above1_in (n l Bs n₁ B : Nat) (w₀ : World) (t : Nm) (ht : t.length ≤ 1000000) (hn₁ : n₁ = w₀.heap.size) (hM : ML w₀) (J Jx : List Nm → World → Prop)
    (hJ : ∀ s X Y, J s X → Turn B (fun _ => False) X Y → J s Y)
    (hY : ∀ pre x W1, J pre W1 → (pre ++ [x]) <+: ups t → YieldAt Fence.wide (n - 1) Tryd.prog l (encT x) W1 fun e W' =>
      (e = .returned (.bool true) ∧ J (pre ++ [x]) W' ∧ BKp n₁ W1 W') ∨ (e = .returned (.bool false) ∧ Jx (pre ++ [x]) W'))
    (W : World) (hW : Below n₁ w₀ W) (hb1 : Boxed W Bs 9 (.string (S t))) (h0 : J [] W) :
    CallsIn Fence.wide n Tryd.prog 41 #[.func (.yield l) #[] #[], .pointer (some ⟨Bs, 0, none⟩)] W fun e W' => (∃ v, e = .returned v) ∧
      ((∃ ys : List Nm, ys = ups t ∧ J ys W') ∨ (∃ pre, pre <+: ups t ∧ Jx pre W')) := by
  refine callsIn_of_wp Tryd.func41 rfl trivial ?_ rfl
  simp only [Tryd.ntmps41, List.size_toArray, List.length_cons, List.length_nil, Nat.reduceAdd, Nat.reduceSub, Array.replicate_succ, Array.replicate_zero, List.push_toArray, List.append_toArray, List.nil_append, List.cons_append]
  have c1 := hb1.cell
  have HP := Lib.hid (tag_parent t (by omega) W (hM.below (hn₁ ▸ hW)))
  have HW := Lib.hid hW
  have H0 := Lib.hid h0
  have hpl := parent_lenC t
  have hu := ups_is t
  clear hb1 hW h0
  generalize parentL t = p0 at *
  have HU := Lib.hid hu
  clear hu
  gi_wp2_with fail
  refine ⟨trivial, fun h => absurd h (by decide), (callsIn_wide.2 HP.out).mono ?_⟩
  rintro e w1 ⟨rfl, hb⟩
  have HB1 := Lib.hid (HW.out.trans (hb.mono (hn₁ ▸ HW.out.size)))
  have HJ1 := Lib.hid (hJ _ _ _ H0.out (Turn.of_below B _ hb))
  clear hb c1 H0 HP
  gi_wp2_with fail
  gi_loopw [3] (fun i wr => ∃ (pre : List Nm) (q : Nm), i = .string (S q) ∧ q.length ≤ 40 ∧ ups t = pre ++ upq q ∧ Below n₁ w₀ wr ∧ J pre wr)
    (fun i _ => smu i)
  case atStart => exact ⟨[], p0, rfl, hpl, HU.out, HB1.out, HJ1.out⟩
  case round =>
    obtain ⟨pre, q, rfl, hql, hup, hB, hj⟩ := hrel
    have HB := Lib.hid hB
    have HJ := Lib.hid hj
    have HUP := Lib.hid hup
    have hr := S_nil_is q
    have HZ := Lib.hid (smu_S q)
    clear hB hj hup
    by_cases hq : q = []
    · rw [decide_eq_true hq] at hr
      have HE : Hid (ups t = pre) := Lib.hid (by rw [HUP.out, upq, if_pos hq, List.append_nil])
      clear hq
      gi_wp2
      refine ⟨fun _ _ => trivial, ?_⟩
      gi_wp2
      go_end0
      exact ⟨⟨_, rfl⟩, .inl ⟨_, HE.out.symm, HJ.out⟩⟩
    · rw [decide_eq_false hq] at hr
      have HE : Hid (ups t = (pre ++ [q]) ++ ups q) := Lib.hid (by rw [HUP.out, upq, if_neg hq, List.append_assoc]; rfl)
      obtain ⟨fn, tmps, assign, body, hy, hR⟩ := hY pre q wr HJ.out ⟨_, HE.out.symm⟩
      have HR := Lib.hid hR
      have HPM := Lib.hid (@parent_mu q)
      have HQ := Lib.hid hq
      unfold encT at hy
      clear hR hq
      gi_wp2_with fail
      refine ⟨fun h => absurd h (by decide), HR.out.mono ?_⟩
      rintro e W3 (⟨rfl, hJ3, hk3⟩ | ⟨rfl, hJx3⟩)
      · have HJ3 := Lib.hid hJ3
        have HK3 := Lib.hid (HB.out.trans hk3)
        have HP3 := Lib.hid (tag_parent q (by omega) W3 (hM.below (hn₁ ▸ HK3.out)))
        have hpl3 := parent_lenC q
        have HU3 : Hid (ups q = upq (parentL q)) := Lib.hid (ups_is q)
        clear hJ3 hk3
        generalize parentL q = q3 at *
        gi_wp2_with fail
        refine ⟨trivial, fun h => absurd h (by decide), (callsIn_wide.2 HP3.out).mono ?_⟩
        rintro e w4 ⟨rfl, hb⟩
        have HB4 := Lib.hid (HK3.out.trans (hb.mono (hn₁ ▸ HK3.out.size)))
        have HJ4 := Lib.hid (hJ _ _ _ HJ3.out (Turn.of_below B _ hb))
        clear hb HP3
        gi_wp2_with fail
        go_roundw
        case rel => exact ⟨_, q3, rfl, hpl3, by rw [HE.out, HU3.out], HB4.out, HJ4.out⟩
        case measure =>
          rw [HZ.out, if_neg HQ.out, smu_S]
          by_cases h3 : q3 = []
          · rw [if_pos h3]; exact tmu_pos q
          · rw [if_neg h3]; exact HPM.out h3
      · gi_wp2
        go_end0
        exact ⟨⟨_, rfl⟩, .inr ⟨_, ⟨_, HE.out.symm⟩, hJx3⟩⟩
theorem above_seq (n Bs n₁ : Nat) (w₀ w : World) (t : Nm) (ht : t.length ≤ 1000000) (hn₁ : n₁ = w₀.heap.size) (hM : ML w₀) (hW : Below n₁ w₀ w) (hb1 : Boxed w Bs 9 (.string (S t))) :
    SeqT n Tryd.prog 41 #[.pointer (some ⟨Bs, 0, none⟩)] encT (fun pre x _ => (pre ++ [x]) <+: ups t) (fun _ => False) (BKp n₁)
      (fun ys => ys = ups t) (fun pre => pre <+: ups t) w := fun l J Jx W hb hJ _ hY h0 =>
  above1_in n l Bs n₁ W.heap.size w₀ t ht hn₁ hM J Jx hJ hY W (hW.trans (hb.mono (hn₁ ▸ hW.size))) ((hb.block Bs hb1.lt).trans hb1) h0
end Go.Proofs.YthgjpppbpgndcaaDoor
