import Derived.Test.YthgjpppbpgndcaaGreatDoorChainAll
import Derived.Test.YthgjpppbpgndcaaGreatDoorTagSplit
/- chain.above: an iterator over a tag's parents. -/
namespace Go.Proofs.YthgjpppbpgndcaaGreatDoor
open Go.RowKit Go.Maps Go.Shelf Go.Proofs.YthgjpppbpgndcaaGreatDoorW.PrintWords Go.Proofs.YthgjpppbpgndcaaGreatDoorW.PrintMore

def tmu (t : Nm) : Nat := if t = rootL then 1 else t.length + 2
theorem tmu_pos (t : Nm) : 1 ≤ tmu t := by unfold tmu; split <;> omega
theorem tmu_le (t : Nm) : tmu t ≤ t.length + 2 := by unfold tmu; split <;> omega
theorem parent_mu {t : Nm} (h : parentL t ≠ []) : tmu (parentL t) < tmu t := by
  unfold parentL at h ⊢
  by_cases hc : isC t = true ∧ t ≠ rootL
  · rw [if_pos hc] at h ⊢
    have e : tmu t = t.length + 2 := if_neg hc.2
    rw [e]
    by_cases h1 : (splitL t).length = 1
    · rw [if_pos h1]
      show tmu rootL < _
      have : tmu rootL = 1 := if_pos rfl
      omega
    · rw [if_neg h1]
      rcases last_is t with ⟨-, hn⟩ | ⟨i, hi, -, h2, h3⟩
      · exact absurd (by rw [splitL_none hn]; rfl) h1
      · have hs : splitL t = splitL (t.take i) ++ [t.drop (i + 1)] := by
          conv => lhs; rw [h2]
          rw [splitL_app, splitL_none h3]
        rw [hs, List.dropLast_concat, joinL_split]
        have := tmu_le (t.take i)
        rw [List.length_take] at this
        omega
  · rw [if_neg hc] at h
    exact absurd rfl h
theorem upsN_enough : ∀ (n m : Nat) (t : Nm), tmu t ≤ n → tmu t ≤ m → upsN n t = upsN m t
  | 0, _, t, h, _ => by have := tmu_pos t; omega
  | _ + 1, 0, t, _, h => by have := tmu_pos t; omega
  | n + 1, m + 1, t, h, k => by
    unfold upsN
    by_cases hp : parentL t = []
    · rw [if_pos hp, if_pos hp]
    · have := parent_mu hp
      rw [if_neg hp, if_neg hp, upsN_enough n m _ (by omega) (by omega)]
/-- The parents from a name on, that one too. -/
def upq (q : Nm) : List Nm := if q = [] then [] else q :: ups q
theorem ups_is (t : Nm) : ups t = upq (parentL t) := by
  unfold ups upq
  show upsN (t.length + 1 + 1) t = _
  unfold upsN
  by_cases hp : parentL t = []
  · rw [if_pos hp, if_pos hp]
  · have := parent_mu hp
    have := tmu_le t
    have := tmu_le (parentL t)
    rw [if_neg hp, if_neg hp, upsN_enough (t.length + 1) ((parentL t).length + 2) _ (by omega) (by omega)]
    rfl
theorem parent_len (t : Nm) : (parentL t).length ≤ t.length + 4 := by
  by_cases hp : parentL t = []
  · rw [hp]; simp
  · have h1 := parent_mu hp
    have h2 := tmu_le t
    unfold tmu at h1
    split at h1
    · rename_i e; rw [e]; show 4 ≤ _; omega
    · split at h1 <;> omega
theorem parent_len40 {t : Nm} (h : t.length ≤ 40) : (parentL t).length ≤ 40 := by
  by_cases hp : parentL t = []
  · rw [hp]; simp
  · have h1 := parent_mu hp
    have h2 := tmu_le t
    unfold tmu at h1
    split at h1
    · rename_i e; rw [e]; show 4 ≤ _; omega
    · split at h1 <;> omega
theorem parent_lenC (t : Nm) : (parentL t).length ≤ 40 := by
  by_cases hp : parentL t = []
  · rw [hp]; simp
  · refine parent_len40 (isC_len ?_)
    unfold parentL at hp
    by_cases hc : isC t = true ∧ t ≠ rootL
    · exact hc.1
    · rw [if_neg hc] at hp
      exact absurd rfl hp
/-- The measure of a string's value. -/
def smu (v : Value) : Nat := match v with
  | .string s => if s.data.toList = [] then 0 else tmu s.data.toList
  | _ => 0
theorem smu_S (q : Nm) : smu (.string (S q)) = if q = [] then 0 else tmu q := rfl
set_option maxHeartbeats 1000000 in
theorem above_in (n : Nat) (t : Nm) (w : World) :
    CallsIn Fence.wide n Tryz.prog 40 #[.string (S t)] w fun e w' => e = .returned (.func (.func 55) #[] #[.pointer (some ⟨w.heap.size, 0, none⟩)]) ∧ w' = w.alloc (.cells #[.string (S t)] 9) := by
  refine callsIn_of_wp Tryz.func40 rfl trivial ?_ rfl
  simp only [Tryz.ntmps40, List.size_toArray, List.length_cons, List.length_nil, Nat.reduceAdd, Nat.reduceSub, Array.replicate_succ, Array.replicate_zero, List.push_toArray, List.append_toArray, List.nil_append, List.cons_append]
  gi_wp2
  go_ret
  exact ⟨rfl, rfl⟩
def BKp (n₁ : Nat) (X Y : World) : Prop := Below n₁ X Y
set_option maxHeartbeats 1000000 in
theorem above1_in (n l Bs n₁ B : Nat) (w₀ : World) (t : Nm) (ht : t.length ≤ 1000000) (hn₁ : n₁ = w₀.heap.size) (hM : ML w₀) (J Jx : List Nm → World → Prop)
    (hJ : ∀ s X Y, J s X → Turn B (fun _ => False) X Y → J s Y)
    (hY : ∀ pre x W1, J pre W1 → (pre ++ [x]) <+: ups t → YieldAt Fence.wide (n - 1) Tryz.prog l (encT x) W1 fun e W' =>
      (e = .returned (.bool true) ∧ J (pre ++ [x]) W' ∧ BKp n₁ W1 W') ∨ (e = .returned (.bool false) ∧ Jx (pre ++ [x]) W'))
    (W : World) (hW : Below n₁ w₀ W) (hb1 : Boxed W Bs 9 (.string (S t))) (h0 : J [] W) :
    CallsIn Fence.wide n Tryz.prog 55 #[.func (.yield l) #[] #[], .pointer (some ⟨Bs, 0, none⟩)] W fun e W' => (∃ v, e = .returned v) ∧
      ((∃ ys : List Nm, ys = ups t ∧ J ys W') ∨ (∃ pre, pre <+: ups t ∧ Jx pre W')) := by
  refine callsIn_of_wp Tryz.func55 rfl trivial ?_ rfl
  simp only [Tryz.ntmps55, List.size_toArray, List.length_cons, List.length_nil, Nat.reduceAdd, Nat.reduceSub, Array.replicate_succ, Array.replicate_zero, List.push_toArray, List.append_toArray, List.nil_append, List.cons_append]
  have c1 := hb1.cell
  have HP := Lib.hid (tag_parent t (by omega) W (hM.below (hn₁ ▸ hW)))
  have HW := Lib.hid hW
  have H0 := Lib.hid h0
  have hpl := parent_lenC t
  have hu := ups_is t
  clear hb1 hW h0
  generalize parentL t = p0 at *
  have HU := Lib.hid hu
  clear hu
  gi_wp2_with fail
  refine ⟨trivial, fun h => absurd h (by decide), (callsIn_wide.2 HP.out).mono ?_⟩
  rintro e w1 ⟨rfl, hb⟩
  have HB1 := Lib.hid (HW.out.trans (hb.mono (hn₁ ▸ HW.out.size)))
  have HJ1 := Lib.hid (hJ _ _ _ H0.out (Turn.of_below B _ hb))
  clear hb c1 H0 HP
  gi_wp2_with fail
  gi_loopw [3] (fun i wr => ∃ (pre : List Nm) (q : Nm), i = .string (S q) ∧ q.length ≤ 40 ∧ ups t = pre ++ upq q ∧ Below n₁ w₀ wr ∧ J pre wr)
    (fun i _ => smu i)
  case atStart => exact ⟨[], p0, rfl, hpl, HU.out, HB1.out, HJ1.out⟩
  case round =>
    obtain ⟨pre, q, rfl, hql, hup, hB, hj⟩ := hrel
    have HB := Lib.hid hB
    have HJ := Lib.hid hj
    have HUP := Lib.hid hup
    have hr := S_nil_is q
    have HZ := Lib.hid (smu_S q)
    clear hB hj hup
    by_cases hq : q = []
    · rw [decide_eq_true hq] at hr
      have HE : Hid (ups t = pre) := Lib.hid (by rw [HUP.out, upq, if_pos hq, List.append_nil])
      clear hq
      gi_wp2
      refine ⟨fun _ _ => trivial, ?_⟩
      gi_wp2
      go_end0
      exact ⟨⟨_, rfl⟩, .inl ⟨_, HE.out.symm, HJ.out⟩⟩
    · rw [decide_eq_false hq] at hr
      have HE : Hid (ups t = (pre ++ [q]) ++ ups q) := Lib.hid (by rw [HUP.out, upq, if_neg hq, List.append_assoc]; rfl)
      obtain ⟨fn, tmps, assign, body, hy, hR⟩ := hY pre q wr HJ.out ⟨_, HE.out.symm⟩
      have HR := Lib.hid hR
      have HPM := Lib.hid (@parent_mu q)
      have HQ := Lib.hid hq
      unfold encT at hy
      clear hR hq
      gi_wp2_with fail
      refine ⟨fun h => absurd h (by decide), HR.out.mono ?_⟩
      rintro e W3 (⟨rfl, hJ3, hk3⟩ | ⟨rfl, hJx3⟩)
      · have HJ3 := Lib.hid hJ3
        have HK3 := Lib.hid (HB.out.trans hk3)
        have HP3 := Lib.hid (tag_parent q (by omega) W3 (hM.below (hn₁ ▸ HK3.out)))
        have hpl3 := parent_lenC q
        have HU3 : Hid (ups q = upq (parentL q)) := Lib.hid (ups_is q)
        clear hJ3 hk3
        generalize parentL q = q3 at *
        gi_wp2_with fail
        refine ⟨trivial, fun h => absurd h (by decide), (callsIn_wide.2 HP3.out).mono ?_⟩
        rintro e w4 ⟨rfl, hb⟩
        have HB4 := Lib.hid (HK3.out.trans (hb.mono (hn₁ ▸ HK3.out.size)))
        have HJ4 := Lib.hid (hJ _ _ _ HJ3.out (Turn.of_below B _ hb))
        clear hb HP3
        gi_wp2_with fail
        go_roundw
        case rel => exact ⟨_, q3, rfl, hpl3, by rw [HE.out, HU3.out], HB4.out, HJ4.out⟩
        case measure =>
          rw [HZ.out, if_neg HQ.out, smu_S]
          by_cases h3 : q3 = []
          · rw [if_pos h3]; exact tmu_pos q
          · rw [if_neg h3]; exact HPM.out h3
      · gi_wp2
        go_end0
        exact ⟨⟨_, rfl⟩, .inr ⟨_, ⟨_, HE.out.symm⟩, hJx3⟩⟩
theorem above_seq (n Bs n₁ : Nat) (w₀ w : World) (t : Nm) (ht : t.length ≤ 1000000) (hn₁ : n₁ = w₀.heap.size) (hM : ML w₀) (hW : Below n₁ w₀ w) (hb1 : Boxed w Bs 9 (.string (S t))) :
    SeqT n Tryz.prog 55 #[.pointer (some ⟨Bs, 0, none⟩)] encT (fun pre x _ => (pre ++ [x]) <+: ups t) (fun _ => False) (BKp n₁)
      (fun ys => ys = ups t) (fun pre => pre <+: ups t) w := fun l J Jx W hb hJ _ hY h0 =>
  above1_in n l Bs n₁ W.heap.size w₀ t ht hn₁ hM J Jx hJ hY W (hW.trans (hb.mono (hn₁ ▸ hW.size))) ((hb.block Bs hb1.lt).trans hb1) h0
end Go.Proofs.YthgjpppbpgndcaaGreatDoor

/- chain.Next. -/
namespace Go.Proofs.YthgjpppbpgndcaaGreatDoor
open Go.RowKit Go.Maps Go.Shelf Go.Proofs.YthgjpppbpgndcaaGreatDoorW.PrintWords Go.Proofs.YthgjpppbpgndcaaGreatDoorW.PrintMore
variable {B p : Nat} {w0 w w' : World} {F : FM}

attribute [local go_sem] Oper.semAt_some

/-- The boxes of Next's frame. -/
structure NB (p : Nat) (w X : World) (a : Nm) (b : Bool) (e : Int) : Prop where
  bel : Below w.heap.size w X
  b0 : Boxed X w.heap.size 24 (pv p)
  b1 : Boxed X (w.heap.size + 1) 9 (.string (S a))
  b2 : Boxed X (w.heap.size + 1 + 1) 4 (.bool b)
  b3 : Boxed X (w.heap.size + 1 + 1 + 1) 26 (.int .i64 e)
theorem NB.below {X Y : World} {a : Nm} {b : Bool} {e : Int} (h : NB p w X a b e) (k : Below X.heap.size X Y) : NB p w Y a b e :=
  ⟨h.bel.trans (k.mono h.bel.size), (k.block _ h.b0.lt).trans h.b0, (k.block _ h.b1.lt).trans h.b1, (k.block _ h.b2.lt).trans h.b2, (k.block _ h.b3.lt).trans h.b3⟩
theorem NB.turn {X Y : World} {a : Nm} {b : Bool} {e : Int} {n : Nat} (h : NB p w X a b e) (hn : w.heap.size ≤ n) (t : Turn n (fun _ => False) X Y) : NB p w Y a b e :=
  ⟨t.below h.bel (Nat.le_refl _) hn (fun _ h => h.elim), t.boxed h.b0 (fun h => h), t.boxed h.b1 (fun h => h), t.boxed h.b2 (fun h => h), t.boxed h.b3 (fun h => h)⟩
theorem NB.set {X : World} {a : Nm} {b : Bool} {e : Int} (h : NB p w X a b e) (a' : Nm) (b' : Bool) (e' : Int) :
    NB p w (((X.setCell ⟨w.heap.size + 1, 0, none⟩ (.string (S a'))).setCell ⟨w.heap.size + 1 + 1, 0, none⟩ (.bool b')).setCell ⟨w.heap.size + 1 + 1 + 1, 0, none⟩ (.int .i64 e')) a' b' e' :=
  ⟨((h.bel.setCell (p := ⟨w.heap.size + 1, 0, none⟩) (by simp) _).setCell (p := ⟨w.heap.size + 1 + 1, 0, none⟩) (by simp; omega) _).setCell (p := ⟨w.heap.size + 1 + 1 + 1, 0, none⟩) (by simp; omega) _,
   ((h.b0.other (by omega) _).other (by omega) _).other (by omega) _,
   ((h.b1.set _).other (by omega) _).other (by omega) _,
   ((h.b2.other (by omega) _).set _).other (by omega) _,
   ((h.b3.other (by omega) _).other (by omega) _).set _⟩
theorem NB.facts {X : World} {a : Nm} {b : Bool} {e : Int} (h : NB p w X a b e) :
    X.cell? ⟨w.heap.size + 1, 0, none⟩ = some (.string (S a)) ∧ X.frozen? ⟨w.heap.size + 1, 0, none⟩ = false ∧
    (∀ v, (X.setCell ⟨w.heap.size + 1, 0, none⟩ v).cell? ⟨w.heap.size + 1 + 1, 0, none⟩ = some (.bool b)) ∧ (∀ v, (X.setCell ⟨w.heap.size + 1, 0, none⟩ v).frozen? ⟨w.heap.size + 1 + 1, 0, none⟩ = false) ∧
    (∀ v u, ((X.setCell ⟨w.heap.size + 1, 0, none⟩ v).setCell ⟨w.heap.size + 1 + 1, 0, none⟩ u).cell? ⟨w.heap.size + 1 + 1 + 1, 0, none⟩ = some (.int .i64 e)) ∧ (∀ v u, ((X.setCell ⟨w.heap.size + 1, 0, none⟩ v).setCell ⟨w.heap.size + 1 + 1, 0, none⟩ u).frozen? ⟨w.heap.size + 1 + 1 + 1, 0, none⟩ = false) :=
  ⟨h.b1.cell, h.b1.frozen, fun v => (h.b2.other (by omega) v).cell, fun v => (h.b2.other (by omega) v).frozen, fun v u => ((h.b3.other (by omega) v).other (by omega) u).cell, fun v u => ((h.b3.other (by omega) v).other (by omega) u).frozen⟩
theorem nb_new (p : Nat) (w : World) : NB p w ((((w.alloc (.cells #[pv p] 24)).alloc (.cells #[.string ⟨#[]⟩] 9)).alloc (.cells #[.bool false] 4)).alloc (.cells #[.int .i64 0] 26)) [] false 0 := by
  have b0 := Boxed.new w 24 (pv p)
  have b1 := Boxed.new (w.alloc (.cells #[pv p] 24)) 9 (.string (S []))
  have b2 := Boxed.new ((w.alloc (.cells #[pv p] 24)).alloc (.cells #[.string (S [])] 9)) 4 (.bool false)
  have b3 := Boxed.new (((w.alloc (.cells #[pv p] 24)).alloc (.cells #[.string (S [])] 9)).alloc (.cells #[.bool false] 4)) 26 (.int .i64 0)
  simp only [World.size_alloc] at b1 b2 b3
  exact ⟨((((Below.refl w.heap.size w).alloc (Nat.le_refl _) _).alloc (by simp) _).alloc (by simp; omega) _).alloc (by simp; omega) _, ((b0.alloc _).alloc _).alloc _, (b1.alloc _).alloc _, b2.alloc _, b3⟩
theorem next_results (tmps : Array Value) (R : Nat) (h4 : tmps[4]?.getD undef = .pointer (some ⟨R + 1, 0, none⟩)) (h5 : tmps[5]?.getD undef = .pointer (some ⟨R + 1 + 1, 0, none⟩)) (h6 : tmps[6]?.getD undef = .pointer (some ⟨R + 1 + 1 + 1, 0, none⟩)) (W : World) (x y z : Value) (hx : W.cell? ⟨R + 1, 0, none⟩ = some x) (hy : W.cell? ⟨R + 1 + 1, 0, none⟩ = some y) (hz : W.cell? ⟨R + 1 + 1 + 1, 0, none⟩ = some z) :
    (results Tryz.f24 tmps).run Tryz.prog W = .ok (.tuple #[x, y, z]) W := by
  simp [results, Tryz.f24, go_sem, h4, h5, h6, hx, hy, hz]
/-- What a call of Next hands back. -/
def NextP (w : World) (r : Nm × Bool × Int) (e : Ending) (w' : World) : Prop := e = .returned (.tuple #[.string (S r.1), .bool r.2.1, .int .i64 r.2.2]) ∧ Below w.heap.size w w'
theorem NB.ends {X : World} {r : Nm × Bool × Int} (h : NB p w X r.1 r.2.1 r.2.2) (tmps : Array Value) (h4 : tmps[4]?.getD undef = .pointer (some ⟨w.heap.size + 1, 0, none⟩)) (h5 : tmps[5]?.getD undef = .pointer (some ⟨w.heap.size + 1 + 1, 0, none⟩)) (h6 : tmps[6]?.getD undef = .pointer (some ⟨w.heap.size + 1 + 1 + 1, 0, none⟩)) :
    ∃ v, (results Tryz.f24 tmps).run Tryz.prog X = .ok v X ∧ NextP w r (.returned v) X :=
  ⟨_, next_results tmps w.heap.size h4 h5 h6 X _ _ _ h.b1.cell h.b2.cell h.b3.cell, rfl, h.bel⟩
theorem nextF_none {t : Nm} (h : flk F t = none) : nextF F t = ([], false, 240) := by unfold nextF; rw [h]
theorem nextF_named {t named : Nm} (h : flk F t = some named) (hn : named ≠ []) : nextF F t = if (flk F named).isSome = true then (named, true, 0) else ([], false, 110) := by
  unfold nextF
  rw [h]
  exact if_pos hn
theorem nextF_loop {t : Nm} (h : flk F t = some []) : nextF F t = match firstUp F (ups t) with
      | some p => (p, true, 0)
      | none => ([], false, 0) := by unfold nextF; rw [h]; rfl
theorem keeps_below {X Y : World} (h : Below X.heap.size X Y) : KeepsOthers X Y := ⟨h.size, fun k _ hk _ => (h.block k (Array.getElem?_eq_some_iff.1 hk).1).trans hk⟩
theorem NB.keeps {X : World} {a : Nm} {b : Bool} {e : Int} (h : NB p w X a b e) (v1 v2 v3 : Value) :
    KeepsOthers X (((X.setCell ⟨w.heap.size + 1, 0, none⟩ v1).setCell ⟨w.heap.size + 1 + 1, 0, none⟩ v2).setCell ⟨w.heap.size + 1 + 1 + 1, 0, none⟩ v3) := by
  refine ⟨?_, fun k o hk ho => ?_⟩
  · exact Nat.le_trans (KeepsWalks.setCell X _ v1).size (Nat.le_trans (KeepsWalks.setCell _ _ v2).size (KeepsWalks.setCell _ _ v3).size)
  · have h1 : k ≠ w.heap.size + 1 := by rintro rfl; rw [show X.heap[w.heap.size + 1]? = _ from h.b1] at hk; cases hk; cases ho
    have h2 : k ≠ w.heap.size + 1 + 1 := by rintro rfl; rw [show X.heap[w.heap.size + 1 + 1]? = _ from h.b2] at hk; cases hk; cases ho
    have h3 : k ≠ w.heap.size + 1 + 1 + 1 := by rintro rfl; rw [show X.heap[w.heap.size + 1 + 1 + 1]? = _ from h.b3] at hk; cases hk; cases ho
    exact (Below.heap_setCell _ ⟨w.heap.size + 1 + 1 + 1, 0, none⟩ v3 k h3).trans ((Below.heap_setCell _ ⟨w.heap.size + 1 + 1, 0, none⟩ v2 k h2).trans ((Below.heap_setCell _ ⟨w.heap.size + 1, 0, none⟩ v1 k h1).trans hk))
theorem upsN_len : ∀ (n : Nat) (t x : Nm), x ∈ upsN n t → x.length ≤ 40
  | 0, _, _, h => by cases h
  | n + 1, t, x, h => by
    unfold upsN at h
    by_cases hp : parentL t = []
    · rw [if_pos hp] at h; cases h
    · rw [if_neg hp] at h
      rcases List.mem_cons.1 h with rfl | h
      · exact parent_lenC t
      · exact upsN_len n _ x h
theorem ups_len (t x : Nm) (h : x ∈ ups t) : x.length ≤ 40 := upsN_len _ t x h
theorem firstUp_none {us : List Nm} (h : ∀ x ∈ us, flk F x = none) : firstUp F us = none := List.find?_eq_none.2 (fun x hx => by rw [h x hx]; simp)
theorem firstUp_some {us l : List Nm} {x : Nm} (hp : (l ++ [x]) <+: us) (h : ∀ y ∈ l, flk F y = none) (hx : (flk F x).isSome = true) : firstUp F us = some x := by
  obtain ⟨r, rfl⟩ := hp
  unfold firstUp
  rw [List.append_assoc, List.find?_append, show l.find? (fun p => (flk F p).isSome) = none from firstUp_none h]
  rw [Option.none_or, List.singleton_append, List.find?_cons_of_pos (by exact hx)]
theorem NB.put {X : World} {a : Nm} {b : Bool} {e : Int} {D : Nat} (h : NB p w X a b e) (hD : w.heap.size + 4 ≤ D) (hK : X.heap[D]? = some (.deferred (some []))) : NB p w (X.putObj D (.deferred none)) a b e :=
  ⟨h.bel.trans (belowK_b (w := w) (Nat.le_refl _) _ D _ _ (by omega) hK rfl rfl), (World.putObj_heap_other (by omega)).trans h.b0, (World.putObj_heap_other (by omega)).trans h.b1, (World.putObj_heap_other (by omega)).trans h.b2, (World.putObj_heap_other (by omega)).trans h.b3⟩
theorem NB.deferred {X : World} {a : Nm} {b : Bool} {e : Int} {D : Nat} (_h : NB p w X a b e) (hD : w.heap.size + 4 ≤ D) (hK : X.heap[D]? = some (.deferred (some []))) (v1 v2 v3 : Value) :
    (((X.setCell ⟨w.heap.size + 1, 0, none⟩ v1).setCell ⟨w.heap.size + 1 + 1, 0, none⟩ v2).setCell ⟨w.heap.size + 1 + 1 + 1, 0, none⟩ v3).heap[D]? = some (.deferred (some [])) :=
  (Below.heap_setCell _ ⟨w.heap.size + 1 + 1 + 1, 0, none⟩ v3 D (by simp; omega)).trans ((Below.heap_setCell _ ⟨w.heap.size + 1 + 1, 0, none⟩ v2 D (by simp; omega)).trans ((Below.heap_setCell _ ⟨w.heap.size + 1, 0, none⟩ v1 D (by simp; omega)).trans hK))
/-- What a round of Next's loop leaves. -/
def NxI (p : Nat) (w : World) (F : FM) (m : Nat) (pre : List Nm) (W : World) : Prop := (NB p w W [] false 0 ∧ m ≤ W.heap.size) ∧ ∀ x ∈ pre, flk F x = none
def NxX (p : Nat) (w : World) (F : FM) (c : Code) (pre : List Nm) (W : World) : Prop := ∃ x l, c = .ret ∧ pre = l ++ [x] ∧ NB p w W x true 0 ∧ (∀ y ∈ l, flk F y = none) ∧ (flk F x).isSome = true
set_option maxRecDepth 100000 in
set_option maxHeartbeats 4000000 in
theorem next_in (n : Nat) (h : Ft B p w0 F w) (t : Nm) (ht : t.length ≤ 1000000) :
    CallsIn Fence.wide n Tryz.prog 24 #[pv p, .string (S t)] w (NextP w (nextF F t)) := by
  refine callsIn_of_wp_marks Tryz.func24 rfl trivial ?_ rfl
  simp only [Tryz.ntmps24, List.size_toArray, List.length_cons, List.length_nil, Nat.reduceAdd, Nat.reduceSub, Array.replicate_succ, Array.replicate_zero, List.push_toArray, List.append_toArray, List.nil_append, List.cons_append]
  have hN := nb_new p w
  obtain ⟨W0, hW0⟩ : ∃ W0, ((((w.alloc (.cells #[pv p] 24)).alloc (.cells #[.string ⟨#[]⟩] 9)).alloc (.cells #[.bool false] 4)).alloc (.cells #[.int .i64 0] 26)) = W0 := ⟨_, rfl⟩
  rw [hW0] at hN
  have HN := Lib.hid hN
  have HW0 := Lib.hid hW0
  have HF0 := Lib.hid (h.below hN.bel)
  obtain ⟨mb, hc, hm, -⟩ := HF0.out.at_
  have c0 := cell_blk hc 0 _ rfl
  have HF := Lib.hid h
  have HG := Lib.hid (chain_get hm t (by omega))
  clear hN hW0 hc hm h
  have cb := HN.out.b0.cell
  have hw0 := HW0.out
  rw [← hw0] at c0 cb HG
  clear hw0
  cases hfl : flk F t with
  | none =>
    have HE := Lib.hid (nextF_none hfl)
    rw [hfl] at HG
    simp only [Option.getD_none, Option.isSome_none] at HG
    clear hfl
    gi_wp2_with fail
    refine ⟨trivial, fun h => absurd h (by decide), (callsIn_wide.2 HG.out).mono ?_⟩
    rintro e w1 ⟨rfl, hb⟩
    rw [HW0.out] at hb
    have HN1 := Lib.hid (HN.out.below hb)
    obtain ⟨d1, e1, d2, e2, d3, e3⟩ := HN1.out.facts
    clear hb c0 cb HG
    gi_wp2_with fail
    rw [HE.out]
    exact (HN1.out.set [] false 240).ends (r := ([], false, 240)) _ rfl rfl rfl
  | some named =>
    rw [hfl] at HG
    simp only [Option.getD_some, Option.isSome_some] at HG
    have hnl : named.length ≤ 100 := by
      unfold flk at hfl
      obtain ⟨y, hy, rfl⟩ := Option.map_eq_some_iff.1 hfl
      exact (HF0.out.small y (List.mem_of_find?_eq_some hy)).2
    have hr := S_nil_is named
    by_cases hnm : named = []
    · have HE := Lib.hid (nextF_loop (by rw [hfl, hnm]))
      rw [decide_eq_true hnm] at hr
      clear hfl hnm
      gi_wp2_with fail
      refine ⟨trivial, fun h => absurd h (by decide), (callsIn_wide.2 HG.out).mono ?_⟩
      rintro e w1 ⟨rfl, hb⟩
      rw [HW0.out] at hb
      have HN1 := Lib.hid (HN.out.below hb)
      have HF1 := Lib.hid (HF0.out.below hb)
      have cb1 := HN1.out.b0.cell
      clear hb c0 cb HG
      gi_wp2_with fail
      refine skip_off ?_
      gi_wp2_with fail
      refine ⟨trivial, fun h => absurd h (by decide), (above_in (n - 1) t w1).mono ?_⟩
      rintro e w2 ⟨rfl, rfl⟩
      have hb0 := Boxed.new w1 9 (.string (S t))
      have hbW : Below w1.heap.size w1 (w1.alloc (.cells #[.string (S t)] 9)) := (Below.refl _ w1).alloc (Nat.le_refl _) _
      have hNW := HN1.out.below hbW
      have hsW : (w1.alloc (.cells #[.string (S t)] 9)).heap.size = w1.heap.size + 1 := by simp
      have hlo : w.heap.size + 4 ≤ w1.heap.size := HN1.out.b3.lt
      have hMW : ML (w1.alloc (.cells #[.string (S t)] 9)) := (HF1.out.below hbW).ml
      generalize w1.alloc (.cells #[.string (S t)] 9) = W1 at *
      gi_wp2_with fail
      refine wpIn_rangeT (gf := 55) (lb := #[.pointer (some ⟨w1.heap.size, 0, none⟩)]) rfl (enters_of Tryz.func55 (by kernel_rfl) rfl)
        (above_seq (n - 1) w1.heap.size W1.heap.size W1 W1 t ht rfl hMW (Below.refl _ _) hb0)
        (fun h k => Below.trans h k) (fun W => Below.refl _ W)
        (fun W k o o' hl ho hc => (Below.refl _ W).grown (grownBy_putObj' W k o') (by have := (Array.getElem?_eq_some_iff.1 ho).1; omega) (fun k e => by cases e; omega))
        (Below.refl _ _) (fun _ => rfl) (fun k e => e.elim) (fun s x X Y h _ => h)
        (NxI p w F W1.heap.size) (NxX p w F)
        (fun s X Y h t => ⟨⟨h.1.1.turn (by omega) t, Nat.le_trans h.1.2 t.size⟩, h.2⟩) (fun c s X Y h t => by
          obtain ⟨x, l, h1, h2, h3, h4⟩ := h
          exact ⟨x, l, h1, h2, h3.turn (by omega) t, h4⟩) ⟨⟨hNW, Nat.le_refl _⟩, fun _ h => (by cases h)⟩
        (fun x => { tmps := #[pv p, .string (S t), .pointer (some ⟨w.heap.size, 0, none⟩), undef, .pointer (some ⟨w.heap.size + 1, 0, none⟩), .pointer (some ⟨w.heap.size + 1 + 1, 0, none⟩), .pointer (some ⟨w.heap.size + 1 + 1 + 1, 0, none⟩), .string (S named), .bool true, .string (S x),
          .tuple #[.string (S named), .bool true], pv p, .pointer (some ⟨p, 0, none⟩), .pointer (some ⟨p, 0, none⟩), .agg #[.map (some mb)], .string (S t), .tuple #[.string (S named), .bool true], .string (S named), .bool true, .bool false, .bool true, .bool false, .bool false, .string (S named), .bool false, .bool false, undef, undef, undef, undef, .bool false, .bool false, .string (S named), .bool false, undef, .string (S t), .func (.func 55) #[] #[.pointer (some ⟨w1.heap.size, 0, none⟩)], .string (S x), undef, undef, undef, undef], defers := [] }) ?assign ?body ?done ?stop
      case assign =>
        intro l x W K hK
        unfold encT
        gi_wp2
        exact hK
      case body =>
        rintro l' pre x W ⟨⟨hN, hsz⟩, hno⟩ hG
        have hxl : x.length ≤ 1000000 := by
          have := ups_len t x (hG.mem (by simp))
          omega
        have HN3 := Lib.hid hN
        have HNO := Lib.hid hno
        have HH := Lib.hid (chain_has (HF.out.below hN.bel) x (by omega))
        have cb := hN.b0.cell
        clear hN hno hG
        cases hok : (flk F x).isSome with
        | false =>
          rw [hok] at HH
          have HOK := Lib.hid hok
          clear hok
          gi_wp2_with fail
          refine ⟨trivial, fun h => absurd h (by decide), (callsIn_wide.2 HH.out).mono ?_⟩
          rintro e w3 ⟨rfl, hb⟩
          have HB3 := Lib.hid hb
          clear hb HH
          gi_wp2_with fail
          refine ⟨keeps_below HB3.out, HB3.out.mono hsz, ⟨HN3.out.below HB3.out, Nat.le_trans hsz HB3.out.size⟩, ?_⟩
          · intro y hy
            rcases List.mem_append.1 hy with h | h
            · exact HNO.out y h
            · rw [List.mem_singleton.1 h]
              cases hf : flk F x with
              | none => rfl
              | some z => have := HOK.out; rw [hf] at this; cases this
        | true =>
          rw [hok] at HH
          have HOK := Lib.hid hok
          clear hok
          gi_wp2_with fail
          refine ⟨trivial, fun h => absurd h (by decide), (callsIn_wide.2 HH.out).mono ?_⟩
          rintro e w3 ⟨rfl, hb⟩
          have HB3 := Lib.hid hb
          have HN4 := Lib.hid (HN3.out.below hb)
          obtain ⟨d1, e1, d2, e2, d3, e3⟩ := HN4.out.facts
          clear hb HH cb
          gi_wp2_with fail
          refine ⟨(keeps_below HB3.out).trans (HN4.out.keeps _ _ _), ?_⟩
          exact ⟨x, pre, rfl, rfl, HN4.out.set x true 0, HNO.out, HOK.out⟩
      case done =>
        rintro D xs W hD rfl ⟨⟨hN, -⟩, hno⟩ hK
        rw [firstUp_none hno] at HE
        have HN5 := Lib.hid hN
        obtain ⟨d1, e1, d2, e2, d3, e3⟩ := hN.facts
        have HK2 := Lib.hid (hN.deferred (by omega) hK (.string (S [])) (.bool false) (.int .i64 0))
        clear hN hno hK
        gi_wp2_with fail
        refine ⟨by simp, .inl ⟨_, _, rfl, run_takeDeferred HK2.out, ?_⟩⟩
        rw [HE.out]
        exact ((HN5.out.set [] false 0).put (by omega) HK2.out).ends (r := ([], false, 0)) _ rfl rfl rfl
      case stop =>
        rintro D c pre W hD hpre ⟨x, l, rfl, rfl, hN, hno, hok⟩ hK
        rw [firstUp_some hpre hno hok] at HE
        clear hpre hno hok
        gi_wp2_with fail
        refine ⟨by simp, .inl ⟨_, _, rfl, run_takeDeferred hK, ?_⟩⟩
        rw [HE.out]
        exact (hN.put (by omega) hK).ends (r := (x, true, 0)) _ rfl rfl rfl
    · have HE := Lib.hid (nextF_named hfl hnm)
      rw [decide_eq_false hnm] at hr
      clear hfl hnm
      gi_wp2_with fail
      refine ⟨trivial, fun h => absurd h (by decide), (callsIn_wide.2 HG.out).mono ?_⟩
      rintro e w1 ⟨rfl, hb⟩
      rw [HW0.out] at hb
      have HN1 := Lib.hid (HN.out.below hb)
      have HF1 := Lib.hid (HF0.out.below hb)
      have cb1 := HN1.out.b0.cell
      have HH := Lib.hid (chain_has HF1.out named (by omega))
      clear hb c0 cb HG
      cases hok : (flk F named).isSome with
      | false =>
        rw [hok] at HH HE
        clear hok
        gi_wp2_with fail
        refine ⟨trivial, fun h => absurd h (by decide), (callsIn_wide.2 HH.out).mono ?_⟩
        rintro e w2 ⟨rfl, hb⟩
        have HN2 := Lib.hid (HN1.out.below hb)
        obtain ⟨d1, e1, d2, e2, d3, e3⟩ := HN2.out.facts
        clear hb HH cb1
        gi_wp2_with fail
        rw [HE.out]
        exact (HN2.out.set [] false 110).ends (r := ([], false, 110)) _ rfl rfl rfl
      | true =>
        rw [hok] at HH HE
        clear hok
        gi_wp2_with fail
        refine ⟨trivial, fun h => absurd h (by decide), (callsIn_wide.2 HH.out).mono ?_⟩
        rintro e w2 ⟨rfl, hb⟩
        have HN2 := Lib.hid (HN1.out.below hb)
        obtain ⟨d1, e1, d2, e2, d3, e3⟩ := HN2.out.facts
        clear hb HH cb1
        gi_wp2_with fail
        rw [HE.out]
        exact (HN2.out.set named true 0).ends (r := (named, true, 0)) _ rfl rfl rfl
end Go.Proofs.YthgjpppbpgndcaaGreatDoor
