import Derived.Test.YtekpmpghbeeeoaaGreatDoorLexOne
import Derived.Sort.CutIn
/- package lex: signs as an iterator. -/
namespace Go.Proofs.YtekpmpghbeeeoaaGreatDoor
open Go.RowKit Go.Shelf Go.Proofs.YtekpmpghbeeeoaaGreatDoorW.PrintWords Go.Proofs.YtekpmpghbeeeoaaGreatDoorW.PrintMore

attribute [local go_sem] Oper.semAt_some

/-- A sign as it is handed over, and whether it is one. -/
abbrev TEl := (Int × Int × ByteArray × Int) × Bool
def encK (x : TEl) : Array Value := #[.agg #[.int .i64 x.1.1, .int .i64 x.1.2.1, .string x.1.2.2.1, .int .i32 x.1.2.2.2], .bool x.2]
def elT (t : Tok) : TEl := ((t.kind, (t.at_ : Int), S t.text, t.r), true)
def GK (l : List UInt8) (pre : List TEl) (x : TEl) : Prop :=
  (x.2 = true → ∃ t, (tk 0 l).1[pre.length]? = some t ∧ x = elT t) ∧ (x.2 = false → ∃ p : Nat, (tk 0 l).2 = some p ∧ x.1.2.1 = (p : Int))
/-- Between two signs: what is told, and what is left. -/
structure TI (l : List UInt8) (n a : Nat) : Prop where
  le : a ≤ l.length
  all : ∃ dn, dn.length = n ∧ (tk 0 l).1 = dn ++ (tk a (l.drop a)).1
  snd : (tk 0 l).2 = (tk a (l.drop a)).2
theorem TI.zero (l : List UInt8) : TI l 0 0 := ⟨Nat.zero_le _, ⟨[], rfl, rfl⟩, rfl⟩
theorem TI.rest {l : List UInt8} {a q : Nat} (hq : q = a + blankN (l.drop a)) : (l.drop a).drop (blankN (l.drop a)) = l.drop q := by
  rw [List.drop_drop, hq]
theorem TI.stop {l : List UInt8} {n a q : Nat} (h : TI l n a) (hq : q = a + blankN (l.drop a)) (hlt : q < l.length) (ho : oneT (l.drop q) = none) : (tk 0 l).2 = some q ∧ (tk 0 l).1.length = n := by
  have hr := TI.rest hq
  have hne : (l.drop a).drop (blankN (l.drop a)) ≠ [] := by
    rw [hr]
    intro e
    have := congrArg List.length e
    rw [List.length_drop] at this
    simp at this
    omega
  have ht : tk a (l.drop a) = ([], some (a + blankN (l.drop a))) := tk_none hne (by rw [hr]; exact ho)
  obtain ⟨dn, h1, h2⟩ := h.all
  rw [ht] at h2
  refine ⟨by rw [h.snd, ht, hq], by rw [h2, List.append_nil, h1]⟩
theorem TI.next {l : List UInt8} {n a q : Nat} {o : One} (h : TI l n a) (hq : q = a + blankN (l.drop a)) (ho : oneT (l.drop q) = some o) :
    TI l (n + 1) (q + o.n) ∧ (tk 0 l).1[n]? = some ⟨o.kind, q, o.text, o.r⟩ := by
  have hr := TI.rest hq
  have ht := tk_some (a := a) (l := l.drop a) (o := o) (by rw [hr]; exact ho)
  rw [hr, ← hq, List.drop_drop] at ht
  obtain ⟨dn, h1, h2⟩ := h.all
  rw [ht] at h2
  have hl := oneT_len ho
  unfold OkOne at hl
  rw [List.length_drop] at hl
  refine ⟨⟨by omega, ⟨dn ++ [⟨o.kind, q, o.text, o.r⟩], by simp [h1], by rw [h2]; simp⟩, by rw [h.snd, ht]⟩, ?_⟩
  rw [h2, List.getElem?_append_right (by omega), h1, Nat.sub_self]
  rfl
theorem TI.done {l : List UInt8} {n a q : Nat} (h : TI l n a) (hq : q = a + blankN (l.drop a)) (hge : l.length ≤ q) : (tk 0 l).1.length = n ∧ (tk 0 l).2 = none := by
  have ht : tk a (l.drop a) = ([], none) := tk_end (by rw [TI.rest hq]; exact List.drop_eq_nil_of_le hge)
  obtain ⟨dn, h1, h2⟩ := h.all
  rw [ht] at h2
  refine ⟨by rw [h2, List.append_nil, h1], by rw [h.snd, ht]⟩
theorem wpIn_world {F : Fence} {n : Nat} {P : Program} {Q : Exit → Act → World → Prop} {c : Code} {a : Act} {W : World} (h : ∀ w, w = W → c.wpIn F n P Q a w) : c.wpIn F n P Q a W := h W rfl
def SKt (n₁ Bn : Nat) (X Y : World) : Prop := Below n₁ X Y ∧ Y.heap[Bn]? = X.heap[Bn]?

set_option maxRecDepth 100000 in
set_option maxHeartbeats 4000000 in
theorem tokens1_in (n l Bn n₁ B : Nat) (hn : 1 ≤ n) (w₀ : World) (s : List UInt8) (hn₁ : n₁ = w₀.heap.size) (hlen : s.length ≤ 800000) (hT : Tabs w₀) (J Jx : List TEl → World → Prop)
    (hJ : ∀ s X Y, J s X → Turn B (fun _ => False) X Y → J s Y)
    (hY : ∀ pre x W1, J pre W1 → GK s pre x → YieldAt Fence.wide (n - 1) Tryz.prog l (encK x) W1 fun e W' =>
      (e = .returned (.bool true) ∧ J (pre ++ [x]) W' ∧ SKt n₁ Bn W1 W') ∨ (e = .returned (.bool false) ∧ Jx (pre ++ [x]) W'))
    (W : World) (hW : Below n₁ w₀ W) (hbox : Boxed W Bn 9 (.string (S s))) (h0 : J [] W) :
    CallsIn Fence.wide n Tryz.prog 25 #[.func (.yield l) #[] #[], .pointer (some ⟨Bn, 0, none⟩)] W fun e W' => (∃ v, e = .returned v) ∧
      ((∃ ys : List TEl, ((ys.length = (tk 0 s).1.length ∧ (tk 0 s).2 = none) ∨ ∃ x ∈ ys, x.2 = false) ∧ J ys W') ∨ (∃ pre, True ∧ Jx pre W')) := by
  have HJ := Lib.hid hJ
  have HY := Lib.hid hY
  have HTW := Lib.hid hT
  have hcell := hbox.cell
  have HBX := Lib.hid hbox
  have HW := Lib.hid hW
  have H0 := Lib.hid h0
  have HSZ := S_size s
  have KB := Lib.hid (fun (t : List UInt8) (ht : t.length ≤ 1000000) W => lex_blank t ht W)
  have K0 := Lib.hid (KB.out s (by omega) W)
  have hbl := blankN_le s
  have HI0 := Lib.hid (TI.zero s)
  obtain ⟨b0, hb0⟩ : ∃ b, blankN s = b := ⟨_, rfl⟩
  have HQ0 : Hid (b0 = 0 + blankN (s.drop 0)) := Lib.hid (by rw [List.drop_zero, hb0, Nat.zero_add])
  rw [hb0] at K0 hbl
  have HDR : Hid (∀ q, q ≤ s.length → ∀ W, (Instr.slice 9 (.string (S s)) (some (.int .i64 (q : Int))) none none).run Tryz.prog W = .ok (.string (S (s.drop q))) W) := Lib.hid (fun q hq W => run_drop s q hq W)
  obtain ⟨ss, hss⟩ : ∃ x, S s = x := ⟨_, rfl⟩
  rw [hss] at hcell HBX HSZ K0 HDR
  clear hJ hY hT hbox hW h0 hb0 hss
  refine callsIn_of_wp Tryz.func25 rfl trivial ?_ rfl
  simp only [Tryz.ntmps25, List.size_toArray, List.length_cons, List.length_nil, Nat.reduceAdd, Nat.reduceSub, Array.replicate_succ, Array.replicate_zero, List.push_toArray, List.append_toArray, List.nil_append, List.cons_append]
  gi_wp2_with fail
  refine ⟨trivial, (callsIn_wide.2 K0.out).mono ?_⟩
  rintro e w1 ⟨rfl, rfl⟩
  clear K0
  gi_wp2_with fail
  gi_loopw [3] (fun i wr => ∃ (pre : List TEl) (a q : Nat), i = .int .i64 (q : Int) ∧ q ≤ s.length ∧ Hid (TI s pre.length a) ∧ Hid (q = a + blankN (s.drop a)) ∧ Hid (Boxed wr Bn 9 (.string ss)) ∧ Hid (Below n₁ w₀ wr) ∧ Hid (J pre wr))
    (fun i _ => s.length - (intOf i).toNat)
  case atStart => exact ⟨[], 0, b0, rfl, hbl, HI0, HQ0, HBX, HW, H0⟩
  case round =>
    obtain ⟨pre, a, q, rfl, hq, HI, HQ, HB, HBW, HJP⟩ := hrel
    have hcell := HB.out.cell
    by_cases hlt : q < s.length
    · have hlt' : (q : Int) < (ss.size : Int) := by rw [HSZ]; omega
      have hdr := HDR.out q (by omega)
      obtain ⟨c, r, hcr⟩ : ∃ c r, s.drop q = c :: r := ⟨_, _, List.drop_eq_getElem_cons hlt⟩
      have hrl : r.length < 900000 := by
        have := congrArg List.length hcr
        rw [List.length_drop, List.length_cons] at this
        omega
      have KO := Lib.hid (lex_one c r hrl wr (HTW.out.below (hn₁ ▸ HBW.out)))
      rw [← hcr] at KO
      have HCR := Lib.hid hcr
      clear hcr
      generalize S (s.drop q) = sq at *
      gi_wp2_with fail
      refine ⟨trivial, (callsIn_wide.2 KO.out).mono ?_⟩
      rintro e w2 ⟨hone, hb2⟩
      have HO := Lib.hid hone
      obtain ⟨k, m, tx, rr, rfl⟩ := hone.form
      clear hone KO
      have HB2 := Lib.hid hb2
      gi_upto_region 5 with fail
      refine wpIn_world (fun w4 hw4 => ?_)
      have hT4 : TokAt w4 w2.heap.size k (q : Int) tx rr := by
        rw [hw4]
        unfold TokAt World.alloc
        simp
      have hB4 : Below w2.heap.size w2 w4 := by
        rw [hw4]
        exact (Below.refl _ _).alloc (Nat.le_refl _) _
      clear hw4
      have hB42 : Below wr.heap.size wr w4 := HB2.out.trans (hB4.mono HB2.out.size)
      have HBX4 : Hid (Boxed w4 Bn 9 (.string ss)) := Lib.hid ((hB42.block Bn HB.out.lt).trans HB.out)
      have HBW4 : Hid (Below n₁ w₀ w4) := Lib.hid (HBW.out.trans (hB42.mono (hn₁ ▸ HBW.out.size)))
      have hJ4 := HJ.out _ _ _ HJP.out (Turn.of_below B (fun _ => False) hB42)
      obtain ⟨c0, c1, c2, c3, f0, f1, f2, f3⟩ := hT4.cells
      clear hT4 hB4 hB42 HB2
      generalize w2.heap.size = ad at *
      clear hdr hcell
      cases ho : oneT (s.drop q) with
      | none =>
        rw [ho] at HO
        obtain ⟨k', t', r', he⟩ := HO.out.2 rfl
        have hm0 : m = 0 := by
          have h1 : (Value.tuple #[.agg #[.int .i64 k, .int .i64 0, .string tx, .int .i32 rr], .int .i64 m]) = oneA k' 0 t' r' := by injection he
          unfold oneA at h1
          injection h1 with h1
          injection h1 with h1
          injection h1 with _ h1
          injection h1 with h1 _
          injection h1
        subst hm0
        obtain ⟨hs1, hs2⟩ := TI.stop HI.out HQ.out hlt ho
        have hG : GK s pre ((k, (q : Int), tx, rr), false) := ⟨fun h => (by cases h), fun _ => ⟨q, hs1, rfl⟩⟩
        obtain ⟨fn, tmps, assign, body, hy, hR⟩ := HY.out pre _ w4 hJ4 hG
        have HR := Lib.hid hR
        unfold encK at hy
        dsimp only at hy
        clear hR hG hs1 hs2 he HO ho hJ4
        have HN1 := Lib.hid hn
        clear hn
        gi_wp2_with fail
        refine ⟨fun h => absurd h (by decide), HR.out.mono ?_⟩
        have hn := HN1.out
        rintro e W3 (⟨rfl, hJ3, hk3⟩ | ⟨rfl, hJx3⟩)
        · have HJ3 := Lib.hid hJ3
          clear hJ3 hk3
          gi_wp2_with fail
          refine bodyPost_ret (results_none rfl _ _ _) rfl ?_
          exact ⟨⟨_, rfl⟩, .inl ⟨_, .inr ⟨_, List.mem_append_right _ (List.mem_singleton.2 rfl), rfl⟩, HJ3.out⟩⟩
        · have HJ3 := Lib.hid hJx3
          clear hJx3
          gi_wp2_with fail
          refine bodyPost_ret (results_none rfl _ _ _) rfl ?_
          exact ⟨⟨_, rfl⟩, .inr ⟨_, trivial, HJ3.out⟩⟩
      | some o =>
        rw [ho] at HO
        obtain ⟨hk1, hm1, ht1, hr1⟩ : k = o.kind ∧ m = (o.n : Int) ∧ tx = S o.text ∧ rr = o.r := by
          have he := HO.out.1 o rfl
          rw [oneE_some] at he
          have h1 : (Value.tuple #[.agg #[.int .i64 k, .int .i64 0, .string tx, .int .i32 rr], .int .i64 m]) = oneA o.kind o.n (S o.text) o.r := by injection he
          unfold oneA at h1
          injection h1 with h1
          injection h1 with h1
          injection h1 with h1 h2
          injection h2 with h2 _
          injection h1 with h1
          injection h1 with h1
          injection h1 with h3 h1
          injection h1 with _ h1
          injection h1 with h4 h1
          injection h1 with h5 _
          injection h3 with _ h3
          injection h4 with h4
          injection h5 with _ h5
          injection h2 with _ h2
          exact ⟨h3, h2, h4, h5⟩
        have hlen1 := oneT_len ho
        unfold OkOne at hlen1
        rw [List.length_drop] at hlen1
        obtain ⟨hI2, hget⟩ := TI.next HI.out HQ.out ho
        have hG : GK s pre ((k, (q : Int), tx, rr), true) := ⟨fun _ => ⟨_, hget, by rw [hk1, ht1, hr1]; rfl⟩, fun h => (by cases h)⟩
        obtain ⟨fn, tmps, assign, body, hy, hR⟩ := HY.out pre _ w4 hJ4 hG
        have HR := Lib.hid hR
        unfold encK at hy
        dsimp only at hy
        obtain ⟨nn, hnn⟩ : ∃ nn, o.n = nn := ⟨_, rfl⟩
        rw [hnn] at hm1 hlen1 hI2
        subst hm1
        have hpos : (0 : Int) < (nn : Int) := by omega
        have hposn : 0 < nn := by omega
        have hnz : ¬ (nn : Int) = 0 := by omega
        have hnzb : ((nn : Int) == 0) = false := by rw [beq_eq_false_iff_ne]; exact hnz
        have hqn : q + nn ≤ s.length := by omega
        have hdr2 : ∀ W, (Instr.slice 9 (.string ss) (some (.int .i64 ((q : Int) + (nn : Int)))) none none).run Tryz.prog W = .ok (.string (S (s.drop (q + nn)))) W := HDR.out (q + nn) hqn
        have KB2 := Lib.hid (KB.out (s.drop (q + nn)) (by rw [List.length_drop]; omega))
        have hbl2 := blankN_le (s.drop (q + nn))
        rw [List.length_drop] at hbl2
        obtain ⟨b2, hb2⟩ : ∃ b, blankN (s.drop (q + nn)) = b := ⟨_, rfl⟩
        rw [hb2] at KB2 hbl2
        have HQ2 : Hid (q + nn + b2 = (q + nn) + blankN (s.drop (q + nn))) := Lib.hid (by rw [hb2])
        have HI2 : Hid (TI s (pre ++ [((k, (q : Int), tx, rr), true)]).length (q + nn)) := Lib.hid (by rw [List.length_append, List.length_singleton]; exact hI2)
        clear hR hG hget hI2 HO ho hJ4 hk1 ht1 hr1 hnn hlen1 hb2
        generalize S (s.drop (q + nn)) = sd at *
        have HN1 := Lib.hid hn
        clear hn
        gi_wp2_with fail
        refine ⟨fun h => absurd h (by decide), HR.out.mono ?_⟩
        have hn := HN1.out
        rintro e W3 (⟨rfl, hJ3, hk3⟩ | ⟨rfl, hJx3⟩)
        · have HJ3 := Lib.hid hJ3
          have HBX5 : Hid (Boxed W3 Bn 9 (.string ss)) := Lib.hid (hk3.2.trans HBX4.out)
          have HBW5 := Lib.hid (HBW4.out.trans hk3.1)
          have hcell3 := HBX5.out.cell
          clear hJ3 hk3
          gi_wp2_with fail
          refine ⟨trivial, (callsIn_wide.2 (KB2.out _)).mono ?_⟩
          rintro e w5 ⟨rfl, rfl⟩
          gi_wp2_with fail
          go_roundw
          case rel => exact ⟨_, q + nn, q + nn + b2, by go_num, by omega, HI2, HQ2, HBX5, HBW5, HJ3⟩
          case measure => simp [intOf]; omega
        · have HJ3 := Lib.hid hJx3
          clear hJx3
          gi_wp2_with fail
          refine bodyPost_ret (results_none rfl _ _ _) rfl ?_
          exact ⟨⟨_, rfl⟩, .inr ⟨_, trivial, HJ3.out⟩⟩
    · have hge : ¬ (q : Int) < (ss.size : Int) := by rw [HSZ]; omega
      have HD := Lib.hid (TI.done HI.out HQ.out (by omega))
      gi_wp2_with fail
      refine bodyPost_end (results_none rfl _ _ _) rfl ?_
      exact ⟨⟨_, rfl⟩, .inl ⟨pre, .inl ⟨HD.out.1.symm, HD.out.2⟩, HJP.out⟩⟩
/-- lex.tokens(s): the closure captures the box of s. -/
theorem tokens_in (n : Nat) (s : ByteArray) (w : World) :
    CallsIn Fence.wide n Tryz.prog 18 #[.string s] w fun e w' => e = .returned (.func (.func 25) #[] #[.pointer (some ⟨w.heap.size, 0, none⟩)]) ∧ w' = w.alloc (.cells #[.string s] 9) := by
  refine callsIn_of_wp Tryz.func18 rfl trivial ?_ rfl
  simp only [Tryz.ntmps18, List.size_toArray, List.length_cons, List.length_nil, Nat.reduceAdd, Nat.reduceSub, Array.replicate_succ, Array.replicate_zero, List.push_toArray, List.append_toArray, List.nil_append, List.cons_append]
  gi_wp2
  go_ret
  exact ⟨rfl, rfl⟩
/-- THE ITERATOR's CONTRACT. -/
theorem tokens_seq (n Bn n₁ : Nat) (hn : 1 ≤ n) (w₀ w : World) (s : List UInt8) (hn₁ : n₁ = w₀.heap.size) (hlen : s.length ≤ 800000) (hT : Tabs w₀) (hW : Below n₁ w₀ w) (hbox : Boxed w Bn 9 (.string (S s))) :
    SeqT n Tryz.prog 25 #[.pointer (some ⟨Bn, 0, none⟩)] encK (fun pre x _ => GK s pre x) (fun _ => False) (SKt n₁ Bn)
      (fun ys => (ys.length = (tk 0 s).1.length ∧ (tk 0 s).2 = none) ∨ ∃ x ∈ ys, x.2 = false) (fun _ => True) w := fun l J Jx W hb hJ _ hY h0 =>
  tokens1_in n l Bn n₁ W.heap.size hn w₀ s hn₁ hlen hT J Jx hJ hY W (hW.trans (hb.mono (hn₁ ▸ hW.size))) ((hb.block Bn hbox.lt).trans hbox) h0
end Go.Proofs.YtekpmpghbeeeoaaGreatDoor
