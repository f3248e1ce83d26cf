import Derived.Test.YtekpmpghbeeeoaaGreatDoorIter
import Derived.Test.YtekpmpghbeeeoaaGreatDoorRound
import Derived.Test.YtekpmpghbeeeoaaGreatDoorUtfMath
import Derived.Test.YtekpmpghbeeeoaaGreatDoorUtfShelf
import Derived.Shelf.Spec.DecodeRune
import Derived.Lib.TrimUEq
/- utf.steps as an iterator. -/
namespace Go.Proofs.YtekpmpghbeeeoaaGreatDoor
open Go.RowKit Go.Shelf Go.Proofs.YtekpmpghbeeeoaaGreatDoorW.PrintWords Go.Proofs.YtekpmpghbeeeoaaGreatDoorW.PrintMore

attribute [local go_sem] Oper.semAt_some

/-- unicode/utf8's two tables. -/
def Tabs (w : World) : Prop := Lib.Utf8Tabs 2 3 w
theorem Tabs.below {w w1 : World} (h : Tabs w) (hb : Below w.heap.size w w1) : Tabs w1 :=
  ⟨fun c hc => pw_cell_below hb (h.1 c hc), fun i hi => ⟨pw_cell_below hb (h.2 i hi).1, pw_cell_below hb (h.2 i hi).2⟩⟩

/-- What is read of v is read of u, in every world. -/
def Tr (v : Value) (xs : List Int) (u : Value) (ys : List Int) : Prop := ∀ W : World, RdB W v xs → RdB W u ys
/-- xs[j:], and what is read of it in every world. -/
theorem cut_fromT {A : Option Addr} {c : Nat} {xs : List Int} (hc : xs.length ≤ c) (kl : IntKind) (j : Int) (h0 : 0 ≤ j) (h1 : j ≤ xs.length) :
    ∃ (ds : List Int) (A' : Option Addr) (c' : Nat), ds = xs.drop j.toNat ∧ (∀ W : World, (Instr.slice 39 (.slice A xs.length c) (some (.int kl j)) none none).run Tryz.prog W = .ok (.slice A' ds.length c') W) ∧ (∀ W : World, ReadsInt W .u8 A xs.length xs → RdB W (.slice A' ds.length c') ds) ∧ (ds.length : Int) = xs.length - j := by
  obtain ⟨i8, hi8, hz8, hs8, hb8⟩ := info_parts info8
  obtain ⟨A', hd1, hd2, hd3⟩ := print_drop_of (P := Tryz.prog) (Value.int .u8) (0 : Int) 39 5 kl Tryz.underlying39 hi8 hs8 A c xs j h0 h1 hc
  exact ⟨_, A', _, rfl, hd1, fun W hr => ⟨A', _, rfl, hd3, hd2 W hr⟩, by rw [List.length_drop]; omega⟩
theorem By.drop {xs : List Int} (h : By xs) (k : Nat) : By (xs.drop k) := fun x hx => h x (List.mem_of_mem_drop hx)
theorem By.take {xs : List Int} (h : By xs) (k : Nat) : By (xs.take k) := fun x hx => h x (List.mem_of_mem_take hx)
theorem By.append {xs ys : List Int} (h : By xs) (h' : By ys) : By (xs ++ ys) := fun x hx => (List.mem_append.1 hx).elim (h x) (h' x)

theorem nums_get {bs : List Int} (h : By bs) (j : Nat) : ((strOfNums bs).get! j).toNat = (bs.getD j 0).toNat := by
  rw [← Lib.getD_get!', strOfNums_data]
  rcases Nat.lt_or_ge j bs.length with hj | hj
  · have hb := h.at_ hj
    simp only [List.getD_eq_getElem?_getD, List.getElem?_map, List.getElem?_eq_getElem hj, Option.map_some, Option.getD_some] at hb ⊢
    show (UInt8.ofNat _).toNat = _
    rw [UInt8.toNat_ofNat']
    omega
  · simp [List.getD_eq_getElem?_getD, List.getElem?_eq_none hj]
theorem decodeGo_dec {bs : List Int} (h : By bs) (hne : bs ≠ []) : Lib.decodeGo (strOfNums bs) = dec bs := by
  have hl := List.length_pos_iff.2 hne
  unfold Lib.decodeGo
  rw [strOfNums_size, if_neg (by omega), Lib.decode_at, strOfNums_size, nums_get h, nums_get h, nums_get h, nums_get h]
  rfl

theorem decode_row (v : Value) (bs : List Int) (w : World) (hT : Tabs w) (hr : RdB w v bs) (hby : By bs) (hne : bs ≠ []) :
    Calls Tryz.prog 97 #[v] w fun e w' => e = .returned (.tuple #[.int .i32 ((dec bs).1 : Int), .int .i64 ((dec bs).2 : Int)]) ∧ Below w.heap.size w w' := by
  obtain ⟨A, c, rfl, hc, hl, hm, hrd⟩ := hr
  have hpos := List.length_pos_iff.2 hne
  obtain ⟨ad, rfl, hcell⟩ := hrd hpos
  have h0 := hcell 0 hpos
  rw [show ad.add 0 = ad from if_pos rfl] at h0
  have hsp : ad.spot = none := by
    cases hs : ad.spot with
    | none => rfl
    | some x =>
      unfold World.cell? at h0
      cases ho : w.heap[ad.block]? with
      | none => rw [ho] at h0; cases h0
      | some o => rw [ho] at h0; cases o <;> simp [hs] at h0
  obtain ⟨b, off, sp⟩ := ad
  dsimp only at hsp
  subst hsp
  have key := Any7.utf8_DecodeRune TryzlayDec (strOfNums bs) b off c w hT (fun j hj => by
    rw [strOfNums_size] at hj
    have h1 := hcell j hj
    rw [nums_get hby]
    have hb := hby.at_ hj
    rw [Int.toNat_of_nonneg hb.1]
    rcases Nat.eq_zero_or_pos j with h | h
    · subst h
      exact h0
    · rwa [show (⟨b, off, none⟩ : Addr).add j = ⟨b, off + j, none⟩ from if_neg (by omega)] at h1)
  rw [strOfNums_size, decodeGo_dec hby hne] at key
  exact key

def encS (x : Stp) : Array Value := #[.agg #[.int .i32 x.1, .int .i64 (x.2.1 : Int), .bool x.2.2]]
def SKp (n₁ Bn : Nat) (X Y : World) : Prop := Below n₁ X Y ∧ Y.heap[Bn]? = X.heap[Bn]?

set_option maxRecDepth 100000 in
set_option maxHeartbeats 1000000 in
theorem steps1_in (n l Bn n₁ B : Nat) (w₀ : World) (A : Option Addr) (c : Nat) (bs : List Int) (hn₁ : n₁ = w₀.heap.size) (hr : RdB w₀ (.slice A bs.length c) bs) (hby : By bs) (hT : Tabs w₀) (J Jx : List Stp → World → Prop)
    (hJ : ∀ s X Y, J s X → Turn B (fun _ => False) X Y → J s Y)
    (hY : ∀ pre x W1, J pre W1 → (pre ++ [x]) <+: steps 0 bs → YieldAt Fence.wide (n - 1) Tryz.prog l (encS x) W1 fun e W' =>
      (e = .returned (.bool true) ∧ J (pre ++ [x]) W' ∧ SKp n₁ Bn W1 W') ∨ (e = .returned (.bool false) ∧ Jx (pre ++ [x]) W'))
    (W : World) (hW : Below n₁ w₀ W) (hbox : Boxed W Bn 39 (.slice A bs.length c)) (h0 : J [] W) :
    CallsIn Fence.wide n Tryz.prog 96 #[.func (.yield l) #[] #[], .pointer (some ⟨Bn, 0, none⟩)] W fun e W' => (∃ v, e = .returned v) ∧
      ((∃ ys : List Stp, ys = steps 0 bs ∧ J ys W') ∨ (∃ pre, pre <+: steps 0 bs ∧ Jx pre W')) := by
  refine callsIn_of_wp Tryz.func96 rfl trivial ?_ rfl
  simp only [Tryz.ntmps96, List.size_toArray, List.length_cons, List.length_nil, Nat.reduceAdd, Nat.reduceSub, Array.replicate_succ, Array.replicate_zero, List.push_toArray, List.append_toArray, List.nil_append, List.cons_append]
  have hr0 := Lib.hid hr
  obtain ⟨A', c', he, hcap, hread⟩ := hr
  injection he with e1 _ e3
  subst e1 e3
  have hml := hread.2.1
  have Hr := Lib.hid hread
  clear hread
  gi_wp2
  gi_loopw [3] (fun i wr => ∃ (pre : List Stp) (p : Nat), p ≤ bs.length ∧ i = .int .i64 (p : Int) ∧ steps 0 bs = pre ++ steps p (bs.drop p) ∧ Boxed wr Bn 39 (.slice A bs.length c) ∧ Below n₁ w₀ wr ∧ J pre wr)
    (fun i _ => bs.length - (intOf i).toNat)
  case atStart =>
    exact ⟨[], 0, Nat.zero_le _, rfl, by simp, hbox, hW, h0⟩
  case round =>
    obtain ⟨pre, p, hp, rfl, hst, hb, hB, hj⟩ := hrel
    have hcell := hb.cell
    have HB := Lib.hid hB
    have HJ := Lib.hid hj
    have Hb := Lib.hid hb
    have HS := Lib.hid hst
    clear hB hj hb hst
    by_cases hlt : p < bs.length
    · obtain ⟨ds, A1, c1, hds, hd1, hdT, hd3⟩ := cut_fromT hcap .i64 (p : Int) (by omega) (by omega)
      rw [Int.toNat_natCast] at hds
      have hne : ds ≠ [] := by intro e; rw [e] at hd3; simp at hd3; omega
      have hrw := hdT wr (ReadsInt.below Hr.out (hn₁ ▸ HB.out))
      have hwid := dec_width hne
      have hdec := Lib.hid (decode_row (.slice A1 ds.length c1) ds wr (hT.below (hn₁ ▸ HB.out)) hrw (hds ▸ hby.drop _) hne)
      have HS2 : Hid (steps 0 bs = (pre ++ [(((dec ds).1 : Int), p, isGood (dec ds))]) ++ steps (p + (dec ds).2) (bs.drop (p + (dec ds).2))) := Lib.hid (by
        rw [HS.out, ← hds, steps_cons p hne, hds, List.drop_drop]
        simp)
      obtain ⟨d, hd⟩ : ∃ d, dec ds = d := ⟨_, rfl⟩
      rw [hd] at hdec HS2 hwid
      obtain ⟨r, k⟩ := d
      dsimp only at hdec HS2 hwid
      have hg1 : (r : Int) = 65533 → isGood (r, k) = decide ((1 : Int) < (k : Int)) := fun h => by
        unfold isGood
        rw [decide_eq_decide]
        constructor
        · rintro (h' | h')
          · exact absurd (by omega) h'
          · dsimp only at h'; omega
        · intro h'; exact .inr (by dsimp only; omega)
      have hg2 : (r : Int) ≠ 65533 → isGood (r, k) = true := fun h => by
        unfold isGood
        rw [decide_eq_true_iff]
        exact .inl (by dsimp only; omega)
      obtain ⟨g, hg⟩ : ∃ g, isGood (r, k) = g := ⟨_, rfl⟩
      rw [hg] at hg1 hg2 HS2
      obtain ⟨ri, hri⟩ : ∃ ri : Int, (r : Int) = ri := ⟨_, rfl⟩
      rw [hri] at hg1 hg2 HS2 hdec
      have Hg1 := Lib.hid hg1
      have Hg2 := Lib.hid hg2
      clear hg1 hg2 hg hri
      obtain ⟨hk1, hk2, hk4⟩ := hwid
      have Hk : Hid (p + k ≤ bs.length) := Lib.hid (by omega)
      clear hds hdT hrw hd hne HS
      gi_wp2_with fail
      refine ⟨trivial, fun h => absurd h (by decide), (callsIn_wide.2 hdec.out).mono ?_⟩
      rintro e w2 ⟨rfl, hb2⟩
      have ht2 : Turn B (fun _ => False) wr w2 := Turn.of_below _ _ hb2
      have hj2 := hJ _ _ _ HJ.out ht2
      obtain ⟨fn, tmps, assign, body, hy, hR⟩ := hY pre (ri, p, g) w2 hj2 ⟨_, HS2.out.symm⟩
      have hbx2 : w2.heap[Bn]? = wr.heap[Bn]? := hb2.block Bn Hb.out.lt
      have HB2 := Lib.hid (HB.out.trans (hb2.mono (hn₁ ▸ HB.out.size)))
      have HX2 := Lib.hid hbx2
      have HR := Lib.hid hR
      unfold encS at hy
      dsimp only at hy
      have hkl := Hk.out
      clear hbx2 ht2 hj2 hR hdec
      by_cases hr1 : ri = 65533
      · have hr2 : (ri != 65533) = false := by rw [hr1]; rfl
        rw [Hg1.out hr1] at hy
        have Hr1 := Lib.hid hr1
        clear hr1
        gi_wp2_with fail
        refine ⟨fun h => absurd h (by decide), HR.out.mono ?_⟩
        rintro e W3 (⟨rfl, hJ3, hk3⟩ | ⟨rfl, hJx3⟩)
        · gi_wp2
          go_roundw
          case rel =>
            exact ⟨_, p + k, Hk.out, by go_num, HS2.out, (hk3.2.trans HX2.out).trans Hb.out, HB2.out.trans hk3.1, hJ3⟩
          case measure => simp [intOf]; omega
        · gi_wp2
          refine bodyPost_ret (results_none rfl _ _ _) rfl ?_
          exact ⟨⟨_, rfl⟩, .inr ⟨_, ⟨_, HS2.out.symm⟩, hJx3⟩⟩
      · have hr2 : (ri != 65533) = true := by rw [bne_iff_ne]; exact hr1
        rw [Hg2.out hr1] at hy
        clear hr1
        gi_wp2_with fail
        refine ⟨fun h => absurd h (by decide), HR.out.mono ?_⟩
        rintro e W3 (⟨rfl, hJ3, hk3⟩ | ⟨rfl, hJx3⟩)
        · gi_wp2
          go_roundw
          case rel =>
            exact ⟨_, p + k, Hk.out, by go_num, HS2.out, (hk3.2.trans HX2.out).trans Hb.out, HB2.out.trans hk3.1, hJ3⟩
          case measure => simp [intOf]; omega
        · gi_wp2
          refine bodyPost_ret (results_none rfl _ _ _) rfl ?_
          exact ⟨⟨_, rfl⟩, .inr ⟨_, ⟨_, HS2.out.symm⟩, hJx3⟩⟩
    · have hpl : p = bs.length := by omega
      have Hpl := Lib.hid hpl
      have hge : (bs.length : Int) ≤ (p : Int) := by omega
      clear hpl hlt
      gi_wp2
      go_end0
      exact ⟨⟨_, rfl⟩, .inl ⟨pre, by rw [HS.out, Hpl.out, List.drop_length, steps_nil, List.append_nil], HJ.out⟩⟩

/-- utf.steps(b): the closure captures the box of b. -/
theorem steps_in (n : Nat) (A : Option Addr) (k c : Nat) (w : World) :
    CallsIn Fence.wide n Tryz.prog 79 #[.slice A k c] w fun e w' => e = .returned (.func (.func 96) #[] #[.pointer (some ⟨w.heap.size, 0, none⟩)]) ∧ w' = w.alloc (.cells #[.slice A k c] 39) := by
  refine callsIn_of_wp Tryz.func79 rfl trivial ?_ rfl
  simp only [Tryz.ntmps79, List.size_toArray, List.length_cons, List.length_nil, Nat.reduceAdd, Nat.reduceSub, Array.replicate_succ, Array.replicate_zero, List.push_toArray, List.append_toArray, List.nil_append, List.cons_append]
  gi_wp2
  go_ret
  exact ⟨rfl, rfl⟩

/-- THE ITERATOR's CONTRACT. -/
theorem steps_seq (n Bn n₁ : Nat) (w₀ w : World) (A : Option Addr) (c : Nat) (bs : List Int) (hn₁ : n₁ = w₀.heap.size) (hr : RdB w₀ (.slice A bs.length c) bs) (hby : By bs) (hT : Tabs w₀) (hW : Below n₁ w₀ w) (hbox : Boxed w Bn 39 (.slice A bs.length c)) :
    SeqT n Tryz.prog 96 #[.pointer (some ⟨Bn, 0, none⟩)] encS (fun pre x _ => (pre ++ [x]) <+: steps 0 bs) (fun _ => False) (SKp n₁ Bn)
      (fun ys => ys = steps 0 bs) (fun pre => pre <+: steps 0 bs) w := fun l J Jx W hb hJ _ hY h0 =>
  steps1_in n l Bn n₁ W.heap.size w₀ A c bs hn₁ hr hby hT J Jx hJ hY W (hW.trans (hb.mono (hn₁ ▸ hW.size))) ((hb.block Bn hbox.lt).trans hbox) h0
end Go.Proofs.YtekpmpghbeeeoaaGreatDoor
