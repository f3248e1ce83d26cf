import Derived.Test.YtaccjifhgohfpaaDoorTagBytes
import Derived.Test.YtaccjifhgohfpaaDoorTagKnown
/- The walk of the law TagClimbs. -/
namespace Go.Proofs.YtaccjifhgohfpaaDoor
open Go.RowKit Go.Shelf Go.Proofs.YtaccjifhgohfpaaDoorW.PrintWords Go.Proofs.YtaccjifhgohfpaaDoorW.PrintMore

/-- How many steps are left to root. -/
def stepsTo : Value → Nat
  | .string s => if s.data.toList = rootL then 0 else (splitL s.data.toList).length
  | _ => 0
theorem stepsTo_root : stepsTo (.string (S rootL)) = 0 := by
  have : (S rootL).data.toList = rootL := rfl
  unfold stepsTo
  simp only [this, if_true]
theorem Tg.steps {us : List (List UInt8)} (h : Tg us) : stepsTo (.string (S (joinL us))) = us.length := by
  show (if joinL us = rootL then 0 else (splitL (joinL us)).length) = _
  rw [if_neg h.not_root, h.split]
/-- What holds at the head of a round. -/
def ClimbI (n : Nat) (c : List UInt8) (k : Nat) : Prop := c = rootL ∨ ∃ us, Tg us ∧ c = joinL us ∧ k + us.length ≤ n

theorem is_yes {l : List UInt8} (h : isC l = true) (w : World) (hM : ML w) : Calls Tryd.prog 24 #[.string (S l)] w fun e w' => e = .returned (.bool true) ∧ Below w.heap.size w w' := h ▸ tag_is l w hM
theorem is_no {l : List UInt8} (h : isC l = false) (w : World) (hM : ML w) : Calls Tryd.prog 24 #[.string (S l)] w fun e w' => e = .returned (.bool false) ∧ Below w.heap.size w w' := h ▸ tag_is l w hM

set_option maxRecDepth 100000 in
set_option maxHeartbeats 4000000 in
theorem tagClimbs_walk (a0 : ByteArray) (w : World) (hM : ML w) (hs : a0.size ≤ 140737488351232) :
    Calls Tryd.prog 9 #[.string a0] w fun e w' => e = .returned (.bool true) ∧ Below w.heap.size w w' := by
  obtain ⟨l, rfl⟩ : ∃ l, a0 = S l := ⟨a0.data.toList, (S_of a0).symm⟩
  rw [S_size] at hs
  have HM := Lib.hid hM
  have KN := Lib.hid (law9_known w hM)
  have q4 := S_nil
  clear hM
  cases hc : canonL l with
  | none =>
    have K1 := Lib.hid (fun W h => canon_no hc W h)
    have K2 := Lib.hid (fun W h => parent_to (l := l) (c := []) (by unfold parentL isC; rw [hc]; simp) hs W h)
    clear hc hs
    go_enter Tryd.func9, Tryd.ntmps9
    go_wp2_with fail
    refine KN.out.mono ?_
    rintro e w1 ⟨rfl, hb⟩
    have HB1 := Lib.hid hb
    clear hb
    go_wp2_with fail
    refine (K1.out w1 (HM.out.below HB1.out)).mono ?_
    rintro e w2 ⟨rfl, hb⟩
    have HB2 := Lib.hid (HB1.out.trans (hb.mono HB1.out.size))
    clear hb
    go_wp2_with fail
    refine (K2.out w2 (HM.out.below HB2.out)).mono ?_
    rintro e w3 ⟨rfl, hb⟩
    have HB3 := Lib.hid (HB2.out.trans (hb.mono HB2.out.size))
    clear hb
    go_wp2
    go_ret
    exact ⟨rfl, HB3.out⟩
  | some c =>
    have hl := canon_len hc
    have K1 := Lib.hid (fun W h => canon_yes hc W h)
    have K2 := Lib.hid (fun W h => canon_yes (l := l.map turnU) (c := c) (by rw [canon_turn]; exact hc) W h)
    have hc2 := canon_again hc
    have K3 := Lib.hid (fun W h => canon_yes hc2 W h)
    have hi := (isC_iff c).2 hc2
    have K4 := Lib.hid (fun W h => is_yes hi W h)
    obtain ⟨n, hn⟩ : ∃ n, (partsL c).length = n := ⟨_, rfl⟩
    have K5 := Lib.hid (fun W h => parts_len hn W h)
    have KT := Lib.hid (fun W => law_turned l (by omega) W)
    have hn41 : n ≤ 41 := by
      have h1 := isC_len hi
      have h2 := split_count c
      unfold partsL at hn
      rw [hi, if_pos rfl] at hn
      omega
    have HI0 : Hid (ClimbI n c 0) := Lib.hid (by
      rcases isC_cases hi with h | ⟨us, h1, h2⟩
      · exact .inl h
      · refine .inr ⟨us, h1, h2, ?_⟩
        rw [h2, h1.parts] at hn
        omega)
    clear hc hc2 hi hn hs hl
    go_enter Tryd.func9, Tryd.ntmps9
    go_wp2_with fail
    refine KN.out.mono ?_
    rintro e w1 ⟨rfl, hb⟩
    have HB1 := Lib.hid hb
    clear hb
    go_wp2_with fail
    refine (K1.out w1 (HM.out.below HB1.out)).mono ?_
    rintro e w2 ⟨rfl, hb⟩
    have HB2 := Lib.hid (HB1.out.trans (hb.mono HB1.out.size))
    clear hb
    go_wp2_with fail
    refine (KT.out w2).mono ?_
    rintro e w3 ⟨rfl, hb⟩
    have HB3 := Lib.hid (HB2.out.trans (hb.mono HB2.out.size))
    clear hb
    go_wp2_with fail
    refine (K2.out w3 (HM.out.below HB3.out)).mono ?_
    rintro e w4 ⟨rfl, hb⟩
    have HB4 := Lib.hid (HB3.out.trans (hb.mono HB3.out.size))
    clear hb
    go_wp2_with fail
    refine (K3.out w4 (HM.out.below HB4.out)).mono ?_
    rintro e w5 ⟨rfl, hb⟩
    have HB5 := Lib.hid (HB4.out.trans (hb.mono HB4.out.size))
    clear hb
    go_wp2_with fail
    refine (K4.out w5 (HM.out.below HB5.out)).mono ?_
    rintro e w6 ⟨rfl, hb⟩
    have HB6 := Lib.hid (HB5.out.trans (hb.mono HB5.out.size))
    clear hb
    go_wp2_with fail
    refine (K5.out w6 (HM.out.below HB6.out)).mono ?_
    rintro e w7 ⟨A, cap, rfl, hb⟩
    have HB7 := Lib.hid (HB6.out.trans (hb.mono HB6.out.size))
    clear hb K1 K2 K3 K4 K5 KT KN HB1 HB2 HB3 HB4 HB5 HB6 q4
    go_wp2_with fail
    go_loopw [3, 10] (fun t i wr => ∃ (c' : List UInt8) (k : Nat), t = .string (S c') ∧ i = .int .i64 (k : Int) ∧ ClimbI n c' k ∧ Below w.heap.size w wr) (fun t _ _ => stepsTo t)
    case atStart => exact ⟨c, 0, rfl, rfl, HI0.out, HB7.out⟩
    case round =>
      obtain ⟨c', k, rfl, rfl, hI, hB⟩ := hrel
      have HB := Lib.hid hB
      have hr := S_eq c' rootL
      rw [show (S rootL).toList = [114, 111, 111, 116] from by first | rfl | decide +kernel] at hr
      clear hB HB7 HI0
      rcases hI with h | ⟨us, hT, hcu, hk⟩
      · rw [decide_eq_true h] at hr
        clear h
        go_wp2
        go_ret
        exact ⟨rfl, HB.out⟩
      · have hpos := List.length_pos_iff.2 hT.ne
        rw [decide_eq_false (by rw [hcu]; exact hT.not_root)] at hr
        have hlc : c'.length ≤ 140737488351232 := by have := hT.len; rw [hcu]; omega
        have hgt : ¬ (n : Int) < (k : Int) := by omega
        have hkk : (k : Int) ≤ 41 := by omega
        have HSt := Lib.hid hT.steps
        by_cases h1 : us.length = 1
        · have K6 := Lib.hid (fun W h => parent_to (l := c') (c := rootL) (by rw [hcu, hT.parent, if_pos h1]) hlc W h)
          have K7 := Lib.hid (fun W h => is_yes isC_root W h)
          have q3 : ((S rootL).toList == [114, 111, 111, 116]) = true := by decide +kernel
          have Hcu := Lib.hid hcu
          have HT := Lib.hid hT
          clear hcu hT h1
          go_wp2_with fail
          refine (K6.out wr (HM.out.below HB.out)).mono ?_
          rintro e v1 ⟨rfl, hb⟩
          have HV1 := Lib.hid (HB.out.trans (hb.mono HB.out.size))
          clear hb
          go_wp2_with fail
          refine (K7.out v1 (HM.out.below HV1.out)).mono ?_
          rintro e v2 ⟨rfl, hb⟩
          have HV2 := Lib.hid (HV1.out.trans (hb.mono HV1.out.size))
          clear hb
          go_wp2_with fail
          go_roundw
          case rel => exact ⟨rootL, k + 1, rfl, by go_num, .inl rfl, HV2.out⟩
          case measure => rw [stepsTo_root, Hcu.out, HSt.out]; exact hpos
        · have hD := hT.drop h1
          obtain ⟨p, hp⟩ : ∃ p, joinL us.dropLast = p := ⟨_, rfl⟩
          obtain ⟨m, hm⟩ : ∃ m, us.dropLast.length = m := ⟨_, rfl⟩
          obtain ⟨m1, hm1⟩ : ∃ m1, us.length = m1 := ⟨_, rfl⟩
          have hmm : m + 1 = m1 := by rw [← hm, ← hm1, List.length_dropLast]; omega
          have hne : ((m : Int) != (m1 : Int) - 1) = false := by rw [bne_eq_false_iff_eq]; omega
          have hm2 : (1 : Int) ≤ (m1 : Int) := by omega
          have hm3 : (m1 : Int) ≤ 41 := by omega
          have K6 := Lib.hid (fun W h => parent_to (l := c') (c := p) (by rw [hcu, hT.parent, if_neg h1, hp]) hlc W h)
          have K7 := Lib.hid (fun W h => is_yes (l := p) (by rw [← hp]; exact hD.isC) W h)
          have hr2 := S_eq p rootL
          rw [show (S rootL).toList = [114, 111, 111, 116] from by first | rfl | decide +kernel, decide_eq_false (by rw [← hp]; exact hD.not_root)] at hr2
          have K8 := Lib.hid (fun W h => parts_len (l := p) (n := m) (by rw [← hp, hD.parts, hm]) W h)
          have K9 := Lib.hid (fun W h => parts_len (l := c') (n := m1) (by rw [hcu, hT.parts, hm1]) W h)
          have HRel : Hid (ClimbI n p (k + 1)) := Lib.hid (.inr ⟨us.dropLast, hD, hp.symm, by omega⟩)
          have HMs : Hid (stepsTo (.string (S p)) < stepsTo (.string (S c'))) := Lib.hid (by rw [← hp, hD.steps, hcu, hT.steps]; omega)
          clear hcu hT h1 hD hp hm hm1 hmm HSt
          go_wp2_with fail
          refine (K6.out wr (HM.out.below HB.out)).mono ?_
          rintro e v1 ⟨rfl, hb⟩
          have HV1 := Lib.hid (HB.out.trans (hb.mono HB.out.size))
          clear hb
          go_wp2_with fail
          refine (K7.out v1 (HM.out.below HV1.out)).mono ?_
          rintro e v2 ⟨rfl, hb⟩
          have HV2 := Lib.hid (HV1.out.trans (hb.mono HV1.out.size))
          clear hb
          go_wp2_with fail
          refine (K8.out v2 (HM.out.below HV2.out)).mono ?_
          rintro e v3 ⟨A3, cap3, rfl, hb⟩
          have HV3 := Lib.hid (HV2.out.trans (hb.mono HV2.out.size))
          clear hb
          go_wp2_with fail
          refine (K9.out v3 (HM.out.below HV3.out)).mono ?_
          rintro e v4 ⟨A4, cap4, rfl, hb⟩
          have HV4 := Lib.hid (HV3.out.trans (hb.mono HV3.out.size))
          clear hb
          go_wp2_with fail
          go_roundw
          case rel => exact ⟨p, k + 1, rfl, by go_num, HRel.out, HV4.out⟩
          case measure => exact HMs.out
end Go.Proofs.YtaccjifhgohfpaaDoor
