import Derived.Test.YtaccjifhgohfpaaDoorUtfRefRunes
import Derived.Test.YtaccjifhgohfpaaDoorHeld2
/- UtfTells: every bytes' code points and their places; every code points' bytes. -/
namespace Go.Proofs.YtaccjifhgohfpaaDoor
open Go.RowKit Go.Shelf Go.Proofs.YtaccjifhgohfpaaDoorW.PrintWords Go.Proofs.YtaccjifhgohfpaaDoorW.PrintMore

theorem held_rebased {P : Program} {ops : Array Oper} {Q : Exit → Act → World → Prop} {md : Region.Mode} {S S' : World → Prop} (hS : ∀ w, S' w → S w) :
    ∀ (fuel : Nat) (listed : Array Bool) (a : Act) (w : World), wpAnyH P md ops Q S' fuel listed a w → wpAnyH P md ops Q S fuel listed a w
  | 0, _, _, _, h => h
  | fuel + 1, _, _, _, h => ⟨h.1, fun i hi => wpOp_mono (fun a' w' h' => ⟨hS _ h'.1, held_rebased hS fuel _ a' w' h'.2⟩) (h.2 i hi)⟩

set_option maxHeartbeats 8000000 in
set_option maxRecDepth 100000 in
theorem utfTells_walk (v : Value) (bs : List Int) (v' : Value) (ls : List Int) (w : World) (hT : Tabs w) (hr : RdB w v bs) (hby : By bs) (_hz : bs.length ≤ 140737488351232) (hr2 : RdN .i32 w v' ls) (hi : I32 ls) :
    Calls Tryd.prog 3 #[v, v'] w fun e w' => e = .returned (.bool true) ∧ Below w.heap.size w w' := by
  have HT := Lib.hid hT
  have Hr0 := Lib.hid hr
  have Hr2 := Lib.hid hr2
  obtain ⟨A, c, rfl, hcap, hread⟩ := hr
  obtain ⟨A2, c2, rfl, hcap2, hread2⟩ := hr2
  have Hr := Lib.hid hread
  have hml2 := hread2.2.1
  clear hread hread2 hT
  by_cases h4 : 400 < bs.length
  · go_enter Tryd.func3, Tryd.ntmps3
    go_wp2_with (go_at_call 13; refine (known2 _ HT.out).mono ?_; rintro e w1 ⟨rfl, hb1⟩)
    go_ret
    exact ⟨rfl, hb1⟩
  by_cases h5 : 200 < ls.length
  · go_enter Tryd.func3, Tryd.ntmps3
    go_wp2_with (go_at_call 13; refine (known2 _ HT.out).mono ?_; rintro e w1 ⟨rfl, hb1⟩)
    go_ret
    exact ⟨rfl, hb1⟩
  have Hlen : Hid (bs.length ≤ 1000000) := Lib.hid (by omega)
  have Hlen2 : Hid (bs.length ≤ 1000000000000) := Lib.hid (by omega)
  have Hls : Hid (ls.length ≤ 1000000000000) := Lib.hid (by omega)
  have Hl1 : Hid ((([] : List Int).length + bs.length) * 1 ≤ 140737488355328) := Lib.hid (by simp; omega)
  have HLL := Lib.hid (runes_length bs)
  have hpl : (places bs).length ≤ bs.length := by simp [places]; exact steps_length_le 0 bs
  have HBY := Lib.hid hby
  have HI := Lib.hid hi
  obtain ⟨RS, hRS⟩ : ∃ RS, runes bs = RS := ⟨_, rfl⟩
  obtain ⟨PS, hPS⟩ : ∃ PS, places bs = PS := ⟨_, rfl⟩
  obtain ⟨G, hG⟩ : ∃ G, allGood bs = G := ⟨_, rfl⟩
  obtain ⟨F, hF⟩ : ∃ F, encs' ls = F := ⟨_, rfl⟩
  have HRS := Lib.hid hRS
  have HPS := Lib.hid hPS
  have HG := Lib.hid hG
  have HF := Lib.hid hF
  rw [hRS, hPS] at HLL
  rw [hPS] at hpl
  clear hRS hPS hG hF hby hi hcap2
  go_enter Tryd.func3, Tryd.ntmps3
  go_wp2_with (first
    | (go_at_call 13; refine (known2 _ HT.out).mono ?_; rintro e w1 ⟨rfl, hb1⟩; have HB1 := Lib.hid hb1; have Hrd1 := Lib.hid (Hr.out.below hb1); clear hb1)
    | (at_builtin; refine print_append_row (w0 := w1) w1.heap.size rfl _ _ _ _ .u8 1 rfl Tryd.underlying22 info8 (by omega) (.slice none 0 0) [] bs A bs.length c rfl rfl (own_nil _ _ _ _) Hrd1.out (Below.refl _ _) (Nat.le_refl _) Hl1.out ?_; intro v2 w2 ho2 hb2 hg2 hat2))
  rw [List.nil_append] at ho2
  have HB2 := Lib.hid (HB1.out.trans (hb2.mono HB1.out.size))
  refine (utf_runes _ bs w2 (HT.out.below HB2.out) (OwnB.rd ho2) HBY.out Hlen2.out).mono ?_
  unfold RunesP
  rw [HRS.out, HPS.out]
  rintro e w3 ⟨u3, p3, rfl, hu3, hp3, hb3⟩
  have HB3 := Lib.hid (HB2.out.trans (hb3.mono HB2.out.size))
  have HU3 := Lib.hid (OwnN.rd hu3)
  have HP3 := Lib.hid (OwnN.rd hp3)
  clear ho2 hb2 hg2 hat2 hu3 hp3 hb3 Hrd1
  go_wp2_with fail
  refine (ref_runes A c bs w3 (Hr0.out.below HB3.out) HBY.out Hlen.out).mono ?_
  rw [HRS.out, HPS.out, HG.out]
  rintro e w4 ⟨u4, p4, rfl, hu4, hp4, hb4⟩
  have HB4 := Lib.hid (HB3.out.trans (hb4.mono HB3.out.size))
  have HU3' := Lib.hid (HU3.out.below hb4)
  have HP3' := Lib.hid (HP3.out.below hb4)
  have HU4 := Lib.hid (OwnN.rd hu4)
  have HP4 := Lib.hid (OwnN.rd hp4)
  clear hu4 hp4 hb4 HU3 HP3
  go_wp2_with fail
  refine (same_is _ _ RS RS w4 HU3'.out HU4.out).mono ?_
  rintro e w5 ⟨he, hb5⟩
  rw [decide_eq_true rfl] at he
  subst he
  have HB5 := Lib.hid (HB4.out.trans (hb5.mono HB4.out.size))
  obtain ⟨Ap, cp, rfl, hcp, hrp⟩ := HP3'.out.below hb5
  obtain ⟨Aq, cq, rfl, hcq, hrq⟩ := HP4.out.below hb5
  have hml := hrp.2.1
  have HRP := Lib.hid hrp
  have HRQ := Lib.hid hrq
  clear hb5 hrp hrq HU3' HU4 HP3' HP4
  go_wp2_with fail
  refine (utf_good _ bs w5 (HT.out.below HB5.out) (Hr0.out.below HB5.out) HBY.out).mono ?_
  rw [HG.out]
  rintro e w6 ⟨rfl, hb6⟩
  have HB6 := Lib.hid (HB5.out.trans (hb6.mono HB5.out.size))
  have HRP6 := Lib.hid (HRP.out.below hb6)
  have HRQ6 := Lib.hid (HRQ.out.below hb6)
  have hGG : (G != G) = false := by simp
  clear hb6 HRP HRQ
  go_wp2_with fail
  go_loopw [10] (fun i wr => ∃ j : Int, -1 ≤ j ∧ j ≤ (PS.length : Int) + 2 ∧ i = .int .i64 j ∧ wr = w6) (fun i _ => ((PS.length : Int) + 2 - intOf i).toNat)
  case atStart => exact ⟨-1, by omega, by omega, rfl, rfl⟩
  case round =>
    obtain ⟨j, hj0, hj1, rfl, rfl⟩ := hrel
    by_cases hlt : j ≤ (PS.length : Int) + 1
    · have hcs : j = -1 ∨ (0 ≤ j ∧ j < (PS.length : Int)) ∨ j = (PS.length : Int) ∨ j = (PS.length : Int) + 1 := by omega
      have HAT := Lib.hid (fun want (hw : atV PS (bs.length : Int) j = want) => (utf_at (.slice Ap PS.length cp) PS (bs.length : Int) j wr ⟨Ap, cp, rfl, hcp, HRP6.out⟩).mono (fun e w' h => (⟨by rw [← hw]; exact h.1, h.2⟩ : e = .returned (.int .i64 want) ∧ wr = w')))
      unfold atV at HAT
      rcases hcs with rfl | ⟨hk0, hk1⟩ | rfl | rfl
      · have hc := HAT.out (-1) (by rw [if_pos (by omega)])
        have Hc := Lib.hid hc
        clear hc HAT
        go_wp2_with fail
        refine Hc.out.mono ?_
        rintro e w7 ⟨rfl, rfl⟩
        go_wp2_with fail
        go_roundw
        case rel => exact ⟨0, by omega, by omega, by go_num, trivial⟩
        case measure => simp [intOf]; omega
      · obtain ⟨k, rfl⟩ := Int.eq_ofNat_of_zero_le hk0
        obtain ⟨ap, rfl, hcell⟩ := HRP6.out.2.2 (by omega)
        obtain ⟨aq, rfl, hcell2⟩ := HRQ6.out.2.2 (by omega)
        have ck := hcell k (by omega)
        have ck2 := hcell2 k (by omega)
        have hc := HAT.out (PS.getD k 0) (by rw [if_neg (by omega), if_neg (by omega), Int.toNat_natCast])
        have Hc := Lib.hid hc
        have hi1 : ∀ W, (Instr.indexAt 25 (.slice (some ap) PS.length cp) (.int .i64 (k : Int))).run Tryd.prog W = .ok (.pointer (some (ap.add k))) W := fun W => by
          have h2 : 0 ≤ (k : Int) ∧ (k : Int) < (PS.length : Int) := ⟨by omega, by omega⟩
          go_simp
        have hi2 : ∀ W, (Instr.indexAt 25 (.slice (some aq) PS.length cq) (.int .i64 (k : Int))).run Tryd.prog W = .ok (.pointer (some (aq.add k))) W := fun W => by
          have h2 : 0 ≤ (k : Int) ∧ (k : Int) < (PS.length : Int) := ⟨by omega, by omega⟩
          go_simp
        obtain ⟨x, hx⟩ : ∃ x, PS.getD k 0 = x := ⟨_, rfl⟩
        rw [hx] at ck ck2 Hc
        clear hc HAT hcell hcell2 hx
        go_wp2_with fail
        refine Hc.out.mono ?_
        rintro e w7 ⟨rfl, rfl⟩
        go_wp2_with fail
        go_roundw
        case rel => exact ⟨(k : Int) + 1, by omega, by omega, by go_num, trivial⟩
        case measure => simp [intOf]; omega
      · have hc := HAT.out (bs.length : Int) (by rw [if_neg (by omega), if_pos rfl])
        have Hc := Lib.hid hc
        clear hc HAT
        go_wp2_with fail
        refine Hc.out.mono ?_
        rintro e w7 ⟨rfl, rfl⟩
        go_wp2_with fail
        go_roundw
        case rel => exact ⟨(PS.length : Int) + 1, by omega, by omega, by go_num, trivial⟩
        case measure => simp [intOf]; omega
      · have hc := HAT.out (-1) (by rw [if_pos (by omega)])
        have Hc := Lib.hid hc
        have hne : (((PS.length : Int) + 1) == (PS.length : Int)) = false := by rw [beq_eq_false_iff_ne]; omega
        clear hc HAT
        go_wp2_with fail
        refine Hc.out.mono ?_
        rintro e w7 ⟨rfl, rfl⟩
        go_wp2_with fail
        go_roundw
        case rel => exact ⟨(PS.length : Int) + 2, by omega, by omega, by go_num, trivial⟩
        case measure => simp [intOf]; omega
    · have HF1 := Lib.hid (fun W (h : RdN .i32 W (.slice A2 ls.length c2) ls) => utf_bytes (.slice A2 ls.length c2) ls W h HI.out Hls.out)
      have HF2 := Lib.hid (fun W (h : RdN .i32 W (.slice A2 ls.length c2) ls) => ref_bytes (.slice A2 ls.length c2) ls W h HI.out Hls.out)
      rw [HF.out] at HF1 HF2
      have Hr26 := Lib.hid (Hr2.out.below HB6.out)
      clear hcp hcq hml2 hcap
      go_wp2_with fail
      refine wp_region_noPanic ?_
      refine wp_region_held_drew (S := fun W => Below wr.heap.size wr W ∧ True) (by kernel_rfl) ⟨(Below.refl _ _).drew, trivial⟩ (fun hHeld => ?_)
      refine held_take (i := 0) (v := ?_) rfl (by kernel_rfl) (by kernel_rfl) (by kernel_rfl) (fun _ _ _ h => h) (by rfl) hHeld ?y21_0 ?_
      case y21_0 => (intro w hSw; (try dsimp only at hSw); go_simp; try with_reducible rfl)
      try simp only [Act.put, List.setIfInBounds_toArray, List.set_cons_zero, List.set_cons_succ]
      refine held_take (i := 3) (v := ?_) rfl (by kernel_rfl) (by kernel_rfl) (by kernel_rfl) (fun _ _ _ h => h) (by rfl) hHeld ?y21_3 ?_
      case y21_3 => (intro w hSw; (try dsimp only at hSw); go_simp; try with_reducible rfl)
      try simp only [Act.put, List.setIfInBounds_toArray, List.set_cons_zero, List.set_cons_succ]
      refine held_one (i := 1) (by kernel_rfl) rfl (fun K hK => ?_)
      (refine step_call (by rfl) _ _ (by rfl) Tryd.func19 (by kernel_rfl) (by kernel_rfl) (by simp only [List.map_toArray, List.map_cons, List.map_nil]; rfl) ((HF1.out _ (Hr26.out.below hHeld.1)).mono ?_); rintro e w11 ⟨v11, rfl, ho11, hb11⟩; obtain ⟨A11, c11, rfl, hc11, hr11⟩ := ho11.rd; have HB11 := hHeld.1.trans (hb11.mono hHeld.1.size); have hS1 : Below wr.heap.size wr w11 ∧ True := ⟨HB11, trivial⟩; refine ⟨_, rfl, ?_⟩)
      refine hK.out _ _ ?_ (fun hHeld => ?_)
      · exact hS1
      clear hK K
      try simp only [Act.put, List.setIfInBounds_toArray, List.set_cons_zero, List.set_cons_succ]
      have SS1 := fun W (h : Below w11.heap.size w11 W) => (⟨h, conv_bytes_string (P := Tryd.prog) 22 5 9 Tryd.underlying22 Tryd.underlying5 Tryd.underlying9 (hr11.below h) c11, trivial⟩ : Below w11.heap.size w11 W ∧ (convert 22 9 (.slice A11 F.length c11)).run Tryd.prog W = .ok (.string (strOfNums F)) W ∧ True)
      refine held_rebased (S' := fun W => Below w11.heap.size w11 W ∧ (convert 22 9 (.slice A11 F.length c11)).run Tryd.prog W = .ok (.string (strOfNums F)) W ∧ True) (fun W h => ⟨HB11.trans (h.1.mono HB11.size), trivial⟩) _ _ _ _ ?_
      replace hHeld := SS1 _ (Below.refl _ _)
      clear hS1 ho11 hb11 hr11
      refine held_take (i := 2) (v := ?_) rfl (by kernel_rfl) (by kernel_rfl) (by kernel_rfl) (fun _ _ _ h => h) (by rfl) hHeld ?y21_2 ?_
      case y21_2 => (intro w hSw; (try dsimp only at hSw); go_simp; try with_reducible rfl)
      try simp only [Act.put, List.setIfInBounds_toArray, List.set_cons_zero, List.set_cons_succ]
      refine held_one (i := 4) (by kernel_rfl) rfl (fun K hK => ?_)
      (refine step_call (by rfl) _ _ (by rfl) Tryd.func20 (by kernel_rfl) (by kernel_rfl) (by simp only [List.map_toArray, List.map_cons, List.map_nil]; rfl) ((HF2.out _ (Hr26.out.below (HB11.trans (hHeld.1.mono HB11.size)))).mono ?_); rintro e w12 ⟨v12, rfl, ho12, hb12⟩; obtain ⟨A12, c12, rfl, hc12, hr12⟩ := ho12.rd; have HC12 := hHeld.1.trans (hb12.mono hHeld.1.size); have hS4 := SS1 _ HC12; refine ⟨_, rfl, ?_⟩)
      refine hK.out _ _ ?_ (fun hHeld => ?_)
      · exact hS4
      clear hK K
      try simp only [Act.put, List.setIfInBounds_toArray, List.set_cons_zero, List.set_cons_succ]
      have SS2 := fun W (h : Below w12.heap.size w12 W) => (⟨h, conv_bytes_string (P := Tryd.prog) 22 5 9 Tryd.underlying22 Tryd.underlying5 Tryd.underlying9 (hr12.below h) c12, (SS1 W (HC12.trans (h.mono HC12.size))).2⟩ : Below w12.heap.size w12 W ∧ (convert 22 9 (.slice A12 F.length c12)).run Tryd.prog W = .ok (.string (strOfNums F)) W ∧ (convert 22 9 (.slice A11 F.length c11)).run Tryd.prog W = .ok (.string (strOfNums F)) W ∧ True)
      refine held_rebased (S' := fun W => Below w12.heap.size w12 W ∧ (convert 22 9 (.slice A12 F.length c12)).run Tryd.prog W = .ok (.string (strOfNums F)) W ∧ (convert 22 9 (.slice A11 F.length c11)).run Tryd.prog W = .ok (.string (strOfNums F)) W ∧ True) (fun W h => SS1 W (HC12.trans (h.1.mono HC12.size))) _ _ _ _ ?_
      replace hHeld := SS2 _ (Below.refl _ _)
      clear hS4 ho12 hb12 hr12
      refine held_take (i := 5) (v := ?_) rfl (by kernel_rfl) (by kernel_rfl) (by kernel_rfl) (fun _ _ _ h => h) (by rfl) hHeld ?y21_5 ?_
      case y21_5 => (intro w hSw; (try dsimp only at hSw); go_simp; try with_reducible rfl)
      try simp only [Act.put, List.setIfInBounds_toArray, List.set_cons_zero, List.set_cons_succ]
      refine held_take (i := 6) (v := ?_) rfl (by kernel_rfl) (by kernel_rfl) (by kernel_rfl) (fun _ _ _ h => h) (by rfl) hHeld ?y21_6 ?_
      case y21_6 => (intro w hSw; (try dsimp only at hSw); go_simp; try with_reducible rfl)
      try simp only [Act.put, List.setIfInBounds_toArray, List.set_cons_zero, List.set_cons_succ]
      refine held_take (i := 7) (v := ?_) rfl (by kernel_rfl) (by kernel_rfl) (by kernel_rfl) (fun _ _ _ h => h) (by rfl) hHeld ?y21_7 ?_
      case y21_7 => (intro w hSw; (try dsimp only at hSw); go_simp; try with_reducible rfl)
      try simp only [Act.put, List.setIfInBounds_toArray, List.set_cons_zero, List.set_cons_succ]
      refine wpAnyH_done (by kernel_rfl) ?_ _
      refine NoPanic.normal ?_
      go_wp2
      go_ret
      exact ⟨by simp, HB6.out.trans ((HB11.trans ((HC12.trans (hHeld.1.mono HC12.size)).mono HB11.size)).mono HB6.out.size)⟩
end Go.Proofs.YtaccjifhgohfpaaDoor
