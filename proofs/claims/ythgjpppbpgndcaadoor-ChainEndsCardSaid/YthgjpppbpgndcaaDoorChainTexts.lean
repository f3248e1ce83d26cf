import Derived.Test.YthgjpppbpgndcaaDoorChainKnown
/- hornbooklaw11: texts. -/
namespace Go.Proofs.YthgjpppbpgndcaaDoor
open Go.RowKit Go.Maps Go.Shelf Go.Proofs.YthgjpppbpgndcaaDoorW.PrintWords Go.Proofs.YthgjpppbpgndcaaDoorW.PrintMore
variable {w w' : World}

theorem not_eq_at {ss ts : List Nm} {k : Nat} (h1 : k < ss.length) (h2 : k < ts.length) (h : ss[k] ≠ ts[k]) : ss ≠ ts := by
  rintro rfl
  exact h rfl
set_option maxRecDepth 100000 in
set_option maxHeartbeats 2000000 in
theorem law11_texts {b1 b2 : Nat} {v u : Value} {ss ts : List Nm} (h1 : OwnS w b1 v ss) (h2 : OwnS w b2 u ts) (hl : ss.length ≤ 1000000 ∧ ts.length ≤ 1000000) :
    Calls Tryd.prog 15 #[v, u] w fun e w' => e = .returned (.bool (decide (ss = ts))) ∧ Below w.heap.size w w' := by
  obtain ⟨A, c, rfl, -⟩ := h1.sl
  obtain ⟨A2, c2, rfl, -⟩ := h2.sl
  have H1 := Lib.hid h1
  have H2 := Lib.hid h2
  obtain ⟨l1, l2⟩ := hl
  clear h1 h2
  obtain ⟨r, hr⟩ : ∃ r, decide (ss = ts) = r := ⟨_, rfl⟩
  rw [hr]
  have HR := Lib.hid hr
  clear hr
  by_cases hlen : ss.length = ts.length
  · have hlen' : (ss.length : Int) = (ts.length : Int) := by omega
    go_enter Tryd.func15, Tryd.ntmps15
    go_wp2_with fail
    go_loopw [5] (fun i wr => ∃ k : Nat, k ≤ ss.length ∧ i = .int .i64 (k : Int) ∧ Below w.heap.size w wr ∧ ∀ (j : Nat) (hj : j < ss.length), j < k → ss[j] = ts[j]'(by omega)) (fun i _ => ss.length - (intOf i).toNat)
    case atStart => exact ⟨0, Nat.zero_le _, rfl, Below.refl _ _, fun j _ h => absurd h (Nat.not_lt_zero _)⟩
    case round =>
      obtain ⟨k, hk, rfl, hb, hall⟩ := hrel
      have HBk := Lib.hid hb
      have HAL := Lib.hid hall
      clear hb hall
      by_cases hlt : k < ss.length
      · have hlt' : (k : Int) < (ss.length : Int) := by omega
        obtain ⟨g, rfl, hx, hcell⟩ := H1.out.at_ hlt
        obtain ⟨g2, rfl, hx2, hcell2⟩ := H2.out.at_ (i := k) (by omega)
        have hc := hcell _ HBk.out
        have hc2 := hcell2 _ HBk.out
        have HX : Hid (∀ a b, ss[k] = a → ts[k]'(by omega) = b → a ≠ b → r = false) := Lib.hid (fun a b ha hb hab => by
          rw [← HR.out]
          exact decide_eq_false (not_eq_at hlt (by omega) (by rw [ha, hb]; exact hab)))
        obtain ⟨a, ha⟩ : ∃ a, ss[k] = a := ⟨_, rfl⟩
        obtain ⟨b, hb⟩ : ∃ b, ts[k]'(by omega) = b := ⟨_, rfl⟩
        rw [ha] at hc
        rw [hb] at hc2
        have hs := S_eq a b
        have HA := Lib.hid ha
        have HB := Lib.hid hb
        clear ha hb hcell hcell2
        by_cases hab : a = b
        · rw [decide_eq_true hab] at hs
          have HAB := Lib.hid hab
          clear hab
          go_wp2_with fail
          go_quiet (fail)
          all_goals go_wp2
          go_roundw
          case rel => exact ⟨k + 1, hlt, by go_num, pw_below_drewN HBk.out _, fun j hj hjk => by
            rcases Nat.lt_succ_iff_lt_or_eq.1 hjk with h1 | h1
            · exact HAL.out j hj h1
            · subst h1; rw [HA.out, HB.out, HAB.out]⟩
          case measure => first | (simp [intOf]; done) | (simp [intOf]; omega)
        · rw [decide_eq_false hab] at hs
          have HF := Lib.hid (HX.out a b HA.out HB.out hab)
          clear hab
          go_wp2_with fail
          go_quiet (fail)
          all_goals go_wp2
          go_ret
          rw [HF.out]
          exact ⟨rfl, pw_below_drewN HBk.out _⟩
      · have hge : ¬ (k : Int) < (ss.length : Int) := by omega
        have HF : Hid (r = true) := Lib.hid (by
          rw [← HR.out]
          exact decide_eq_true (List.ext_getElem hlen (fun j hj _ => HAL.out j hj (by omega))))
        clear HAL
        go_wp2
        go_ret
        rw [HF.out]
        exact ⟨rfl, HBk.out⟩
  · have hlen' : ((ss.length : Int) == (ts.length : Int)) = false := by rw [beq_eq_false_iff_ne]; omega
    have HF : Hid (r = false) := Lib.hid (by rw [← HR.out]; exact decide_eq_false (fun h => hlen (by rw [h])))
    clear hlen
    go_enter Tryd.func15, Tryd.ntmps15
    go_wp2_with fail
    go_ret
    rw [HF.out]
    exact ⟨rfl, Below.refl _ _⟩
end Go.Proofs.YthgjpppbpgndcaaDoor
