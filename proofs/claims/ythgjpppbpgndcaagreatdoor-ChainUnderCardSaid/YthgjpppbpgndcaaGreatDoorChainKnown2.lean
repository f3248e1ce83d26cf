import Derived.Test.YthgjpppbpgndcaaGreatDoorChainUnder
/- hornbooklaw11: known, texts. -/
namespace Go.Proofs.YthgjpppbpgndcaaGreatDoor
open Go.RowKit Go.Maps Go.Shelf Go.Proofs.YthgjpppbpgndcaaGreatDoorW.PrintWords Go.Proofs.YthgjpppbpgndcaaGreatDoorW.PrintMore
variable {B p : Nat} {w0 w w' : World} {F : FM}

def ke : Nm := [101, 110, 45, 71, 66]
def kf1 : Int × FM := setF [] ke []
def kf2 : Int × FM := setF kf1.2 rootL []
def kf3 : Int × FM := setF kf2.2 [120] []
def kf4 : Int × FM := setF kf3.2 rootL ke
theorem kf_facts : kf1.1 = 0 ∧ kf2.1 = 0 ∧ kf3.1 = 100 ∧ chainF kf3.2 ke = ([ke, rootL], 0) ∧ (chainF kf4.2 ke).2 = 111 ∧ checkF kf4.2 = (ke, 111) ∧ (dropF kf4.2 [100, 101]).1 = 240 := by decide +kernel
theorem kf_len : kf1.2.length < 100000 ∧ kf2.2.length < 100000 ∧ kf3.2.length < 100000 := by decide +kernel
theorem set_to (h : Ft B p w0 F w) (t q : Nm) (hn : F.length < 100000) (hl : t.length ≤ 100000 ∧ q.length ≤ 100000) {r : Int × FM} (hr : setF F t q = r) {e0 : Int} (he : r.1 = e0) :
    Calls Tryz.prog 7 #[pv p, .string (S t), .string (S q)] w fun e w' => e = .returned (.int .i64 e0) ∧ Ft B p w0 r.2 w' ∧ CellsKept w w' := by
  subst hr
  subst he
  exact chain_set h t q (by omega) (by omega) hn
theorem chain_to (h : Ft B p w0 F w) (t : Nm) (ht : t.length ≤ 1000000) {l : List Nm} {er : Int} (hr : chainF F t = (l, er)) :
    Calls Tryz.prog 10 #[pv p, .string (S t)] w fun e w' => ∃ A c, e = .returned (.tuple #[.slice A l.length c, .int .i64 er]) ∧ OwnS w' w.heap.size (.slice A l.length c) l ∧ Below w.heap.size w w' := by
  refine (chain_chain h t ht).mono ?_
  rintro e w' ⟨v, rfl, ho, hb⟩
  rw [hr] at ho ⊢
  obtain ⟨A, c, rfl, -⟩ := ho.sl
  exact ⟨A, c, rfl, ho, hb⟩
theorem drop_to (h : Ft B p w0 F w) (t : Nm) (hl : t.length ≤ 100000) {r : Int × FM} (hr : dropF F t = r) {e0 : Int} (he : r.1 = e0) :
    Calls Tryz.prog 12 #[pv p, .string (S t)] w fun e w' => e = .returned (.int .i64 e0) ∧ Ft B p w0 r.2 w' ∧ CellsKept w w' := by
  subst hr
  subst he
  exact chain_drop h t (by omega)
theorem check_to (h : Ft B p w0 F w) {t : Nm} {er : Int} (hr : checkF F = (t, er)) :
    Calls Tryz.prog 17 #[pv p] w fun e w' => e = .returned (.tuple #[.string (S t), .int .i64 er]) ∧ Below w.heap.size w w' := by
  have := chain_check h
  rwa [hr] at this
set_option maxRecDepth 100000 in
set_option maxHeartbeats 4000000 in
theorem law11_known (w : World) (hM : ML w) : Calls Tryz.prog 5 #[] w fun e w' => e = .returned (.bool true) ∧ Below w.heap.size w w' := by
  obtain ⟨f1, f2, f3, f4, f5, f6, f7⟩ := kf_facts
  obtain ⟨l1, l2, l3⟩ := kf_len
  have q1 : ((S ke).toList == [101, 110, 45, 71, 66]) = true := by decide +kernel
  have q2 : ((S rootL).toList == [114, 111, 111, 116]) = true := by decide +kernel
  have K0 := Lib.hid (chain_new w hM)
  clear hM
  have F1 := Lib.hid f1
  have F2 := Lib.hid f2
  have F3 := Lib.hid f3
  have F4 := Lib.hid f4
  have F5 := Lib.hid f5
  have F6 := Lib.hid f6
  have F7 := Lib.hid f7
  have L1 := Lib.hid l1
  have L2 := Lib.hid l2
  have L3 := Lib.hid l3
  clear f1 f2 f3 f4 f5 f6 f7 l1 l2 l3
  go_enter Tryz.func5, Tryz.ntmps5
  go_wp2_with fail
  refine K0.out.mono ?_
  rintro e w1 ⟨p, rfl, hf⟩
  have HF0 := Lib.hid hf
  have KC := Lib.hid (set_to HF0.out [101, 110, 45, 71, 66] [] (by decide) (by decide) (r := kf1) rfl F1.out)
  clear hf K0
  go_wp2_with fail
  refine KC.out.mono ?_
  rintro e w2 ⟨rfl, hf, -⟩
  have HF1 := Lib.hid hf
  have KC := Lib.hid (set_to HF1.out [114, 111, 111, 116] [] L1.out (by decide) (r := kf2) rfl F2.out)
  clear hf
  go_wp2_with fail
  refine KC.out.mono ?_
  rintro e w3 ⟨rfl, hf, -⟩
  have HF2 := Lib.hid hf
  have KC := Lib.hid (set_to HF2.out [120] [] L2.out (by decide) (r := kf3) rfl F3.out)
  clear hf
  go_wp2_with fail
  refine KC.out.mono ?_
  rintro e w4 ⟨rfl, hf, -⟩
  have HF3 := Lib.hid hf
  have KC := Lib.hid (chain_to HF3.out [101, 110, 45, 71, 66] (by decide) F4.out)
  clear hf
  go_wp2_with fail
  refine KC.out.mono ?_
  rintro e w5 ⟨A, c, rfl, ho, hb⟩
  have HO := Lib.hid ho
  have HF4 := Lib.hid (HF3.out.below hb)
  have KC := Lib.hid (set_to HF4.out [114, 111, 111, 116] [101, 110, 45, 71, 66] L3.out (by decide) (r := kf4) rfl (e0 := 0) (by decide +kernel))
  clear ho hb
  go_wp2_with fail
  refine KC.out.mono ?_
  rintro e w6 ⟨rfl, hf, hk⟩
  have HF6 := Lib.hid hf
  have HO6 : Hid (OwnS w6 w4.heap.size (.slice A 2 c) [ke, rootL]) := Lib.hid (hk.row HO.out)
  have KC := Lib.hid (chain_to HF6.out [101, 110, 45, 71, 66] (by decide) (l := (chainF kf4.2 ke).1) (er := 111) (by rw [← F5.out]; rfl))
  clear hf hk HO
  go_wp2_with fail
  refine KC.out.mono ?_
  rintro e w7 ⟨A7, c7, rfl, -, hb⟩
  have HF7 := Lib.hid (HF6.out.below hb)
  have HO7 := Lib.hid (HO6.out.below hb)
  have KC := Lib.hid (check_to HF7.out F6.out)
  clear hb HO6
  go_wp2_with fail
  refine KC.out.mono ?_
  rintro e w8 ⟨rfl, hb⟩
  have HF8 := Lib.hid (HF7.out.below hb)
  have HO8 := Lib.hid (HO7.out.below hb)
  have KC := Lib.hid (drop_to HF8.out [100, 101] (by decide) rfl F7.out)
  obtain ⟨g, rfl, hx, hcell⟩ := OwnS.at_ HO8.out (i := 1) (by decide)
  have hc : w8.cell? ⟨g, 1, none⟩ = some (.string (S rootL)) := hcell _ (Below.refl _ _)
  replace hx : ∀ W, (Instr.indexAt 30 (.slice (some ⟨g, 0, none⟩) 2 c) (.int .i64 1)).run Tryz.prog W = .ok (.pointer (some ⟨g, 1, none⟩)) W := hx
  clear hb HO7 hcell
  go_wp2_with fail
  refine KC.out.mono ?_
  rintro e w9 ⟨rfl, hf, -⟩
  have HB9 := Lib.hid hf.bel
  clear hf
  go_wp2_with fail
  go_ret
  exact ⟨rfl, HB9.out⟩
end Go.Proofs.YthgjpppbpgndcaaGreatDoor

/- hornbooklaw11: texts. -/
namespace Go.Proofs.YthgjpppbpgndcaaGreatDoor
open Go.RowKit Go.Maps Go.Shelf Go.Proofs.YthgjpppbpgndcaaGreatDoorW.PrintWords Go.Proofs.YthgjpppbpgndcaaGreatDoorW.PrintMore
variable {w w' : World}

theorem not_eq_at {ss ts : List Nm} {k : Nat} (h1 : k < ss.length) (h2 : k < ts.length) (h : ss[k] ≠ ts[k]) : ss ≠ ts := by
  rintro rfl
  exact h rfl
set_option maxRecDepth 100000 in
set_option maxHeartbeats 2000000 in
theorem law11_texts {b1 b2 : Nat} {v u : Value} {ss ts : List Nm} (h1 : OwnS w b1 v ss) (h2 : OwnS w b2 u ts) (hl : ss.length ≤ 1000000 ∧ ts.length ≤ 1000000) :
    Calls Tryz.prog 29 #[v, u] w fun e w' => e = .returned (.bool (decide (ss = ts))) ∧ Below w.heap.size w w' := by
  obtain ⟨A, c, rfl, -⟩ := h1.sl
  obtain ⟨A2, c2, rfl, -⟩ := h2.sl
  have H1 := Lib.hid h1
  have H2 := Lib.hid h2
  obtain ⟨l1, l2⟩ := hl
  clear h1 h2
  obtain ⟨r, hr⟩ : ∃ r, decide (ss = ts) = r := ⟨_, rfl⟩
  rw [hr]
  have HR := Lib.hid hr
  clear hr
  by_cases hlen : ss.length = ts.length
  · have hlen' : (ss.length : Int) = (ts.length : Int) := by omega
    go_enter Tryz.func29, Tryz.ntmps29
    go_wp2_with fail
    go_loopw [5] (fun i wr => ∃ k : Nat, k ≤ ss.length ∧ i = .int .i64 (k : Int) ∧ Below w.heap.size w wr ∧ ∀ (j : Nat) (hj : j < ss.length), j < k → ss[j] = ts[j]'(by omega)) (fun i _ => ss.length - (intOf i).toNat)
    case atStart => exact ⟨0, Nat.zero_le _, rfl, Below.refl _ _, fun j _ h => absurd h (Nat.not_lt_zero _)⟩
    case round =>
      obtain ⟨k, hk, rfl, hb, hall⟩ := hrel
      have HBk := Lib.hid hb
      have HAL := Lib.hid hall
      clear hb hall
      by_cases hlt : k < ss.length
      · have hlt' : (k : Int) < (ss.length : Int) := by omega
        obtain ⟨g, rfl, hx, hcell⟩ := H1.out.at_ hlt
        obtain ⟨g2, rfl, hx2, hcell2⟩ := H2.out.at_ (i := k) (by omega)
        have hc := hcell _ HBk.out
        have hc2 := hcell2 _ HBk.out
        have HX : Hid (∀ a b, ss[k] = a → ts[k]'(by omega) = b → a ≠ b → r = false) := Lib.hid (fun a b ha hb hab => by
          rw [← HR.out]
          exact decide_eq_false (not_eq_at hlt (by omega) (by rw [ha, hb]; exact hab)))
        obtain ⟨a, ha⟩ : ∃ a, ss[k] = a := ⟨_, rfl⟩
        obtain ⟨b, hb⟩ : ∃ b, ts[k]'(by omega) = b := ⟨_, rfl⟩
        rw [ha] at hc
        rw [hb] at hc2
        have hs := S_eq a b
        have HA := Lib.hid ha
        have HB := Lib.hid hb
        clear ha hb hcell hcell2
        by_cases hab : a = b
        · rw [decide_eq_true hab] at hs
          have HAB := Lib.hid hab
          clear hab
          go_wp2_with fail
          go_quiet (fail)
          all_goals go_wp2
          go_roundw
          case rel => exact ⟨k + 1, hlt, by go_num, pw_below_drewN HBk.out _, fun j hj hjk => by
            rcases Nat.lt_succ_iff_lt_or_eq.1 hjk with h1 | h1
            · exact HAL.out j hj h1
            · subst h1; rw [HA.out, HB.out, HAB.out]⟩
          case measure => first | (simp [intOf]; done) | (simp [intOf]; omega)
        · rw [decide_eq_false hab] at hs
          have HF := Lib.hid (HX.out a b HA.out HB.out hab)
          clear hab
          go_wp2_with fail
          go_quiet (fail)
          all_goals go_wp2
          go_ret
          rw [HF.out]
          exact ⟨rfl, pw_below_drewN HBk.out _⟩
      · have hge : ¬ (k : Int) < (ss.length : Int) := by omega
        have HF : Hid (r = true) := Lib.hid (by
          rw [← HR.out]
          exact decide_eq_true (List.ext_getElem hlen (fun j hj _ => HAL.out j hj (by omega))))
        clear HAL
        go_wp2
        go_ret
        rw [HF.out]
        exact ⟨rfl, HBk.out⟩
  · have hlen' : ((ss.length : Int) == (ts.length : Int)) = false := by rw [beq_eq_false_iff_ne]; omega
    have HF : Hid (r = false) := Lib.hid (by rw [← HR.out]; exact decide_eq_false (fun h => hlen (by rw [h])))
    clear hlen
    go_enter Tryz.func29, Tryz.ntmps29
    go_wp2_with fail
    go_ret
    rw [HF.out]
    exact ⟨rfl, Below.refl _ _⟩
end Go.Proofs.YthgjpppbpgndcaaGreatDoor
