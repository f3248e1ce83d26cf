import Derived.Test.YtbooiaaejhbbkaaDiskKeeping
/- The name tests of the law and of the reference. -/
namespace Go.Proofs.Ytbooiaaejhbbkaa
open Go.RowKit Go.Proofs.YtbooiaaejhbbkaaW.PrintWords Go.Proofs.YtbooiaaejhbbkaaW.PrintMore

set_option maxRecDepth 100000 in
set_option maxHeartbeats 2000000 in
theorem law20_name (l : List UInt8) (hl : l.length ≤ 1000000) (W : World) :
    Calls Try.prog 25 #[.string (S l)] W fun e w' => e = .returned (.bool (nameB l)) ∧ W = w' := by
  have hz := S_size l
  go_enter Try.func25, Try.ntmps25
  go_wp2_with fail
  go_loop [3] (fun i => ∃ k : Nat, k ≤ l.length ∧ i = .int .i64 (k : Int) ∧ Hid ((l.take k).all nameC = true)) (fun i => l.length - (intOf i).toNat)
  case atStart => exact ⟨0, Nat.zero_le _, rfl, Lib.hid rfl⟩
  case round =>
    obtain ⟨k, hk, rfl, HA⟩ := hrel
    by_cases hlt : k < l.length
    · have hi := idxS l k hlt
      have HT : Hid (nameC l[k] = true → (l.take (k + 1)).all nameC = true) := Lib.hid (fun h => by rw [all_step nameC hlt, HA.out, h]; rfl)
      have HN : Hid (nameC l[k] = false → nameB l = false) := Lib.hid (fun h => by unfold nameB; rw [all_no nameC hlt h]; rfl)
      have HY := Lib.hid (nameC_yes l[k])
      have HX := Lib.hid (nameC_no l[k])
      clear HA
      generalize hb : l[k] = b at hi HT HN HY HX
      clear hb
      have hx1 := b.toNat_lt
      generalize b.toNat = m at hi HY HX hx1
      obtain ⟨x, hx⟩ : ∃ x : Int, (m : Int) = x := ⟨_, rfl⟩
      have hx0 : 0 ≤ x := by omega
      have hx256 : x < 256 := by omega
      rw [hx] at hi
      by_cases h4 : 97 ≤ x
      · by_cases h6 : x ≤ 122
        · have HT2 := Lib.hid (HT.out (HY.out (by omega)))
          clear HT HN HY HX
          go_wp2_with fail
          go_round
          case rel => exact ⟨k + 1, by omega, by go_num, HT2⟩
          case measure => simp [intOf]; omega
        · have g0 : 65 ≤ x := by omega
          have g1 : ¬ x ≤ 90 := by omega
          have g2 : 48 ≤ x := by omega
          have g3 : ¬ x ≤ 57 := by omega
          have g4 : (x == 45) = false := beq_eq_false_iff_ne.2 (by omega)
          have g5 : (x == 46) = false := beq_eq_false_iff_ne.2 (by omega)
          have HN2 := Lib.hid (HN.out (HX.out (by omega) (by omega) (by omega) (by omega) (by omega)))
          clear HT HN HY HX
          go_wp2_with fail
          go_ret
          exact ⟨by (rw [HN2.out]; try rfl), rfl⟩
      · by_cases h6 : 65 ≤ x
        · by_cases h8 : x ≤ 90
          · have HT2 := Lib.hid (HT.out (HY.out (by omega)))
            clear HT HN HY HX
            go_wp2_with fail
            go_round
            case rel => exact ⟨k + 1, by omega, by go_num, HT2⟩
            case measure => simp [intOf]; omega
          · have g0 : 48 ≤ x := by omega
            have g1 : ¬ x ≤ 57 := by omega
            have g2 : (x == 45) = false := beq_eq_false_iff_ne.2 (by omega)
            have g3 : (x == 46) = false := beq_eq_false_iff_ne.2 (by omega)
            have HN2 := Lib.hid (HN.out (HX.out (by omega) (by omega) (by omega) (by omega) (by omega)))
            clear HT HN HY HX
            go_wp2_with fail
            go_ret
            exact ⟨by (rw [HN2.out]; try rfl), rfl⟩
        · by_cases h8 : 48 ≤ x
          · by_cases h10 : x ≤ 57
            · have HT2 := Lib.hid (HT.out (HY.out (by omega)))
              clear HT HN HY HX
              go_wp2_with fail
              go_round
              case rel => exact ⟨k + 1, by omega, by go_num, HT2⟩
              case measure => simp [intOf]; omega
            · have g0 : (x == 45) = false := beq_eq_false_iff_ne.2 (by omega)
              have g1 : (x == 46) = false := beq_eq_false_iff_ne.2 (by omega)
              have HN2 := Lib.hid (HN.out (HX.out (by omega) (by omega) (by omega) (by omega) (by omega)))
              clear HT HN HY HX
              go_wp2_with fail
              go_ret
              exact ⟨by (rw [HN2.out]; try rfl), rfl⟩
          · by_cases h10 : x = 45
            · have g0 : (x == 45) = true := beq_iff_eq.2 (by omega)
              have HT2 := Lib.hid (HT.out (HY.out (by omega)))
              clear HT HN HY HX
              go_wp2_with fail
              go_round
              case rel => exact ⟨k + 1, by omega, by go_num, HT2⟩
              case measure => simp [intOf]; omega
            · by_cases h12 : x = 46
              · have g0 : (x == 45) = false := beq_eq_false_iff_ne.2 (by omega)
                have g1 : (x == 46) = true := beq_iff_eq.2 (by omega)
                have HT2 := Lib.hid (HT.out (HY.out (by omega)))
                clear HT HN HY HX
                go_wp2_with fail
                go_round
                case rel => exact ⟨k + 1, by omega, by go_num, HT2⟩
                case measure => simp [intOf]; omega
              · have g0 : (x == 45) = false := beq_eq_false_iff_ne.2 (by omega)
                have g1 : (x == 46) = false := beq_eq_false_iff_ne.2 (by omega)
                have HN2 := Lib.hid (HN.out (HX.out (by omega) (by omega) (by omega) (by omega) (by omega)))
                clear HT HN HY HX
                go_wp2_with fail
                go_ret
                exact ⟨by (rw [HN2.out]; try rfl), rfl⟩
    · have hkn : k = l.length := by omega
      have HAll : Hid (l.all nameC = true) := Lib.hid (by have := HA.out; rwa [hkn, List.take_length] at this)
      have hki : ¬ (k : Int) < (l.length : Int) := by omega
      clear hlt hkn
      by_cases h1 : 1 ≤ l.length
      · have h1' : (1 : Int) ≤ (l.length : Int) := by omega
        by_cases h2 : l.length ≤ 40
        · have h2' : (l.length : Int) ≤ 40 := by omega
          have HE : Hid (nameB l = true) := Lib.hid (by unfold nameB; rw [HAll.out, decide_eq_true h1, decide_eq_true h2]; rfl)
          clear h1 h2
          go_wp2_with fail
          go_ret
          exact ⟨by (rw [HE.out]; try rfl), rfl⟩
        · have h2' : ¬ (l.length : Int) ≤ 40 := by omega
          have HE : Hid (nameB l = false) := Lib.hid (by unfold nameB; rw [decide_eq_false h2, Bool.and_false, Bool.and_false])
          clear h1 h2
          go_wp2_with fail
          go_ret
          exact ⟨by (rw [HE.out]; try rfl), rfl⟩
      · have h1' : ¬ (1 : Int) ≤ (l.length : Int) := by omega
        have HE : Hid (nameB l = false) := Lib.hid (by unfold nameB; rw [decide_eq_false h1, Bool.false_and, Bool.and_false])
        clear h1
        go_wp2_with fail
        go_ret
        exact ⟨by (rw [HE.out]; try rfl), rfl⟩

set_option maxRecDepth 100000 in
set_option maxHeartbeats 2000000 in
theorem ref20_name (l : List UInt8) (hl : l.length ≤ 1000000) (W : World) :
    Calls Try.prog 50 #[.string (S l)] W fun e w' => e = .returned (.bool (nameB l)) ∧ W = w' := by
  have hz := S_size l
  by_cases h1 : 1 ≤ l.length
  · by_cases h2 : l.length ≤ 40
    · have h1' : ¬ (l.length : Int) < 1 := by omega
      have h2' : ¬ (40 : Int) < (l.length : Int) := by omega
      have h1n : ¬ l.length < 1 := by omega
      have h2n : ¬ 40 < l.length := by omega
      go_enter Try.func50, Try.ntmps50
      go_wp2_with fail
      clear h1' h2' h1n h2n
      go_loop [3] (fun i => ∃ k : Nat, k ≤ l.length ∧ i = .int .i64 (k : Int) ∧ Hid ((l.take k).all nameC = true)) (fun i => l.length - (intOf i).toNat)
      case atStart => exact ⟨0, Nat.zero_le _, rfl, Lib.hid rfl⟩
      case round =>
        obtain ⟨k, hk, rfl, HA⟩ := hrel
        by_cases hlt : k < l.length
        · have hi := idxS l k hlt
          have HT : Hid (nameC l[k] = true → (l.take (k + 1)).all nameC = true) := Lib.hid (fun h => by rw [all_step nameC hlt, HA.out, h]; rfl)
          have HN : Hid (nameC l[k] = false → nameB l = false) := Lib.hid (fun h => by unfold nameB; rw [all_no nameC hlt h]; rfl)
          have HY := Lib.hid (nameC_yes l[k])
          have HX := Lib.hid (nameC_no l[k])
          clear HA
          generalize hb : l[k] = b at hi HT HN HY HX
          clear hb
          have hx1 := b.toNat_lt
          generalize b.toNat = m at hi HY HX hx1
          obtain ⟨x, hx⟩ : ∃ x : Int, (m : Int) = x := ⟨_, rfl⟩
          have hx0 : 0 ≤ x := by omega
          have hx256 : x < 256 := by omega
          rw [hx] at hi
          by_cases h4 : 97 ≤ x
          · by_cases h6 : x ≤ 122
            · have HT2 := Lib.hid (HT.out (HY.out (by omega)))
              clear HT HN HY HX
              go_wp2_with fail
              go_round
              case rel => exact ⟨k + 1, by omega, by go_num, HT2⟩
              case measure => simp [intOf]; omega
            · have g0 : 65 ≤ x := by omega
              have g1 : ¬ x ≤ 90 := by omega
              have g2 : 48 ≤ x := by omega
              have g3 : ¬ x ≤ 57 := by omega
              have g4 : (x == 45) = false := beq_eq_false_iff_ne.2 (by omega)
              have g5 : (x == 46) = false := beq_eq_false_iff_ne.2 (by omega)
              have HN2 := Lib.hid (HN.out (HX.out (by omega) (by omega) (by omega) (by omega) (by omega)))
              clear HT HN HY HX
              go_wp2_with fail
              go_ret
              exact ⟨by (rw [HN2.out]; try rfl), rfl⟩
          · by_cases h6 : 65 ≤ x
            · by_cases h8 : x ≤ 90
              · have HT2 := Lib.hid (HT.out (HY.out (by omega)))
                clear HT HN HY HX
                go_wp2_with fail
                go_round
                case rel => exact ⟨k + 1, by omega, by go_num, HT2⟩
                case measure => simp [intOf]; omega
              · have g0 : 48 ≤ x := by omega
                have g1 : ¬ x ≤ 57 := by omega
                have g2 : (x == 45) = false := beq_eq_false_iff_ne.2 (by omega)
                have g3 : (x == 46) = false := beq_eq_false_iff_ne.2 (by omega)
                have HN2 := Lib.hid (HN.out (HX.out (by omega) (by omega) (by omega) (by omega) (by omega)))
                clear HT HN HY HX
                go_wp2_with fail
                go_ret
                exact ⟨by (rw [HN2.out]; try rfl), rfl⟩
            · by_cases h8 : 48 ≤ x
              · by_cases h10 : x ≤ 57
                · have HT2 := Lib.hid (HT.out (HY.out (by omega)))
                  clear HT HN HY HX
                  go_wp2_with fail
                  go_round
                  case rel => exact ⟨k + 1, by omega, by go_num, HT2⟩
                  case measure => simp [intOf]; omega
                · have g0 : (x == 45) = false := beq_eq_false_iff_ne.2 (by omega)
                  have g1 : (x == 46) = false := beq_eq_false_iff_ne.2 (by omega)
                  have HN2 := Lib.hid (HN.out (HX.out (by omega) (by omega) (by omega) (by omega) (by omega)))
                  clear HT HN HY HX
                  go_wp2_with fail
                  go_ret
                  exact ⟨by (rw [HN2.out]; try rfl), rfl⟩
              · by_cases h10 : x = 45
                · have g0 : (x == 45) = true := beq_iff_eq.2 (by omega)
                  have HT2 := Lib.hid (HT.out (HY.out (by omega)))
                  clear HT HN HY HX
                  go_wp2_with fail
                  go_round
                  case rel => exact ⟨k + 1, by omega, by go_num, HT2⟩
                  case measure => simp [intOf]; omega
                · by_cases h12 : x = 46
                  · have g0 : (x == 45) = false := beq_eq_false_iff_ne.2 (by omega)
                    have g1 : (x == 46) = true := beq_iff_eq.2 (by omega)
                    have HT2 := Lib.hid (HT.out (HY.out (by omega)))
                    clear HT HN HY HX
                    go_wp2_with fail
                    go_round
                    case rel => exact ⟨k + 1, by omega, by go_num, HT2⟩
                    case measure => simp [intOf]; omega
                  · have g0 : (x == 45) = false := beq_eq_false_iff_ne.2 (by omega)
                    have g1 : (x == 46) = false := beq_eq_false_iff_ne.2 (by omega)
                    have HN2 := Lib.hid (HN.out (HX.out (by omega) (by omega) (by omega) (by omega) (by omega)))
                    clear HT HN HY HX
                    go_wp2_with fail
                    go_ret
                    exact ⟨by (rw [HN2.out]; try rfl), rfl⟩
        · have hkn : k = l.length := by omega
          have HE : Hid (nameB l = true) := Lib.hid (by
            have hall := HA.out
            rw [hkn, List.take_length] at hall
            unfold nameB
            rw [hall, decide_eq_true h1, decide_eq_true h2]
            rfl)
          have hki : ¬ (k : Int) < (l.length : Int) := by omega
          clear h1 h2
          go_wp2_with fail
          go_ret
          exact ⟨by (rw [HE.out]; try rfl), rfl⟩
    · have h1' : ¬ (l.length : Int) < 1 := by omega
      have h2' : (40 : Int) < (l.length : Int) := by omega
      have HE : Hid (nameB l = false) := Lib.hid (by unfold nameB; rw [decide_eq_false h2, Bool.and_false, Bool.and_false])
      clear h1 h2
      go_enter Try.func50, Try.ntmps50
      go_wp2_with fail
      go_ret
      exact ⟨by (rw [HE.out]; try rfl), rfl⟩
  · have h1' : (l.length : Int) < 1 := by omega
    have HE : Hid (nameB l = false) := Lib.hid (by unfold nameB; rw [decide_eq_false h1, Bool.false_and, Bool.and_false])
    clear h1
    go_enter Try.func50, Try.ntmps50
    go_wp2_with fail
    go_ret
    exact ⟨by (rw [HE.out]; try rfl), rfl⟩
end Go.Proofs.Ytbooiaaejhbbkaa
