import Derived.Test.YteebojnabifccaaKnown
import Derived.Test.YteebojnabifccaaCrcMath2
/- CrcShort: numbers and texts cut off anywhere are too short, and nothing is read. -/
namespace Go.Proofs.Yteebojnabifccaa
open Go.RowKit Go.Proofs.YteebojnabifccaaW.PrintWords Go.Proofs.YteebojnabifccaaW.PrintMore

theorem getN_short (xs : List Int) (h : xs.length < 8) : getN xs 8 = (0, xs, 10) := if_pos (by rw [show crcW 8 = 8 from rfl]; omega)

set_option maxHeartbeats 400000 in
theorem crcShort_walk (n : Int) (s : ByteArray) (cut most : Int) (w : World) (hn : 0 ≤ n ∧ n < 18446744073709551616) (hz : s.size ≤ 140737488351232) (hcut : 0 ≤ cut ∧ cut < 256) (hmost : 0 ≤ most ∧ most < 256) :
    Calls Try.prog 8 #[.int .u64 n, .string s, .int .u8 cut, .int .u8 most] w fun e w' => e = .returned (.bool true) ∧ Below w.heap.size w w' := by
  obtain ⟨hn0, hn1⟩ := hn
  obtain ⟨hc0, hc1⟩ := hcut
  obtain ⟨hm0, hm1⟩ := hmost
  by_cases hlt : 200 < s.size
  · go_enter Try.func8, Try.ntmps8
    go_wp2_with (go_at_call 14; refine (known1 _).mono ?_; rintro e w1 ⟨rfl, hb1⟩)
    go_ret
    exact ⟨rfl, hb1⟩
  · go_enter Try.func8, Try.ntmps8
    go_wp2_with (go_at_call 14; refine (known1 _).mono ?_; rintro e w1 ⟨rfl, hb1⟩)
    have HB1 := Lib.hid hb1
    clear hb1
    have hp := crc_put 0 (.slice none 0 0) [] n 8 w1 (OwnB.nil _ _) (Nat.zero_le _) (by simp)
    rw [show (crcW 8).toNat = 8 from rfl, List.nil_append] at hp
    refine hp.mono ?_
    rintro e w2 ⟨v2, rfl, ho2, hg2, _⟩
    clear hp
    have HB2 := Lib.hid (HB1.out.trans ((below_of_grown hg2).mono HB1.out.size))
    obtain ⟨A2, c2, rfl, hc2, hr2⟩ := ho2.rd
    have hl8 : (le n 8).length = 8 := le_length _ _
    clear hg2 HB1
    obtain ⟨k, hk⟩ : ∃ k, cut % 8 = k := ⟨_, rfl⟩
    have hk0 : 0 ≤ k := by omega
    have hk1 : k < 8 := by omega
    obtain ⟨ts, hts, htc, htr, htl⟩ := cut_to (w := w2) hc2 hr2 .i64 k hk0 (by omega)
    have hgn := getN_short ts (by omega)
    have hg := crc_get (.slice A2 ts.length c2) ts 8 w2 htr (hts ▸ (le_by n 8).take _)
    unfold GetP at hg
    rw [hgn] at hg
    have Hg := Lib.hid hg
    have Htl := Lib.hid htl
    have Hk := Lib.hid hk
    clear hg hgn htl hts htr hr2 ho2
    rw [hl8] at htc ⊢
    clear hl8
    go_wp2_with fail
    refine Hg.out.mono ?_
    rintro e w3 ⟨u, rfl, ⟨A3, c3, rfl, hc3, hr3⟩, hb3⟩
    have HB3 := Lib.hid (HB2.out.trans (hb3.mono HB2.out.size))
    have htl8 : (ts.length : Int) = k := Htl.out
    clear Hg HB2 hb3 hr3 htc
    go_wp2_with fail
    have ht := crc_text 0 (.slice none 0 0) [] s (by omega) w3 (OwnB.nil _ _) (Nat.zero_le _) (by simp)
    rw [List.nil_append] at ht
    refine ht.mono ?_
    rintro e w4 ⟨v4, rfl, ho4, hg4, _⟩
    clear ht
    have HB4 := Lib.hid (HB3.out.trans ((below_of_grown hg4).mono HB3.out.size))
    obtain ⟨A4, c4, rfl, hc4, hr4⟩ := ho4.rd
    clear hg4 HB3 ho4
    have hr4' : RdB w4 (.slice A4 (txt s).length c4) (txt s) := ⟨A4, c4, rfl, hc4, hr4⟩
    have hr4r : ReadsInt w4 .u8 A4 (txt s).length (txt s) := hr4
    have hc4r : (txt s).length ≤ c4 := hc4
    have htxl := txt_length s
    obtain ⟨j, hj⟩ : ∃ j, cut % ((s.size : Int) + 2) = j := ⟨_, rfl⟩
    have hj0 : 0 ≤ j := by rw [← hj]; exact Int.emod_nonneg _ (by omega)
    have hj1 : j < (s.size : Int) + 2 := by rw [← hj]; exact Int.emod_lt_of_pos _ (by omega)
    obtain ⟨us, hus, huc, hur, hul⟩ := cut_to (w := w4) hc4r hr4r .i64 j hj0 (by omega)
    have hgu := getT_cut s (by omega) j.toNat (by omega) 200 (by omega)
    rw [← hus] at hgu
    have hgw := getT_txt s (by omega) [] most
    rw [List.append_nil] at hgw
    have hg5 := crc_getText (.slice A4 us.length c4) us 200 w4 hur (hus ▸ (txt_by s).take _)
    have hg6 := fun w5 (h : Below w4.heap.size w4 w5) => crc_getText (.slice A4 (txt s).length c4) (txt s) most w5 (hr4'.below h) (txt_by s)
    unfold GetTP at hg5 hg6
    rw [hgu] at hg5
    rw [hgw] at hg6
    have Hg5 := Lib.hid hg5
    have Hul := Lib.hid hul
    have Hj := Lib.hid hj
    rw [show (le (s.size : Int) 2 ++ bytesOf s).length = s.size + 2 from htxl] at hc4 ⊢
    rw [htxl] at huc hg6
    have Htl2 := Lib.hid htxl
    have Hs0 : strOfNums [] = ⟨#[]⟩ := rfl
    have Hs1 := strOfNums_bytesOf s
    clear hg5 hgu hgw hul hur hus hr4' hr4r hc4r hr4 htxl
    have hsz : s.size ≤ 200 := by omega
    clear hlt
    by_cases hms : most < (s.size : Int)
    all_goals
      first | rw [if_pos hms] at hg6 | rw [if_neg hms] at hg6
      have Hg6 := Lib.hid hg6
      clear hg6
      go_wp2_with fail
      refine Hg5.out.mono ?_
      rintro e w5 ⟨u5, rfl, ⟨A5, c5, rfl, hc5, hr5⟩, hb5⟩
      have HB5 := Lib.hid (HB4.out.trans (hb5.mono HB4.out.size))
      have Hb5 := Lib.hid hb5
      have hul' := Hul.out
      clear hr5 hb5 HB4
      go_wp2_with fail
      refine (Hg6.out _ Hb5.out).mono ?_
      rintro e w6 ⟨u6, rfl, ⟨A6, c6, rfl, hc6, hr6⟩, hb6⟩
      have HB6 := Lib.hid (HB5.out.trans (hb6.mono HB5.out.size))
      clear hr6 hb6
      have htxi : ((txt s).length : Int) = (s.size : Int) + 2 := by have := Htl2.out; omega
      go_wp2
      go_ret
      exact ⟨rfl, HB6.out⟩
end Go.Proofs.Yteebojnabifccaa
