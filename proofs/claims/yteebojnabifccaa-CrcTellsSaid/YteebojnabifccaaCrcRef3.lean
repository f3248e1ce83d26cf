import Derived.Test.YteebojnabifccaaCrcRef2
/- The contract of the document's texts that are read. -/
namespace Go.Proofs.Yteebojnabifccaa
open Go.RowKit Go.Proofs.YteebojnabifccaaW.PrintWords Go.Proofs.YteebojnabifccaaW.PrintMore
attribute [local go_sem] max2_int min2_int max_two min_two

set_option maxHeartbeats 400000 in
theorem ref_getText (v : Value) (xs : List Int) (most : Int) (hmost : most < 9223372036854775808) (w : World) (hr : RdB w v xs) (hby : By xs) :
    Calls Try.prog 24 #[v, .int .i64 most] w (GetTP xs most w) := by
  have hget := ref_get v xs 2 w hr hby
  have hvb := val_take_bd xs hby 2
  have hr0 := hr
  obtain ⟨A, c, rfl, hcap, hread⟩ := hr
  clear hread
  by_cases h1 : xs.length < 2
  · have hg : getN xs 2 = (0, xs, 10) := if_pos (by rw [show crcW 2 = 2 from rfl]; omega)
    have ht : getT xs most = ([], xs, 10) := if_pos h1
    unfold GetTP
    rw [ht]
    unfold RGetP at hget
    rw [hg, show getOk xs 2 = false from by unfold getOk; rw [show crcW 2 = 2 from rfl]; simp; omega] at hget
    clear hg ht
    go_enter Try.func24, Try.ntmps24
    go_wp2_with (go_at_call 16; refine hget.mono ?_; rintro e w1 ⟨u, rfl, hu, hb1⟩)
    go_ret3
    exact ⟨_, rfl, hr0.below hb1, hb1⟩
  · have hg : getN xs 2 = (val (xs.take 2), xs.drop 2, 0) := if_neg (by rw [show crcW 2 = 2 from rfl]; omega)
    unfold RGetP at hget
    rw [hg, show getOk xs 2 = true from by unfold getOk; rw [show crcW 2 = 2 from rfl]; simp; omega] at hget
    have hyb : By (xs.drop 2) := fun x hx => hby x (List.mem_of_mem_drop hx)
    have ht : getT xs most = if most < val (xs.take 2) then ([], xs, 93) else if ((xs.drop 2).length : Int) < val (xs.take 2) then ([], xs, 10)
        else ((xs.drop 2).take (val (xs.take 2)).toNat, (xs.drop 2).drop (val (xs.take 2)).toNat, 0) := if_neg h1
    unfold GetTP
    rw [ht]
    clear hg ht h1 hby
    generalize val (xs.take 2) = n at hget hvb ⊢
    generalize xs.drop 2 = ys at hget hyb ⊢
    obtain ⟨hn0, hn1⟩ := hvb
    have hn1' : n < 65536 := hn1
    clear hn1
    have hn2 : n % 18446744073709551616 = n := by omega
    by_cases h2 : most < n
    · rw [if_pos h2]
      by_cases hm0 : most < 0
      · have hd0 : decide (most < 0) = true := by simpa using hm0
        go_enter Try.func24, Try.ntmps24
        go_wp2_with (go_at_call 16; refine hget.mono ?_; rintro e w1 ⟨u, rfl, hu, hb1⟩)
        go_ret3
        exact ⟨_, rfl, hr0.below hb1, hb1⟩
      have hm1 : 0 ≤ most := by omega
      have hm2 : most < 65536 := by omega
      have hd0 : decide (most < 0) = false := by simpa using hm0
      go_enter Try.func24, Try.ntmps24
      go_wp2_with (go_at_call 16; refine hget.mono ?_; rintro e w1 ⟨u, rfl, hu, hb1⟩)
      go_ret3
      exact ⟨_, rfl, hr0.below hb1, hb1⟩
    · rw [if_neg h2]
      have h2' : n ≤ most := by omega
      have hm0 : ¬ most < 0 := by omega
      have hd0 : decide (most < 0) = false := by simpa using hm0
      have hm1 : 0 ≤ most := by omega
      by_cases h3 : (ys.length : Int) < n
      · rw [if_pos h3]
        go_enter Try.func24, Try.ntmps24
        go_wp2_with (go_at_call 16; refine hget.mono ?_; rintro e w1 ⟨u, rfl, ⟨A1, c1, rfl, hc1, hu⟩, hb1⟩; have hyl := hu.2.1; have Hu := Lib.hid hu; clear hu)
        go_ret3
        exact ⟨_, rfl, hr0.below hb1, hb1⟩
      · rw [if_neg h3]
        have h3' : n ≤ (ys.length : Int) := by omega
        go_enter Try.func24, Try.ntmps24
        go_wp2_with (go_at_call 16; refine hget.mono ?_; rintro e w1 ⟨u, rfl, ⟨A1, c1, rfl, hc1, hu⟩, hb1⟩; have hyl := hu.2.1; have Hu := Lib.hid hu; clear hu)
        obtain ⟨i8, hi8, hz8, hs8, hb8⟩ := info_parts info8
        obtain ⟨ht1, ht2, ht3⟩ := print_take_of (P := Try.prog) (Value.int .u8) (0 : Int) 22 5 .u64 Try.underlying22 hi8 hs8 A1 c1 ys n hn0 h3' hc1
        obtain ⟨A2, hd1, hd2, hd3⟩ := print_drop_of (P := Try.prog) (Value.int .u8) (0 : Int) 22 5 .u64 Try.underlying22 hi8 hs8 A1 c1 ys n hn0 h3' hc1
        have Ht2 : ReadsInt w1 .u8 A1 (ys.take n.toNat).length (ys.take n.toNat) := ht2 w1 Hu.out
        have Hd2 : Hid (ReadsInt w1 .u8 A2 (ys.drop n.toNat).length (ys.drop n.toNat)) := hd2 w1 Hu.out
        have hcv := fun k => conv_bytes_string (P := Try.prog) 22 5 9 Try.underlying22 Try.underlying5 Try.underlying9 (Ht2.below (pw_below_drewN (Below.refl _ _) k)) c1
        clear hz8 hs8 hb8 hi8 ht2 hd2 Ht2
        generalize hts : ys.take n.toNat = ts at ht1 ht3 hcv
        generalize hds : ys.drop n.toNat = ds at hd1 Hd2 hd3
        have Hts := Lib.hid hts
        have Hds := Lib.hid hds
        clear hts hds
        go_quiet (fail)
        all_goals go_wp2
        go_ret3
        rw [Hts.out, Hds.out]
        exact ⟨_, rfl, ⟨A2, _, rfl, hd3, Hd2.out.below (pw_below_drewN (Below.refl _ _) _)⟩, pw_below_drewN hb1 _⟩
end Go.Proofs.Yteebojnabifccaa
