import Derived.Test.YteebojnabifccaaKnown
import Derived.Test.YteebojnabifccaaCrcQ
/- CrcParts: a sum goes on from the sum of any beginning; nothing more changes nothing. -/
namespace Go.Proofs.Yteebojnabifccaa
open Go.RowKit Go.Proofs.YteebojnabifccaaW.PrintWords Go.Proofs.YteebojnabifccaaW.PrintMore

theorem crc_take_drop (k : Nat) (xs : List Int) : crcMore (crcMore 0#32 (xs.take k)) (xs.drop k) = crcMore 0#32 xs := by
  unfold crcMore
  rw [BitVec.not_not, ← List.foldl_append, List.take_append_drop]

set_option maxHeartbeats 800000 in
theorem crcParts_walk (v : Value) (xs : List Int) (a : Int) (w : World) (hr : RdB w v xs) (hby : By xs) (hz : xs.length ≤ 140737488351232) (ha : 0 ≤ a ∧ a < 65536) :
    Calls Try.prog 5 #[v, .int .u16 a] w fun e w' => e = .returned (.bool true) ∧ Below w.heap.size w w' := by
  obtain ⟨A, c, rfl, hcap, hread⟩ := hr
  obtain ⟨ha0, ha1⟩ := ha
  have Hr := Lib.hid hread
  clear hread
  by_cases hlt : 300 < xs.length
  · go_enter Try.func5, Try.ntmps5
    go_wp2_with (go_at_call 14; refine (known1 _).mono ?_; rintro e w1 ⟨rfl, hb1⟩)
    go_ret
    exact ⟨rfl, hb1⟩
  · obtain ⟨j, hj⟩ : ∃ j, a % ((xs.length : Int) + 1) = j := ⟨_, rfl⟩
    have hj0 : 0 ≤ j := by rw [← hj]; exact Int.emod_nonneg _ (by omega)
    have hj1 : j ≤ xs.length := by have := Int.emod_lt_of_pos a (show (0 : Int) < (xs.length : Int) + 1 from by omega); omega
    go_enter Try.func5, Try.ntmps5
    go_wp2_with (go_at_call 14; refine (known1 _).mono ?_; rintro e w1 ⟨rfl, hb1⟩)
    have hr1 := Hr.out.below hb1
    have HB := Lib.hid hb1
    obtain ⟨ts, hts, htc, htr, _⟩ := cut_to hcap hr1 .i64 j hj0 hj1
    obtain ⟨ds, A2, c2, hds, hdc, hdr, _⟩ := cut_from' hcap hr1 .i64 j hj0 hj1
    have q1 := crc_sum_q (.slice A xs.length c) xs _ rfl w1 ⟨A, c, rfl, hcap, hr1⟩ hby
    have q2 := crc_sum_q (.slice A ts.length c) ts _ rfl w1 htr (hts ▸ hby.take _)
    have q3 := crc_more_q (crcMore 0#32 ts) (.slice A2 ds.length c2) ds ((crcMore 0#32 xs).toNat : Int) (by rw [hts, hds, crc_take_drop]) w1 hdr (hds ▸ hby.drop _)
    have q4 := crc_more_q (crcMore 0#32 xs) (.slice none 0 0) [] ((crcMore 0#32 xs).toNat : Int) (by simp [crcMore]) w1 (RdB.nil _) By.nil
    have q5 := crc_sum_q (.slice none 0 0) [] 0 (by decide) w1 (RdB.nil _) By.nil
    have Q1 := Lib.hid q1
    have Q2 := Lib.hid q2
    have Q3 := Lib.hid q3
    have Q4 := Lib.hid q4
    have Q5 := Lib.hid q5
    clear q1 q2 q3 q4 q5 hts hds htr hdr hr1 hb1
    go_quiet ((first
      | (go_at_call 17; first | (with_reducible exact Q1.out _) | (with_reducible exact Q2.out _) | (with_reducible exact Q5.out _))
      | (go_at_call 19; first | (with_reducible exact Q3.out _) | (with_reducible exact Q4.out _))))
    all_goals go_wp2
    go_ret
    exact ⟨rfl, pw_below_drewN HB.out _⟩
end Go.Proofs.Yteebojnabifccaa
