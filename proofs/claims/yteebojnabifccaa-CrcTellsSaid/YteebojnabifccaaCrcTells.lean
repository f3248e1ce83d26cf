import Derived.Test.YteebojnabifccaaKnown
import Derived.Test.YteebojnabifccaaCrcMath2
import Derived.Test.YteebojnabifccaaCrcRef3
import Derived.Test.YteebojnabifccaaHeld2
/- CrcTells: of every bytes: their sum, in one go or in two; every number in bytes, and back. -/
namespace Go.Proofs.Yteebojnabifccaa
open Go.RowKit Go.Proofs.YteebojnabifccaaW.PrintWords Go.Proofs.YteebojnabifccaaW.PrintMore

theorem crc_split (xs ys : List Int) : crcMore (crcMore 0#32 xs) ys = crcMore 0#32 (xs ++ ys) := by
  unfold crcMore
  rw [BitVec.not_not, ← List.foldl_append]

theorem ne_row {W : World} {base : Nat} {v u : Value} {xs : List Int} (hn : NewAt W (.slice none 0 0) v) (h : OwnB W base u xs) : NeRow v u := by
  intro k hk hu
  have hl := own_lt h k hu
  rcases hn with hn | ⟨b, hb, hbl⟩
  · rw [hk] at hn; cases hn
  · rw [hk] at hb; cases hb; omega

set_option maxHeartbeats 2000000 in
set_option maxRecDepth 100000 in
theorem crcTells_walk (v : Value) (xs : List Int) (v' : Value) (ys : List Int) (n k : Int) (w : World) (hr : RdB w v xs) (hby : By xs) (hz : xs.length ≤ 140737488351232) (hr' : RdB w v' ys) (hby' : By ys) (hz' : ys.length ≤ 140737488351232)
    (hn : 0 ≤ n ∧ n < 18446744073709551616) (hk : -9223372036854775808 ≤ k ∧ k < 9223372036854775808) :
    Calls Try.prog 3 #[v, v', .int .u64 n, .int .i64 k] w fun e w' => e = .returned (.bool true) ∧ Below w.heap.size w w' := by
  obtain ⟨A, c, rfl, hcap, hread⟩ := hr
  obtain ⟨A2, c2, rfl, hcap2, hread2⟩ := hr'
  obtain ⟨hn0, hn1⟩ := hn
  obtain ⟨hk0, hk1⟩ := hk
  have Hr := Lib.hid hread
  have Hr2 := Lib.hid hread2
  clear hread hread2
  by_cases h3 : 300 < xs.length
  · go_enter Try.func3, Try.ntmps3
    go_wp2_with (go_at_call 14; refine (known1 _).mono ?_; rintro e w1 ⟨rfl, hb1⟩)
    go_ret
    exact ⟨rfl, hb1⟩
  by_cases h4 : 300 < ys.length
  · go_enter Try.func3, Try.ntmps3
    go_wp2_with (go_at_call 14; refine (known1 _).mono ?_; rintro e w1 ⟨rfl, hb1⟩)
    go_ret
    exact ⟨rfl, hb1⟩
  have Hl1 := Lib.hid (show (([] : List Int).length + xs.length) * 1 ≤ 140737488355328 from by simp; omega)
  have Hl2 := Lib.hid (show (([] : List Int).length + ys.length) * 1 ≤ 140737488355328 from by simp; omega)
  have Hl3 := Lib.hid (show (([] ++ xs : List Int).length + ys.length) * 1 ≤ 140737488355328 from by simp; omega)
  have Hl4 := Lib.hid (show ([] ++ ys : List Int).length + 8 ≤ 140737488355328 from by simp; omega)
  obtain ⟨x, hx⟩ : ∃ x, (getN xs k).1 = x := ⟨_, rfl⟩
  obtain ⟨l, hl⟩ : ∃ l, (getN xs k).2.1 = l := ⟨_, rfl⟩
  have hpair : ((getN xs k).2.2 = 10 ∧ getOk xs k = false) ∨ ((getN xs k).2.2 = 0 ∧ getOk xs k = true) := by
    by_cases hlt : (xs.length : Int) < crcW k
    · exact .inl ⟨by rw [show getN xs k = (0, xs, 10) from if_pos hlt], by unfold getOk; simp; omega⟩
    · exact .inr ⟨by rw [show getN xs k = (val (xs.take (crcW k).toNat), xs.drop (crcW k).toNat, 0) from if_neg hlt], by unfold getOk; simp; omega⟩
  have hg1 := fun (v : Value) (W : World) (h : RdB W v xs) => crc_get v xs k W h hby
  have hg2 := fun (W : World) (h : RdB W (.slice A xs.length c) xs) => ref_get (.slice A xs.length c) xs k W h hby
  unfold GetP at hg1
  unfold RGetP at hg2
  rw [hx, hl] at hg1 hg2
  have Hsp := Lib.hid (crc_split xs ys)
  obtain ⟨zs, hzs⟩ : ∃ zs, ([] ++ ys : List Int) ++ le n (crcW k).toNat = zs := ⟨_, rfl⟩
  have Hzs := Lib.hid hzs
  clear hzs
  clear hx
  rcases hpair with ⟨he, hok⟩ | ⟨he, hok⟩
  all_goals
    rw [he] at hg1
    rw [hok] at hg2
    have Hg1 := Lib.hid hg1
    have Hg2 := Lib.hid hg2
    clear hg1 hg2 he hok hl
    go_enter Try.func3, Try.ntmps3
    go_wp2_with (first
      | (go_at_call 14; refine (known1 _).mono ?_; rintro e w1 ⟨rfl, hb1⟩; have HB1 := Lib.hid hb1; clear hb1; have Hrd1 := Lib.hid (Hr.out.below HB1.out))
      | (at_builtin; refine print_append_row (w0 := w1) w1.heap.size rfl _ _ _ _ .u8 1 rfl Try.underlying22 info8 (by omega) (.slice none 0 0) [] xs A xs.length c rfl rfl (own_nil _ _ _ _) Hrd1.out (Below.refl _ _) (Nat.le_refl _) Hl1.out ?_; intro v2 w2 ho2 hb2 hg2 hat2))
    rw [List.nil_append] at ho2
    refine (Hg1.out v2 w2 (OwnB.rd ho2)).mono ?_
    rintro e w3 ⟨u3, rfl, hu3, hb3⟩
    have HB3 := Lib.hid (HB1.out.trans ((below_then (B := w1.heap.size) hb2 hb2.size hb3).mono HB1.out.size))
    have Hu3 := Lib.hid hu3
    clear ho2 hb2 hg2 hat2 hb3 hu3
    go_wp2_with fail
    refine (Hg2.out w3 ⟨A, c, rfl, hcap, Hr.out.below HB3.out⟩).mono ?_
    rintro e w4 ⟨u4, rfl, hu4, hb4⟩
    have HB4 := Lib.hid (HB3.out.trans (hb4.mono HB3.out.size))
    obtain ⟨A5, c5, rfl, hc5, hr5⟩ := Hu3.out.below hb4
    obtain ⟨A6, c6, rfl, hc6, hr6⟩ := hu4
    have Hr4 := Lib.hid (Hr.out.below HB4.out)
    have Hr42 := Lib.hid (Hr2.out.below HB4.out)
    have E5 := Lib.hid (fun W (h : Below w4.heap.size w4 W) => conv_bytes_string (P := Try.prog) 22 5 9 Try.underlying22 Try.underlying5 Try.underlying9 (hr5.below h) c5)
    have E6 := Lib.hid (fun W (h : Below w4.heap.size w4 W) => conv_bytes_string (P := Try.prog) 22 5 9 Try.underlying22 Try.underlying5 Try.underlying9 (hr6.below h) c6)
    clear hb4 hr5 hr6 Hg1 Hg2 Hu3 HB3
    go_wp2_with fail
    have SS := fun W (h : Below w4.heap.size w4 W) => (⟨h, E5.out _ h, E6.out _ h⟩ : Below w4.heap.size w4 W ∧ (convert 22 9 (.slice A5 l.length c5)).run Try.prog W = .ok (.string (strOfNums l)) W ∧ (convert 22 9 (.slice A6 l.length c6)).run Try.prog W = .ok (.string (strOfNums l)) W)
    clear E5 E6
    refine wp_region_noPanic ?_
    refine wp_region_held_drew (S := fun W => Below w4.heap.size w4 W ∧ (convert 22 9 (.slice A5 l.length c5)).run Try.prog W = .ok (.string (strOfNums l)) W ∧ (convert 22 9 (.slice A6 l.length c6)).run Try.prog W = .ok (.string (strOfNums l)) W) (by kernel_rfl) (SS _ (Below.refl _ _).drew) (fun hHeld => ?_)
    refine held_take (i := 0) (v := ?_) rfl (by kernel_rfl) (by kernel_rfl) (by kernel_rfl) (fun _ _ _ h => h) (by rfl) hHeld ?y10_0 ?_
    case y10_0 => (intro w hSw; (try dsimp only at hSw); go_simp; try with_reducible rfl)
    try simp only [Act.put, List.setIfInBounds_toArray, List.set_cons_zero, List.set_cons_succ]
    refine held_calm (i := 1) (v := ?_) rfl (by kernel_rfl) (by kernel_rfl) (by kernel_rfl) (fun _ _ _ h => h) (by rfl) hHeld ?y10_1 ?_
    case y10_1 => (intro w hSw; refine calm_call (vals := #[.slice A xs.length c]) _ _ (by rfl) Try.func17 (by kernel_rfl) (by kernel_rfl) (by simp only [List.map_toArray, List.map_cons, List.map_nil]; rfl) ?_; exact crc_sum _ xs w ⟨A, c, rfl, hcap, Hr4.out.below hSw.1⟩ hby)
    try simp only [Act.put, List.setIfInBounds_toArray, List.set_cons_zero, List.set_cons_succ]
    refine held_take (i := 2) (v := ?_) rfl (by kernel_rfl) (by kernel_rfl) (by kernel_rfl) (fun _ _ _ h => h) (by rfl) hHeld ?y10_2 ?_
    case y10_2 => (intro w hSw; (try dsimp only at hSw); go_simp; try with_reducible rfl)
    try simp only [Act.put, List.setIfInBounds_toArray, List.set_cons_zero, List.set_cons_succ]
    refine held_calm (i := 3) (v := ?_) rfl (by kernel_rfl) (by kernel_rfl) (by kernel_rfl) (fun _ _ _ h => h) (by rfl) hHeld ?y10_3 ?_
    case y10_3 => (intro w hSw; refine calm_call (vals := #[.slice A xs.length c]) _ _ (by rfl) Try.func18 (by kernel_rfl) (by kernel_rfl) (by simp only [List.map_toArray, List.map_cons, List.map_nil]; rfl) ?_; exact ref_sum _ xs w ⟨A, c, rfl, hcap, Hr4.out.below hSw.1⟩ hby)
    try simp only [Act.put, List.setIfInBounds_toArray, List.set_cons_zero, List.set_cons_succ]
    refine held_take (i := 4) (v := ?_) rfl (by kernel_rfl) (by kernel_rfl) (by kernel_rfl) (fun _ _ _ h => h) (by rfl) hHeld ?y10_4 ?_
    case y10_4 => (intro w hSw; (try dsimp only at hSw); go_simp; try with_reducible rfl)
    try simp only [Act.put, List.setIfInBounds_toArray, List.set_cons_zero, List.set_cons_succ]
    refine held_take (i := 5) (v := ?_) rfl (by kernel_rfl) (by kernel_rfl) (by kernel_rfl) (fun _ _ _ h => h) (by rfl) hHeld ?y10_5 ?_
    case y10_5 => (intro w hSw; (try dsimp only at hSw); go_simp; try with_reducible rfl)
    try simp only [Act.put, List.setIfInBounds_toArray, List.set_cons_zero, List.set_cons_succ]
    refine held_take (i := 6) (v := ?_) rfl (by kernel_rfl) (by kernel_rfl) (by kernel_rfl) (fun _ _ _ h => h) (by rfl) hHeld ?y10_6 ?_
    case y10_6 => (intro w hSw; (try dsimp only at hSw); go_simp; try with_reducible rfl)
    try simp only [Act.put, List.setIfInBounds_toArray, List.set_cons_zero, List.set_cons_succ]
    refine held_calm (i := 7) (v := ?_) rfl (by kernel_rfl) (by kernel_rfl) (by kernel_rfl) (fun _ _ _ h => h) (by rfl) hHeld ?y10_7 ?_
    case y10_7 => (intro w hSw; refine calm_call (vals := #[.slice A xs.length c]) _ _ (by rfl) Try.func17 (by kernel_rfl) (by kernel_rfl) (by simp only [List.map_toArray, List.map_cons, List.map_nil]; rfl) ?_; exact crc_sum _ xs w ⟨A, c, rfl, hcap, Hr4.out.below hSw.1⟩ hby)
    try simp only [Act.put, List.setIfInBounds_toArray, List.set_cons_zero, List.set_cons_succ]
    refine held_take (i := 8) (v := ?_) rfl (by kernel_rfl) (by kernel_rfl) (by kernel_rfl) (fun _ _ _ h => h) (by rfl) hHeld ?y10_8 ?_
    case y10_8 => (intro w hSw; (try dsimp only at hSw); go_simp; try with_reducible rfl)
    try simp only [Act.put, List.setIfInBounds_toArray, List.set_cons_zero, List.set_cons_succ]
    refine held_calm (i := 9) (v := ?_) rfl (by kernel_rfl) (by kernel_rfl) (by kernel_rfl) (fun _ _ _ h => h) (by rfl) hHeld ?y10_9 ?_
    case y10_9 => (intro w hSw; refine calm_call (vals := #[.int .u32 ((crcMore 0#32 xs).toNat : Int), .slice A2 ys.length c2]) _ _ (by rfl) Try.func19 (by kernel_rfl) (by kernel_rfl) (by simp only [List.map_toArray, List.map_cons, List.map_nil]; rfl) ?_; exact crc_more (crcMore 0#32 xs) _ ys w ⟨A2, c2, rfl, hcap2, Hr42.out.below hSw.1⟩ hby')
    try simp only [Act.put, List.setIfInBounds_toArray, List.set_cons_zero, List.set_cons_succ]
    refine held_take (i := 10) (v := ?_) rfl (by kernel_rfl) (by kernel_rfl) (by kernel_rfl) (fun _ _ _ h => h) (by rfl) hHeld ?y10_10 ?_
    case y10_10 => (intro w hSw; (try dsimp only at hSw); go_simp; try with_reducible rfl)
    try simp only [Act.put, List.setIfInBounds_toArray, List.set_cons_zero, List.set_cons_succ]
    refine held_take (i := 12) (v := ?_) rfl (by kernel_rfl) (by kernel_rfl) (by kernel_rfl) (fun _ _ _ h => h) (by rfl) hHeld ?y10_12 ?_
    case y10_12 => (intro w hSw; (try dsimp only at hSw); go_simp; try with_reducible rfl)
    try simp only [Act.put, List.setIfInBounds_toArray, List.set_cons_zero, List.set_cons_succ]
    refine held_one (i := 11) (by kernel_rfl) rfl (fun K hK => ?_)
    (refine step_append_bytes w4.heap.size (by rfl) (.const (.slice none 0 0)) (.tmp 53) _ _ (by rfl) Try.underlying22 info8 (.slice none 0 0) [] xs A xs.length c (by rfl) (by rfl) (own_nil _ _ _ _) (by exact Hr4.out.below hHeld.1) hHeld.1.size Hl1.out ?_; intro v11 w11 ho11 hg11 hn11; have hb11 := below_of_grown hg11; (try replace ho19 := OwnB.below ho19 hb11); (try replace ho25 := OwnB.below ho25 hb11); (try replace ho22 := OwnB.below ho22 hb11); have hS11 := SS _ (hHeld.1.trans (hb11.mono hHeld.1.size)))
    refine hK.out _ _ ?_ (fun hHeld => ?_)
    · exact hS11
    clear hK K
    try simp only [Act.put, List.setIfInBounds_toArray, List.set_cons_zero, List.set_cons_succ]
    refine held_one (i := 13) (by kernel_rfl) rfl (fun K hK => ?_)
    (refine step_append_bytes w4.heap.size (by rfl) (.tmp 54) (.tmp 55) _ _ (by rfl) Try.underlying22 info8 v11 ([] ++ xs) ys A2 ys.length c2 (by rfl) (by rfl) (by exact ho11) (by exact Hr42.out.below hHeld.1) hHeld.1.size Hl3.out ?_; intro v13 w13 ho13 hg13 hn13; have hS13 := SS _ (hHeld.1.trans (below_of_own hg13 ho11 hHeld.1.size)))
    refine hK.out _ _ ?_ (fun hHeld => ?_)
    · exact hS13
    clear hK K
    try simp only [Act.put, List.setIfInBounds_toArray, List.set_cons_zero, List.set_cons_succ]
    refine held_one (i := 14) (by kernel_rfl) rfl (fun K hK => ?_)
    (refine step_call (by rfl) _ _ (by rfl) Try.func18 (by kernel_rfl) (by kernel_rfl) (by simp only [List.map_toArray, List.map_cons, List.map_nil]; rfl) ((ref_sum _ ([] ++ xs ++ ys) _ (OwnB.rd ho13) (by rw [List.nil_append]; exact hby.append hby')).mono ?_); rintro e w14 ⟨rfl, rfl⟩; have hS14 := hHeld; refine ⟨_, rfl, ?_⟩; rw [List.nil_append, ← Hsp.out])
    refine hK.out _ _ ?_ (fun hHeld => ?_)
    · exact hS14
    clear hK K
    try simp only [Act.put, List.setIfInBounds_toArray, List.set_cons_zero, List.set_cons_succ]
    refine held_take (i := 15) (v := ?_) rfl (by kernel_rfl) (by kernel_rfl) (by kernel_rfl) (fun _ _ _ h => h) (by rfl) hHeld ?y10_15 ?_
    case y10_15 => (intro w hSw; (try dsimp only at hSw); go_simp; try with_reducible rfl)
    try simp only [Act.put, List.setIfInBounds_toArray, List.set_cons_zero, List.set_cons_succ]
    refine held_take (i := 16) (v := ?_) rfl (by kernel_rfl) (by kernel_rfl) (by kernel_rfl) (fun _ _ _ h => h) (by rfl) hHeld ?y10_16 ?_
    case y10_16 => (intro w hSw; (try dsimp only at hSw); go_simp; try with_reducible rfl)
    try simp only [Act.put, List.setIfInBounds_toArray, List.set_cons_zero, List.set_cons_succ]
    refine held_take (i := 17) (v := ?_) rfl (by kernel_rfl) (by kernel_rfl) (by kernel_rfl) (fun _ _ _ h => h) (by rfl) hHeld ?y10_17 ?_
    case y10_17 => (intro w hSw; (try dsimp only at hSw); go_simp; try with_reducible rfl)
    try simp only [Act.put, List.setIfInBounds_toArray, List.set_cons_zero, List.set_cons_succ]
    refine held_take (i := 18) (v := ?_) rfl (by kernel_rfl) (by kernel_rfl) (by kernel_rfl) (fun _ _ _ h => h) (by rfl) hHeld ?y10_18 ?_
    case y10_18 => (intro w hSw; (try dsimp only at hSw); go_simp; try with_reducible rfl)
    try simp only [Act.put, List.setIfInBounds_toArray, List.set_cons_zero, List.set_cons_succ]
    refine held_take (i := 20) (v := ?_) rfl (by kernel_rfl) (by kernel_rfl) (by kernel_rfl) (fun _ _ _ h => h) (by rfl) hHeld ?y10_20 ?_
    case y10_20 => (intro w hSw; (try dsimp only at hSw); go_simp; try with_reducible rfl)
    try simp only [Act.put, List.setIfInBounds_toArray, List.set_cons_zero, List.set_cons_succ]
    refine held_take (i := 21) (v := ?_) rfl (by kernel_rfl) (by kernel_rfl) (by kernel_rfl) (fun _ _ _ h => h) (by rfl) hHeld ?y10_21 ?_
    case y10_21 => (intro w hSw; (try dsimp only at hSw); go_simp; try with_reducible rfl)
    try simp only [Act.put, List.setIfInBounds_toArray, List.set_cons_zero, List.set_cons_succ]
    refine held_take (i := 24) (v := ?_) rfl (by kernel_rfl) (by kernel_rfl) (by kernel_rfl) (fun _ _ _ h => h) (by rfl) hHeld ?y10_24 ?_
    case y10_24 => (intro w hSw; (try dsimp only at hSw); go_simp; try with_reducible rfl)
    try simp only [Act.put, List.setIfInBounds_toArray, List.set_cons_zero, List.set_cons_succ]
    refine held_take (i := 26) (v := ?_) rfl (by kernel_rfl) (by kernel_rfl) (by kernel_rfl) (fun _ _ _ h => h) (by rfl) hHeld ?y10_26 ?_
    case y10_26 => (intro w hSw; (try dsimp only at hSw); go_simp; try with_reducible rfl)
    try simp only [Act.put, List.setIfInBounds_toArray, List.set_cons_zero, List.set_cons_succ]
    refine held_take (i := 27) (v := ?_) rfl (by kernel_rfl) (by kernel_rfl) (by kernel_rfl) (fun _ _ _ h => h) (by rfl) hHeld ?y10_27 ?_
    case y10_27 => (intro w hSw; (try dsimp only at hSw); go_simp; try with_reducible rfl)
    try simp only [Act.put, List.setIfInBounds_toArray, List.set_cons_zero, List.set_cons_succ]
    refine held_one (i := 19) (by kernel_rfl) rfl (fun K hK => ?_)
    (refine step_append_bytes w4.heap.size (by rfl) (.const (.slice none 0 0)) (.tmp 61) _ _ (by rfl) Try.underlying22 info8 (.slice none 0 0) [] ys A2 ys.length c2 (by rfl) (by rfl) (own_nil _ _ _ _) (by exact Hr42.out.below hHeld.1) hHeld.1.size Hl2.out ?_; intro v19 w19 ho19 hg19 hn19; have hb19 := below_of_grown hg19; (try have hne := ne_row hn19 ho25); (try replace ho19 := OwnB.below ho19 hb19); (try replace ho25 := OwnB.below ho25 hb19); (try replace ho22 := OwnB.below ho22 hb19); have hS19 := SS _ (hHeld.1.trans (hb19.mono hHeld.1.size)))
    refine hK.out _ _ ?_ (fun hHeld => ?_)
    · exact hS19
    clear hK K
    try simp only [Act.put, List.setIfInBounds_toArray, List.set_cons_zero, List.set_cons_succ]
    refine held_one (i := 22) (by kernel_rfl) rfl (fun K hK => ?_)
    (refine step_call (by rfl) _ _ (by rfl) Try.func20 (by kernel_rfl) (by kernel_rfl) (by simp only [List.map_toArray, List.map_cons, List.map_nil]; rfl) ((crc_put w4.heap.size v19 ([] ++ ys) n k _ (by exact ho19) hHeld.1.size Hl4.out).mono ?_); rintro e w22 ⟨v22, rfl, ho22, hg22, hn22⟩; have hS22 := SS _ (hHeld.1.trans (below_of_own hg22 (by exact ho19) hHeld.1.size)); (try have hne22 := ne_append hne hn22 ho25); (try replace ho25 := own_other ho25 hg22 (ne_other hne)); rw [Hzs.out] at ho22; obtain ⟨A22, c22, rfl, hc22, hr22⟩ := ho22.rd; have e22 := fun W (h : Below w22.heap.size w22 W) => conv_bytes_string (P := Try.prog) 22 5 9 Try.underlying22 Try.underlying5 Try.underlying9 (hr22.below h) c22; have hrefl22 := Below.refl w22.heap.size w22; refine ⟨_, rfl, ?_⟩)
    refine hK.out _ _ ?_ (fun hHeld => ?_)
    · exact hS22
    clear hK K
    try simp only [Act.put, List.setIfInBounds_toArray, List.set_cons_zero, List.set_cons_succ]
    refine wpAnyH_ready (rs := [23, 25]) (by kernel_rfl) (by simp) ?_
    refine held_cons (i := 23) rfl (fun K hK => ?_) (held_cons (i := 25) rfl (fun K hK => ?_) AllReadyH.nil)
    · go_simp
      refine hK.out _ _ ?_ (fun hHeld => ?_)
      · exact hHeld
      clear hK K
      try simp only [Act.put, List.setIfInBounds_toArray, List.set_cons_zero, List.set_cons_succ]
      refine held_one (i := 25) (by kernel_rfl) rfl (fun K hK => ?_)
      (refine step_append_bytes w4.heap.size (by rfl) (.const (.slice none 0 0)) (.tmp 67) _ _ (by rfl) Try.underlying22 info8 (.slice none 0 0) [] ys A2 ys.length c2 (by rfl) (by rfl) (own_nil _ _ _ _) (by exact Hr42.out.below hHeld.1) hHeld.1.size Hl2.out ?_; intro v25 w25 ho25 hg25 hn25; have hb25 := below_of_grown hg25; (try have hne := ne_symm (ne_row hn25 ho19)); (try have hne22 := ne_symm (ne_row hn25 ho22)); (try replace ho19 := OwnB.below ho19 hb25); (try replace ho25 := OwnB.below ho25 hb25); (try replace ho22 := OwnB.below ho22 hb25); have hS25 := SS _ (hHeld.1.trans (hb25.mono hHeld.1.size)))
      refine hK.out _ _ ?_ (fun hHeld => ?_)
      · exact hS25
      clear hK K
      try simp only [Act.put, List.setIfInBounds_toArray, List.set_cons_zero, List.set_cons_succ]
      refine held_one (i := 28) (by kernel_rfl) rfl (fun K hK => ?_)
      (refine step_call (by rfl) _ _ (by rfl) Try.func21 (by kernel_rfl) (by kernel_rfl) (by simp only [List.map_toArray, List.map_cons, List.map_nil]; rfl) ((ref_put w4.heap.size v25 ([] ++ ys) n k _ (by exact ho25) hHeld.1.size Hl4.out).mono ?_); rintro e w28 ⟨v28, rfl, ho28, hg28, hn28⟩; have hS28 := SS _ (hHeld.1.trans (below_of_own hg28 (by exact ho25) hHeld.1.size)); (try (have ho22b := own_other ho22 hg28 (ne_other (ne_symm hne22)); obtain ⟨Ab, cb, heb, hcb, hrb⟩ := OwnB.rd ho22b; injection heb with he1 he2 he3; subst he1; subst he3; clear he2; have e22b := conv_bytes_string (P := Try.prog) 22 5 9 Try.underlying22 Try.underlying5 Try.underlying9 hrb c22)); rw [Hzs.out] at ho28; obtain ⟨A28, c28, rfl, hc28, hr28⟩ := ho28.rd; have e28 := conv_bytes_string (P := Try.prog) 22 5 9 Try.underlying22 Try.underlying5 Try.underlying9 hr28 c28; refine ⟨_, rfl, ?_⟩)
      refine hK.out _ _ ?_ (fun hHeld => ?_)
      · exact hS28
      clear hK K
      try simp only [Act.put, List.setIfInBounds_toArray, List.set_cons_zero, List.set_cons_succ]
      refine held_one (i := 29) (by kernel_rfl) rfl (fun K hK => ?_)
      go_simp
      refine hK.out _ _ ?_ (fun hHeld => ?_)
      · exact hHeld
      clear hK K
      try simp only [Act.put, List.setIfInBounds_toArray, List.set_cons_zero, List.set_cons_succ]
      refine held_take (i := 30) (v := ?_) rfl (by kernel_rfl) (by kernel_rfl) (by kernel_rfl) (fun _ _ _ h => h) (by rfl) hHeld ?y10_30 ?_
      case y10_30 => (intro w hSw; (try dsimp only at hSw); go_simp; try with_reducible rfl)
      try simp only [Act.put, List.setIfInBounds_toArray, List.set_cons_zero, List.set_cons_succ]
      refine held_take (i := 31) (v := ?_) rfl (by kernel_rfl) (by kernel_rfl) (by kernel_rfl) (fun _ _ _ h => h) (by rfl) hHeld ?y10_31 ?_
      case y10_31 => (intro w hSw; (try dsimp only at hSw); go_simp; try with_reducible rfl)
      try simp only [Act.put, List.setIfInBounds_toArray, List.set_cons_zero, List.set_cons_succ]
      refine held_take (i := 32) (v := ?_) rfl (by kernel_rfl) (by kernel_rfl) (by kernel_rfl) (fun _ _ _ h => h) (by rfl) hHeld ?y10_32 ?_
      case y10_32 => (intro w hSw; (try dsimp only at hSw); go_simp; try with_reducible rfl)
      try simp only [Act.put, List.setIfInBounds_toArray, List.set_cons_zero, List.set_cons_succ]
      refine held_take (i := 33) (v := ?_) rfl (by kernel_rfl) (by kernel_rfl) (by kernel_rfl) (fun _ _ _ h => h) (by rfl) hHeld ?y10_33 ?_
      case y10_33 => (intro w hSw; (try dsimp only at hSw); go_simp; try with_reducible rfl)
      try simp only [Act.put, List.setIfInBounds_toArray, List.set_cons_zero, List.set_cons_succ]
      refine held_take (i := 34) (v := ?_) rfl (by kernel_rfl) (by kernel_rfl) (by kernel_rfl) (fun _ _ _ h => h) (by rfl) hHeld ?y10_34 ?_
      case y10_34 => (intro w hSw; (try dsimp only at hSw); go_simp; try with_reducible rfl)
      try simp only [Act.put, List.setIfInBounds_toArray, List.set_cons_zero, List.set_cons_succ]
      refine held_take (i := 35) (v := ?_) rfl (by kernel_rfl) (by kernel_rfl) (by kernel_rfl) (fun _ _ _ h => h) (by rfl) hHeld ?y10_35 ?_
      case y10_35 => (intro w hSw; (try dsimp only at hSw); go_simp; try with_reducible rfl)
      try simp only [Act.put, List.setIfInBounds_toArray, List.set_cons_zero, List.set_cons_succ]
      refine held_take (i := 36) (v := ?_) rfl (by kernel_rfl) (by kernel_rfl) (by kernel_rfl) (fun _ _ _ h => h) (by rfl) hHeld ?y10_36 ?_
      case y10_36 => (intro w hSw; (try dsimp only at hSw); go_simp; try with_reducible rfl)
      try simp only [Act.put, List.setIfInBounds_toArray, List.set_cons_zero, List.set_cons_succ]
      refine held_take (i := 37) (v := ?_) rfl (by kernel_rfl) (by kernel_rfl) (by kernel_rfl) (fun _ _ _ h => h) (by rfl) hHeld ?y10_37 ?_
      case y10_37 => (intro w hSw; (try dsimp only at hSw); go_simp; try with_reducible rfl)
      try simp only [Act.put, List.setIfInBounds_toArray, List.set_cons_zero, List.set_cons_succ]
      refine held_take (i := 38) (v := ?_) rfl (by kernel_rfl) (by kernel_rfl) (by kernel_rfl) (fun _ _ _ h => h) (by rfl) hHeld ?y10_38 ?_
      case y10_38 => (intro w hSw; (try dsimp only at hSw); go_simp; try with_reducible rfl)
      try simp only [Act.put, List.setIfInBounds_toArray, List.set_cons_zero, List.set_cons_succ]
      refine held_take (i := 39) (v := ?_) rfl (by kernel_rfl) (by kernel_rfl) (by kernel_rfl) (fun _ _ _ h => h) (by rfl) hHeld ?y10_39 ?_
      case y10_39 => (intro w hSw; (try dsimp only at hSw); go_simp; try with_reducible rfl)
      try simp only [Act.put, List.setIfInBounds_toArray, List.set_cons_zero, List.set_cons_succ]
      refine held_take (i := 40) (v := ?_) rfl (by kernel_rfl) (by kernel_rfl) (by kernel_rfl) (fun _ _ _ h => h) (by rfl) hHeld ?y10_40 ?_
      case y10_40 => (intro w hSw; (try dsimp only at hSw); go_simp; try with_reducible rfl)
      try simp only [Act.put, List.setIfInBounds_toArray, List.set_cons_zero, List.set_cons_succ]
      refine held_take (i := 41) (v := ?_) rfl (by kernel_rfl) (by kernel_rfl) (by kernel_rfl) (fun _ _ _ h => h) (by rfl) hHeld ?y10_41 ?_
      case y10_41 => (intro w hSw; (try dsimp only at hSw); go_simp; try with_reducible rfl)
      try simp only [Act.put, List.setIfInBounds_toArray, List.set_cons_zero, List.set_cons_succ]
      refine held_take (i := 42) (v := ?_) rfl (by kernel_rfl) (by kernel_rfl) (by kernel_rfl) (fun _ _ _ h => h) (by rfl) hHeld ?y10_42 ?_
      case y10_42 => (intro w hSw; (try dsimp only at hSw); go_simp; try with_reducible rfl)
      try simp only [Act.put, List.setIfInBounds_toArray, List.set_cons_zero, List.set_cons_succ]
      refine held_take (i := 43) (v := ?_) rfl (by kernel_rfl) (by kernel_rfl) (by kernel_rfl) (fun _ _ _ h => h) (by rfl) hHeld ?y10_43 ?_
      case y10_43 => (intro w hSw; (try dsimp only at hSw); go_simp; try with_reducible rfl)
      try simp only [Act.put, List.setIfInBounds_toArray, List.set_cons_zero, List.set_cons_succ]
      refine held_take (i := 44) (v := ?_) rfl (by kernel_rfl) (by kernel_rfl) (by kernel_rfl) (fun _ _ _ h => h) (by rfl) hHeld ?y10_44 ?_
      case y10_44 => (intro w hSw; (try dsimp only at hSw); go_simp; try with_reducible rfl)
      try simp only [Act.put, List.setIfInBounds_toArray, List.set_cons_zero, List.set_cons_succ]
      refine held_take (i := 45) (v := ?_) rfl (by kernel_rfl) (by kernel_rfl) (by kernel_rfl) (fun _ _ _ h => h) (by rfl) hHeld ?y10_45 ?_
      case y10_45 => (intro w hSw; (try dsimp only at hSw); go_simp; try with_reducible rfl)
      try simp only [Act.put, List.setIfInBounds_toArray, List.set_cons_zero, List.set_cons_succ]
      refine held_take (i := 46) (v := ?_) rfl (by kernel_rfl) (by kernel_rfl) (by kernel_rfl) (fun _ _ _ h => h) (by rfl) hHeld ?y10_46 ?_
      case y10_46 => (intro w hSw; (try dsimp only at hSw); go_simp; try with_reducible rfl)
      try simp only [Act.put, List.setIfInBounds_toArray, List.set_cons_zero, List.set_cons_succ]
      refine held_take (i := 47) (v := ?_) rfl (by kernel_rfl) (by kernel_rfl) (by kernel_rfl) (fun _ _ _ h => h) (by rfl) hHeld ?y10_47 ?_
      case y10_47 => (intro w hSw; (try dsimp only at hSw); go_simp; try with_reducible rfl)
      try simp only [Act.put, List.setIfInBounds_toArray, List.set_cons_zero, List.set_cons_succ]
      refine held_take (i := 48) (v := ?_) rfl (by kernel_rfl) (by kernel_rfl) (by kernel_rfl) (fun _ _ _ h => h) (by rfl) hHeld ?y10_48 ?_
      case y10_48 => (intro w hSw; (try dsimp only at hSw); go_simp; try with_reducible rfl)
      try simp only [Act.put, List.setIfInBounds_toArray, List.set_cons_zero, List.set_cons_succ]
      refine held_take (i := 49) (v := ?_) rfl (by kernel_rfl) (by kernel_rfl) (by kernel_rfl) (fun _ _ _ h => h) (by rfl) hHeld ?y10_49 ?_
      case y10_49 => (intro w hSw; (try dsimp only at hSw); go_simp; try with_reducible rfl)
      try simp only [Act.put, List.setIfInBounds_toArray, List.set_cons_zero, List.set_cons_succ]
      refine wpAnyH_done (by kernel_rfl) ?_ _
      refine NoPanic.normal ?_
      go_wp2
      go_ret
      exact ⟨rfl, HB4.out.trans (hHeld.1.mono HB4.out.size)⟩
    · (refine step_append_bytes w4.heap.size (by rfl) (.const (.slice none 0 0)) (.tmp 67) _ _ (by rfl) Try.underlying22 info8 (.slice none 0 0) [] ys A2 ys.length c2 (by rfl) (by rfl) (own_nil _ _ _ _) (by exact Hr42.out.below hHeld.1) hHeld.1.size Hl2.out ?_; intro v25 w25 ho25 hg25 hn25; have hb25 := below_of_grown hg25; (try have hne := ne_symm (ne_row hn25 ho19)); (try have hne22 := ne_symm (ne_row hn25 ho22)); (try replace ho19 := OwnB.below ho19 hb25); (try replace ho25 := OwnB.below ho25 hb25); (try replace ho22 := OwnB.below ho22 hb25); have hS25 := SS _ (hHeld.1.trans (hb25.mono hHeld.1.size)))
      refine hK.out _ _ ?_ (fun hHeld => ?_)
      · exact hS25
      clear hK K
      try simp only [Act.put, List.setIfInBounds_toArray, List.set_cons_zero, List.set_cons_succ]
      refine wpAnyH_ready (rs := [23, 28]) (by kernel_rfl) (by simp) ?_
      refine held_cons (i := 23) rfl (fun K hK => ?_) (held_cons (i := 28) rfl (fun K hK => ?_) AllReadyH.nil)
      · go_simp
        refine hK.out _ _ ?_ (fun hHeld => ?_)
        · exact hHeld
        clear hK K
        try simp only [Act.put, List.setIfInBounds_toArray, List.set_cons_zero, List.set_cons_succ]
        refine held_one (i := 28) (by kernel_rfl) rfl (fun K hK => ?_)
        (refine step_call (by rfl) _ _ (by rfl) Try.func21 (by kernel_rfl) (by kernel_rfl) (by simp only [List.map_toArray, List.map_cons, List.map_nil]; rfl) ((ref_put w4.heap.size v25 ([] ++ ys) n k _ (by exact ho25) hHeld.1.size Hl4.out).mono ?_); rintro e w28 ⟨v28, rfl, ho28, hg28, hn28⟩; have hS28 := SS _ (hHeld.1.trans (below_of_own hg28 (by exact ho25) hHeld.1.size)); (try (have ho22b := own_other ho22 hg28 (ne_other (ne_symm hne22)); obtain ⟨Ab, cb, heb, hcb, hrb⟩ := OwnB.rd ho22b; injection heb with he1 he2 he3; subst he1; subst he3; clear he2; have e22b := conv_bytes_string (P := Try.prog) 22 5 9 Try.underlying22 Try.underlying5 Try.underlying9 hrb c22)); rw [Hzs.out] at ho28; obtain ⟨A28, c28, rfl, hc28, hr28⟩ := ho28.rd; have e28 := conv_bytes_string (P := Try.prog) 22 5 9 Try.underlying22 Try.underlying5 Try.underlying9 hr28 c28; refine ⟨_, rfl, ?_⟩)
        refine hK.out _ _ ?_ (fun hHeld => ?_)
        · exact hS28
        clear hK K
        try simp only [Act.put, List.setIfInBounds_toArray, List.set_cons_zero, List.set_cons_succ]
        refine held_one (i := 29) (by kernel_rfl) rfl (fun K hK => ?_)
        go_simp
        refine hK.out _ _ ?_ (fun hHeld => ?_)
        · exact hHeld
        clear hK K
        try simp only [Act.put, List.setIfInBounds_toArray, List.set_cons_zero, List.set_cons_succ]
        refine held_take (i := 30) (v := ?_) rfl (by kernel_rfl) (by kernel_rfl) (by kernel_rfl) (fun _ _ _ h => h) (by rfl) hHeld ?y10_30 ?_
        case y10_30 => (intro w hSw; (try dsimp only at hSw); go_simp; try with_reducible rfl)
        try simp only [Act.put, List.setIfInBounds_toArray, List.set_cons_zero, List.set_cons_succ]
        refine held_take (i := 31) (v := ?_) rfl (by kernel_rfl) (by kernel_rfl) (by kernel_rfl) (fun _ _ _ h => h) (by rfl) hHeld ?y10_31 ?_
        case y10_31 => (intro w hSw; (try dsimp only at hSw); go_simp; try with_reducible rfl)
        try simp only [Act.put, List.setIfInBounds_toArray, List.set_cons_zero, List.set_cons_succ]
        refine held_take (i := 32) (v := ?_) rfl (by kernel_rfl) (by kernel_rfl) (by kernel_rfl) (fun _ _ _ h => h) (by rfl) hHeld ?y10_32 ?_
        case y10_32 => (intro w hSw; (try dsimp only at hSw); go_simp; try with_reducible rfl)
        try simp only [Act.put, List.setIfInBounds_toArray, List.set_cons_zero, List.set_cons_succ]
        refine held_take (i := 33) (v := ?_) rfl (by kernel_rfl) (by kernel_rfl) (by kernel_rfl) (fun _ _ _ h => h) (by rfl) hHeld ?y10_33 ?_
        case y10_33 => (intro w hSw; (try dsimp only at hSw); go_simp; try with_reducible rfl)
        try simp only [Act.put, List.setIfInBounds_toArray, List.set_cons_zero, List.set_cons_succ]
        refine held_take (i := 34) (v := ?_) rfl (by kernel_rfl) (by kernel_rfl) (by kernel_rfl) (fun _ _ _ h => h) (by rfl) hHeld ?y10_34 ?_
        case y10_34 => (intro w hSw; (try dsimp only at hSw); go_simp; try with_reducible rfl)
        try simp only [Act.put, List.setIfInBounds_toArray, List.set_cons_zero, List.set_cons_succ]
        refine held_take (i := 35) (v := ?_) rfl (by kernel_rfl) (by kernel_rfl) (by kernel_rfl) (fun _ _ _ h => h) (by rfl) hHeld ?y10_35 ?_
        case y10_35 => (intro w hSw; (try dsimp only at hSw); go_simp; try with_reducible rfl)
        try simp only [Act.put, List.setIfInBounds_toArray, List.set_cons_zero, List.set_cons_succ]
        refine held_take (i := 36) (v := ?_) rfl (by kernel_rfl) (by kernel_rfl) (by kernel_rfl) (fun _ _ _ h => h) (by rfl) hHeld ?y10_36 ?_
        case y10_36 => (intro w hSw; (try dsimp only at hSw); go_simp; try with_reducible rfl)
        try simp only [Act.put, List.setIfInBounds_toArray, List.set_cons_zero, List.set_cons_succ]
        refine held_take (i := 37) (v := ?_) rfl (by kernel_rfl) (by kernel_rfl) (by kernel_rfl) (fun _ _ _ h => h) (by rfl) hHeld ?y10_37 ?_
        case y10_37 => (intro w hSw; (try dsimp only at hSw); go_simp; try with_reducible rfl)
        try simp only [Act.put, List.setIfInBounds_toArray, List.set_cons_zero, List.set_cons_succ]
        refine held_take (i := 38) (v := ?_) rfl (by kernel_rfl) (by kernel_rfl) (by kernel_rfl) (fun _ _ _ h => h) (by rfl) hHeld ?y10_38 ?_
        case y10_38 => (intro w hSw; (try dsimp only at hSw); go_simp; try with_reducible rfl)
        try simp only [Act.put, List.setIfInBounds_toArray, List.set_cons_zero, List.set_cons_succ]
        refine held_take (i := 39) (v := ?_) rfl (by kernel_rfl) (by kernel_rfl) (by kernel_rfl) (fun _ _ _ h => h) (by rfl) hHeld ?y10_39 ?_
        case y10_39 => (intro w hSw; (try dsimp only at hSw); go_simp; try with_reducible rfl)
        try simp only [Act.put, List.setIfInBounds_toArray, List.set_cons_zero, List.set_cons_succ]
        refine held_take (i := 40) (v := ?_) rfl (by kernel_rfl) (by kernel_rfl) (by kernel_rfl) (fun _ _ _ h => h) (by rfl) hHeld ?y10_40 ?_
        case y10_40 => (intro w hSw; (try dsimp only at hSw); go_simp; try with_reducible rfl)
        try simp only [Act.put, List.setIfInBounds_toArray, List.set_cons_zero, List.set_cons_succ]
        refine held_take (i := 41) (v := ?_) rfl (by kernel_rfl) (by kernel_rfl) (by kernel_rfl) (fun _ _ _ h => h) (by rfl) hHeld ?y10_41 ?_
        case y10_41 => (intro w hSw; (try dsimp only at hSw); go_simp; try with_reducible rfl)
        try simp only [Act.put, List.setIfInBounds_toArray, List.set_cons_zero, List.set_cons_succ]
        refine held_take (i := 42) (v := ?_) rfl (by kernel_rfl) (by kernel_rfl) (by kernel_rfl) (fun _ _ _ h => h) (by rfl) hHeld ?y10_42 ?_
        case y10_42 => (intro w hSw; (try dsimp only at hSw); go_simp; try with_reducible rfl)
        try simp only [Act.put, List.setIfInBounds_toArray, List.set_cons_zero, List.set_cons_succ]
        refine held_take (i := 43) (v := ?_) rfl (by kernel_rfl) (by kernel_rfl) (by kernel_rfl) (fun _ _ _ h => h) (by rfl) hHeld ?y10_43 ?_
        case y10_43 => (intro w hSw; (try dsimp only at hSw); go_simp; try with_reducible rfl)
        try simp only [Act.put, List.setIfInBounds_toArray, List.set_cons_zero, List.set_cons_succ]
        refine held_take (i := 44) (v := ?_) rfl (by kernel_rfl) (by kernel_rfl) (by kernel_rfl) (fun _ _ _ h => h) (by rfl) hHeld ?y10_44 ?_
        case y10_44 => (intro w hSw; (try dsimp only at hSw); go_simp; try with_reducible rfl)
        try simp only [Act.put, List.setIfInBounds_toArray, List.set_cons_zero, List.set_cons_succ]
        refine held_take (i := 45) (v := ?_) rfl (by kernel_rfl) (by kernel_rfl) (by kernel_rfl) (fun _ _ _ h => h) (by rfl) hHeld ?y10_45 ?_
        case y10_45 => (intro w hSw; (try dsimp only at hSw); go_simp; try with_reducible rfl)
        try simp only [Act.put, List.setIfInBounds_toArray, List.set_cons_zero, List.set_cons_succ]
        refine held_take (i := 46) (v := ?_) rfl (by kernel_rfl) (by kernel_rfl) (by kernel_rfl) (fun _ _ _ h => h) (by rfl) hHeld ?y10_46 ?_
        case y10_46 => (intro w hSw; (try dsimp only at hSw); go_simp; try with_reducible rfl)
        try simp only [Act.put, List.setIfInBounds_toArray, List.set_cons_zero, List.set_cons_succ]
        refine held_take (i := 47) (v := ?_) rfl (by kernel_rfl) (by kernel_rfl) (by kernel_rfl) (fun _ _ _ h => h) (by rfl) hHeld ?y10_47 ?_
        case y10_47 => (intro w hSw; (try dsimp only at hSw); go_simp; try with_reducible rfl)
        try simp only [Act.put, List.setIfInBounds_toArray, List.set_cons_zero, List.set_cons_succ]
        refine held_take (i := 48) (v := ?_) rfl (by kernel_rfl) (by kernel_rfl) (by kernel_rfl) (fun _ _ _ h => h) (by rfl) hHeld ?y10_48 ?_
        case y10_48 => (intro w hSw; (try dsimp only at hSw); go_simp; try with_reducible rfl)
        try simp only [Act.put, List.setIfInBounds_toArray, List.set_cons_zero, List.set_cons_succ]
        refine held_take (i := 49) (v := ?_) rfl (by kernel_rfl) (by kernel_rfl) (by kernel_rfl) (fun _ _ _ h => h) (by rfl) hHeld ?y10_49 ?_
        case y10_49 => (intro w hSw; (try dsimp only at hSw); go_simp; try with_reducible rfl)
        try simp only [Act.put, List.setIfInBounds_toArray, List.set_cons_zero, List.set_cons_succ]
        refine wpAnyH_done (by kernel_rfl) ?_ _
        refine NoPanic.normal ?_
        go_wp2
        go_ret
        exact ⟨rfl, HB4.out.trans (hHeld.1.mono HB4.out.size)⟩
      · (refine step_call (by rfl) _ _ (by rfl) Try.func21 (by kernel_rfl) (by kernel_rfl) (by simp only [List.map_toArray, List.map_cons, List.map_nil]; rfl) ((ref_put w4.heap.size v25 ([] ++ ys) n k _ (by exact ho25) hHeld.1.size Hl4.out).mono ?_); rintro e w28 ⟨v28, rfl, ho28, hg28, hn28⟩; have hS28 := SS _ (hHeld.1.trans (below_of_own hg28 (by exact ho25) hHeld.1.size)); (try (have ho22b := own_other ho22 hg28 (ne_other (ne_symm hne22)); obtain ⟨Ab, cb, heb, hcb, hrb⟩ := OwnB.rd ho22b; injection heb with he1 he2 he3; subst he1; subst he3; clear he2; have e22b := conv_bytes_string (P := Try.prog) 22 5 9 Try.underlying22 Try.underlying5 Try.underlying9 hrb c22)); rw [Hzs.out] at ho28; obtain ⟨A28, c28, rfl, hc28, hr28⟩ := ho28.rd; have e28 := conv_bytes_string (P := Try.prog) 22 5 9 Try.underlying22 Try.underlying5 Try.underlying9 hr28 c28; refine ⟨_, rfl, ?_⟩)
        refine hK.out _ _ ?_ (fun hHeld => ?_)
        · exact hS28
        clear hK K
        try simp only [Act.put, List.setIfInBounds_toArray, List.set_cons_zero, List.set_cons_succ]
        refine wpAnyH_ready (rs := [23, 29]) (by kernel_rfl) (by simp) ?_
        refine held_cons (i := 23) rfl (fun K hK => ?_) (held_cons (i := 29) rfl (fun K hK => ?_) AllReadyH.nil)
        · go_simp
          refine hK.out _ _ ?_ (fun hHeld => ?_)
          · exact hHeld
          clear hK K
          try simp only [Act.put, List.setIfInBounds_toArray, List.set_cons_zero, List.set_cons_succ]
          refine held_one (i := 29) (by kernel_rfl) rfl (fun K hK => ?_)
          go_simp
          refine hK.out _ _ ?_ (fun hHeld => ?_)
          · exact hHeld
          clear hK K
          try simp only [Act.put, List.setIfInBounds_toArray, List.set_cons_zero, List.set_cons_succ]
          refine held_take (i := 30) (v := ?_) rfl (by kernel_rfl) (by kernel_rfl) (by kernel_rfl) (fun _ _ _ h => h) (by rfl) hHeld ?y10_30 ?_
          case y10_30 => (intro w hSw; (try dsimp only at hSw); go_simp; try with_reducible rfl)
          try simp only [Act.put, List.setIfInBounds_toArray, List.set_cons_zero, List.set_cons_succ]
          refine held_take (i := 31) (v := ?_) rfl (by kernel_rfl) (by kernel_rfl) (by kernel_rfl) (fun _ _ _ h => h) (by rfl) hHeld ?y10_31 ?_
          case y10_31 => (intro w hSw; (try dsimp only at hSw); go_simp; try with_reducible rfl)
          try simp only [Act.put, List.setIfInBounds_toArray, List.set_cons_zero, List.set_cons_succ]
          refine held_take (i := 32) (v := ?_) rfl (by kernel_rfl) (by kernel_rfl) (by kernel_rfl) (fun _ _ _ h => h) (by rfl) hHeld ?y10_32 ?_
          case y10_32 => (intro w hSw; (try dsimp only at hSw); go_simp; try with_reducible rfl)
          try simp only [Act.put, List.setIfInBounds_toArray, List.set_cons_zero, List.set_cons_succ]
          refine held_take (i := 33) (v := ?_) rfl (by kernel_rfl) (by kernel_rfl) (by kernel_rfl) (fun _ _ _ h => h) (by rfl) hHeld ?y10_33 ?_
          case y10_33 => (intro w hSw; (try dsimp only at hSw); go_simp; try with_reducible rfl)
          try simp only [Act.put, List.setIfInBounds_toArray, List.set_cons_zero, List.set_cons_succ]
          refine held_take (i := 34) (v := ?_) rfl (by kernel_rfl) (by kernel_rfl) (by kernel_rfl) (fun _ _ _ h => h) (by rfl) hHeld ?y10_34 ?_
          case y10_34 => (intro w hSw; (try dsimp only at hSw); go_simp; try with_reducible rfl)
          try simp only [Act.put, List.setIfInBounds_toArray, List.set_cons_zero, List.set_cons_succ]
          refine held_take (i := 35) (v := ?_) rfl (by kernel_rfl) (by kernel_rfl) (by kernel_rfl) (fun _ _ _ h => h) (by rfl) hHeld ?y10_35 ?_
          case y10_35 => (intro w hSw; (try dsimp only at hSw); go_simp; try with_reducible rfl)
          try simp only [Act.put, List.setIfInBounds_toArray, List.set_cons_zero, List.set_cons_succ]
          refine held_take (i := 36) (v := ?_) rfl (by kernel_rfl) (by kernel_rfl) (by kernel_rfl) (fun _ _ _ h => h) (by rfl) hHeld ?y10_36 ?_
          case y10_36 => (intro w hSw; (try dsimp only at hSw); go_simp; try with_reducible rfl)
          try simp only [Act.put, List.setIfInBounds_toArray, List.set_cons_zero, List.set_cons_succ]
          refine held_take (i := 37) (v := ?_) rfl (by kernel_rfl) (by kernel_rfl) (by kernel_rfl) (fun _ _ _ h => h) (by rfl) hHeld ?y10_37 ?_
          case y10_37 => (intro w hSw; (try dsimp only at hSw); go_simp; try with_reducible rfl)
          try simp only [Act.put, List.setIfInBounds_toArray, List.set_cons_zero, List.set_cons_succ]
          refine held_take (i := 38) (v := ?_) rfl (by kernel_rfl) (by kernel_rfl) (by kernel_rfl) (fun _ _ _ h => h) (by rfl) hHeld ?y10_38 ?_
          case y10_38 => (intro w hSw; (try dsimp only at hSw); go_simp; try with_reducible rfl)
          try simp only [Act.put, List.setIfInBounds_toArray, List.set_cons_zero, List.set_cons_succ]
          refine held_take (i := 39) (v := ?_) rfl (by kernel_rfl) (by kernel_rfl) (by kernel_rfl) (fun _ _ _ h => h) (by rfl) hHeld ?y10_39 ?_
          case y10_39 => (intro w hSw; (try dsimp only at hSw); go_simp; try with_reducible rfl)
          try simp only [Act.put, List.setIfInBounds_toArray, List.set_cons_zero, List.set_cons_succ]
          refine held_take (i := 40) (v := ?_) rfl (by kernel_rfl) (by kernel_rfl) (by kernel_rfl) (fun _ _ _ h => h) (by rfl) hHeld ?y10_40 ?_
          case y10_40 => (intro w hSw; (try dsimp only at hSw); go_simp; try with_reducible rfl)
          try simp only [Act.put, List.setIfInBounds_toArray, List.set_cons_zero, List.set_cons_succ]
          refine held_take (i := 41) (v := ?_) rfl (by kernel_rfl) (by kernel_rfl) (by kernel_rfl) (fun _ _ _ h => h) (by rfl) hHeld ?y10_41 ?_
          case y10_41 => (intro w hSw; (try dsimp only at hSw); go_simp; try with_reducible rfl)
          try simp only [Act.put, List.setIfInBounds_toArray, List.set_cons_zero, List.set_cons_succ]
          refine held_take (i := 42) (v := ?_) rfl (by kernel_rfl) (by kernel_rfl) (by kernel_rfl) (fun _ _ _ h => h) (by rfl) hHeld ?y10_42 ?_
          case y10_42 => (intro w hSw; (try dsimp only at hSw); go_simp; try with_reducible rfl)
          try simp only [Act.put, List.setIfInBounds_toArray, List.set_cons_zero, List.set_cons_succ]
          refine held_take (i := 43) (v := ?_) rfl (by kernel_rfl) (by kernel_rfl) (by kernel_rfl) (fun _ _ _ h => h) (by rfl) hHeld ?y10_43 ?_
          case y10_43 => (intro w hSw; (try dsimp only at hSw); go_simp; try with_reducible rfl)
          try simp only [Act.put, List.setIfInBounds_toArray, List.set_cons_zero, List.set_cons_succ]
          refine held_take (i := 44) (v := ?_) rfl (by kernel_rfl) (by kernel_rfl) (by kernel_rfl) (fun _ _ _ h => h) (by rfl) hHeld ?y10_44 ?_
          case y10_44 => (intro w hSw; (try dsimp only at hSw); go_simp; try with_reducible rfl)
          try simp only [Act.put, List.setIfInBounds_toArray, List.set_cons_zero, List.set_cons_succ]
          refine held_take (i := 45) (v := ?_) rfl (by kernel_rfl) (by kernel_rfl) (by kernel_rfl) (fun _ _ _ h => h) (by rfl) hHeld ?y10_45 ?_
          case y10_45 => (intro w hSw; (try dsimp only at hSw); go_simp; try with_reducible rfl)
          try simp only [Act.put, List.setIfInBounds_toArray, List.set_cons_zero, List.set_cons_succ]
          refine held_take (i := 46) (v := ?_) rfl (by kernel_rfl) (by kernel_rfl) (by kernel_rfl) (fun _ _ _ h => h) (by rfl) hHeld ?y10_46 ?_
          case y10_46 => (intro w hSw; (try dsimp only at hSw); go_simp; try with_reducible rfl)
          try simp only [Act.put, List.setIfInBounds_toArray, List.set_cons_zero, List.set_cons_succ]
          refine held_take (i := 47) (v := ?_) rfl (by kernel_rfl) (by kernel_rfl) (by kernel_rfl) (fun _ _ _ h => h) (by rfl) hHeld ?y10_47 ?_
          case y10_47 => (intro w hSw; (try dsimp only at hSw); go_simp; try with_reducible rfl)
          try simp only [Act.put, List.setIfInBounds_toArray, List.set_cons_zero, List.set_cons_succ]
          refine held_take (i := 48) (v := ?_) rfl (by kernel_rfl) (by kernel_rfl) (by kernel_rfl) (fun _ _ _ h => h) (by rfl) hHeld ?y10_48 ?_
          case y10_48 => (intro w hSw; (try dsimp only at hSw); go_simp; try with_reducible rfl)
          try simp only [Act.put, List.setIfInBounds_toArray, List.set_cons_zero, List.set_cons_succ]
          refine held_take (i := 49) (v := ?_) rfl (by kernel_rfl) (by kernel_rfl) (by kernel_rfl) (fun _ _ _ h => h) (by rfl) hHeld ?y10_49 ?_
          case y10_49 => (intro w hSw; (try dsimp only at hSw); go_simp; try with_reducible rfl)
          try simp only [Act.put, List.setIfInBounds_toArray, List.set_cons_zero, List.set_cons_succ]
          refine wpAnyH_done (by kernel_rfl) ?_ _
          refine NoPanic.normal ?_
          go_wp2
          go_ret
          exact ⟨rfl, HB4.out.trans (hHeld.1.mono HB4.out.size)⟩
        · go_simp
          refine hK.out _ _ ?_ (fun hHeld => ?_)
          · exact hHeld
          clear hK K
          try simp only [Act.put, List.setIfInBounds_toArray, List.set_cons_zero, List.set_cons_succ]
          refine held_one (i := 23) (by kernel_rfl) rfl (fun K hK => ?_)
          go_simp
          refine hK.out _ _ ?_ (fun hHeld => ?_)
          · exact hHeld
          clear hK K
          try simp only [Act.put, List.setIfInBounds_toArray, List.set_cons_zero, List.set_cons_succ]
          refine held_take (i := 30) (v := ?_) rfl (by kernel_rfl) (by kernel_rfl) (by kernel_rfl) (fun _ _ _ h => h) (by rfl) hHeld ?y10_30 ?_
          case y10_30 => (intro w hSw; (try dsimp only at hSw); go_simp; try with_reducible rfl)
          try simp only [Act.put, List.setIfInBounds_toArray, List.set_cons_zero, List.set_cons_succ]
          refine held_take (i := 31) (v := ?_) rfl (by kernel_rfl) (by kernel_rfl) (by kernel_rfl) (fun _ _ _ h => h) (by rfl) hHeld ?y10_31 ?_
          case y10_31 => (intro w hSw; (try dsimp only at hSw); go_simp; try with_reducible rfl)
          try simp only [Act.put, List.setIfInBounds_toArray, List.set_cons_zero, List.set_cons_succ]
          refine held_take (i := 32) (v := ?_) rfl (by kernel_rfl) (by kernel_rfl) (by kernel_rfl) (fun _ _ _ h => h) (by rfl) hHeld ?y10_32 ?_
          case y10_32 => (intro w hSw; (try dsimp only at hSw); go_simp; try with_reducible rfl)
          try simp only [Act.put, List.setIfInBounds_toArray, List.set_cons_zero, List.set_cons_succ]
          refine held_take (i := 33) (v := ?_) rfl (by kernel_rfl) (by kernel_rfl) (by kernel_rfl) (fun _ _ _ h => h) (by rfl) hHeld ?y10_33 ?_
          case y10_33 => (intro w hSw; (try dsimp only at hSw); go_simp; try with_reducible rfl)
          try simp only [Act.put, List.setIfInBounds_toArray, List.set_cons_zero, List.set_cons_succ]
          refine held_take (i := 34) (v := ?_) rfl (by kernel_rfl) (by kernel_rfl) (by kernel_rfl) (fun _ _ _ h => h) (by rfl) hHeld ?y10_34 ?_
          case y10_34 => (intro w hSw; (try dsimp only at hSw); go_simp; try with_reducible rfl)
          try simp only [Act.put, List.setIfInBounds_toArray, List.set_cons_zero, List.set_cons_succ]
          refine held_take (i := 35) (v := ?_) rfl (by kernel_rfl) (by kernel_rfl) (by kernel_rfl) (fun _ _ _ h => h) (by rfl) hHeld ?y10_35 ?_
          case y10_35 => (intro w hSw; (try dsimp only at hSw); go_simp; try with_reducible rfl)
          try simp only [Act.put, List.setIfInBounds_toArray, List.set_cons_zero, List.set_cons_succ]
          refine held_take (i := 36) (v := ?_) rfl (by kernel_rfl) (by kernel_rfl) (by kernel_rfl) (fun _ _ _ h => h) (by rfl) hHeld ?y10_36 ?_
          case y10_36 => (intro w hSw; (try dsimp only at hSw); go_simp; try with_reducible rfl)
          try simp only [Act.put, List.setIfInBounds_toArray, List.set_cons_zero, List.set_cons_succ]
          refine held_take (i := 37) (v := ?_) rfl (by kernel_rfl) (by kernel_rfl) (by kernel_rfl) (fun _ _ _ h => h) (by rfl) hHeld ?y10_37 ?_
          case y10_37 => (intro w hSw; (try dsimp only at hSw); go_simp; try with_reducible rfl)
          try simp only [Act.put, List.setIfInBounds_toArray, List.set_cons_zero, List.set_cons_succ]
          refine held_take (i := 38) (v := ?_) rfl (by kernel_rfl) (by kernel_rfl) (by kernel_rfl) (fun _ _ _ h => h) (by rfl) hHeld ?y10_38 ?_
          case y10_38 => (intro w hSw; (try dsimp only at hSw); go_simp; try with_reducible rfl)
          try simp only [Act.put, List.setIfInBounds_toArray, List.set_cons_zero, List.set_cons_succ]
          refine held_take (i := 39) (v := ?_) rfl (by kernel_rfl) (by kernel_rfl) (by kernel_rfl) (fun _ _ _ h => h) (by rfl) hHeld ?y10_39 ?_
          case y10_39 => (intro w hSw; (try dsimp only at hSw); go_simp; try with_reducible rfl)
          try simp only [Act.put, List.setIfInBounds_toArray, List.set_cons_zero, List.set_cons_succ]
          refine held_take (i := 40) (v := ?_) rfl (by kernel_rfl) (by kernel_rfl) (by kernel_rfl) (fun _ _ _ h => h) (by rfl) hHeld ?y10_40 ?_
          case y10_40 => (intro w hSw; (try dsimp only at hSw); go_simp; try with_reducible rfl)
          try simp only [Act.put, List.setIfInBounds_toArray, List.set_cons_zero, List.set_cons_succ]
          refine held_take (i := 41) (v := ?_) rfl (by kernel_rfl) (by kernel_rfl) (by kernel_rfl) (fun _ _ _ h => h) (by rfl) hHeld ?y10_41 ?_
          case y10_41 => (intro w hSw; (try dsimp only at hSw); go_simp; try with_reducible rfl)
          try simp only [Act.put, List.setIfInBounds_toArray, List.set_cons_zero, List.set_cons_succ]
          refine held_take (i := 42) (v := ?_) rfl (by kernel_rfl) (by kernel_rfl) (by kernel_rfl) (fun _ _ _ h => h) (by rfl) hHeld ?y10_42 ?_
          case y10_42 => (intro w hSw; (try dsimp only at hSw); go_simp; try with_reducible rfl)
          try simp only [Act.put, List.setIfInBounds_toArray, List.set_cons_zero, List.set_cons_succ]
          refine held_take (i := 43) (v := ?_) rfl (by kernel_rfl) (by kernel_rfl) (by kernel_rfl) (fun _ _ _ h => h) (by rfl) hHeld ?y10_43 ?_
          case y10_43 => (intro w hSw; (try dsimp only at hSw); go_simp; try with_reducible rfl)
          try simp only [Act.put, List.setIfInBounds_toArray, List.set_cons_zero, List.set_cons_succ]
          refine held_take (i := 44) (v := ?_) rfl (by kernel_rfl) (by kernel_rfl) (by kernel_rfl) (fun _ _ _ h => h) (by rfl) hHeld ?y10_44 ?_
          case y10_44 => (intro w hSw; (try dsimp only at hSw); go_simp; try with_reducible rfl)
          try simp only [Act.put, List.setIfInBounds_toArray, List.set_cons_zero, List.set_cons_succ]
          refine held_take (i := 45) (v := ?_) rfl (by kernel_rfl) (by kernel_rfl) (by kernel_rfl) (fun _ _ _ h => h) (by rfl) hHeld ?y10_45 ?_
          case y10_45 => (intro w hSw; (try dsimp only at hSw); go_simp; try with_reducible rfl)
          try simp only [Act.put, List.setIfInBounds_toArray, List.set_cons_zero, List.set_cons_succ]
          refine held_take (i := 46) (v := ?_) rfl (by kernel_rfl) (by kernel_rfl) (by kernel_rfl) (fun _ _ _ h => h) (by rfl) hHeld ?y10_46 ?_
          case y10_46 => (intro w hSw; (try dsimp only at hSw); go_simp; try with_reducible rfl)
          try simp only [Act.put, List.setIfInBounds_toArray, List.set_cons_zero, List.set_cons_succ]
          refine held_take (i := 47) (v := ?_) rfl (by kernel_rfl) (by kernel_rfl) (by kernel_rfl) (fun _ _ _ h => h) (by rfl) hHeld ?y10_47 ?_
          case y10_47 => (intro w hSw; (try dsimp only at hSw); go_simp; try with_reducible rfl)
          try simp only [Act.put, List.setIfInBounds_toArray, List.set_cons_zero, List.set_cons_succ]
          refine held_take (i := 48) (v := ?_) rfl (by kernel_rfl) (by kernel_rfl) (by kernel_rfl) (fun _ _ _ h => h) (by rfl) hHeld ?y10_48 ?_
          case y10_48 => (intro w hSw; (try dsimp only at hSw); go_simp; try with_reducible rfl)
          try simp only [Act.put, List.setIfInBounds_toArray, List.set_cons_zero, List.set_cons_succ]
          refine held_take (i := 49) (v := ?_) rfl (by kernel_rfl) (by kernel_rfl) (by kernel_rfl) (fun _ _ _ h => h) (by rfl) hHeld ?y10_49 ?_
          case y10_49 => (intro w hSw; (try dsimp only at hSw); go_simp; try with_reducible rfl)
          try simp only [Act.put, List.setIfInBounds_toArray, List.set_cons_zero, List.set_cons_succ]
          refine wpAnyH_done (by kernel_rfl) ?_ _
          refine NoPanic.normal ?_
          go_wp2
          go_ret
          exact ⟨rfl, HB4.out.trans (hHeld.1.mono HB4.out.size)⟩
end Go.Proofs.Yteebojnabifccaa
