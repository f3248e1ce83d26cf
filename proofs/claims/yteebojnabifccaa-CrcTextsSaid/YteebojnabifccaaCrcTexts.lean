import Derived.Test.YteebojnabifccaaKnown
import Derived.Test.YteebojnabifccaaCrcMath2
import Derived.Test.YteebojnabifccaaCrcRef3
import Derived.Test.YteebojnabifccaaHeld
/- CrcTexts: every text behind bytes, and what is read of whatever bytes. -/
namespace Go.Proofs.Yteebojnabifccaa
open Go.RowKit Go.Proofs.YteebojnabifccaaW.PrintWords Go.Proofs.YteebojnabifccaaW.PrintMore

/-- what GetText tells as a string and a row, in one shape for both texts -/
theorem getT_by (xs : List Int) (hx : By xs) (most : Int) : By (getT xs most).1 ∧ By (getT xs most).2.1 := by
  unfold getT
  split
  · exact ⟨By.nil, hx⟩
  · split
    · exact ⟨By.nil, hx⟩
    · split
      · exact ⟨By.nil, hx⟩
      · exact ⟨(hx.drop _).take _, (hx.drop _).drop _⟩

set_option maxHeartbeats 800000 in
set_option maxRecDepth 100000 in
theorem crcTexts_walk (v : Value) (xs : List Int) (s : ByteArray) (most : Int) (w : World) (hr : RdB w v xs) (hby : By xs) (hz : xs.length ≤ 140737488351232) (hzs : s.size ≤ 140737488351232)
    (hm : -9223372036854775808 ≤ most ∧ most < 9223372036854775808) :
    Calls Try.prog 6 #[v, .string s, .int .i64 most] w fun e w' => e = .returned (.bool true) ∧ Below w.heap.size w w' := by
  obtain ⟨A, c, rfl, hcap, hread⟩ := hr
  obtain ⟨hm0, hm1⟩ := hm
  have Hr := Lib.hid hread
  clear hread
  by_cases h3 : 300 < xs.length
  · go_enter Try.func6, Try.ntmps6
    go_wp2_with (go_at_call 14; refine (known1 _).mono ?_; rintro e w1 ⟨rfl, hb1⟩)
    go_ret
    exact ⟨rfl, hb1⟩
  by_cases h4 : 300 < s.size
  · go_enter Try.func6, Try.ntmps6
    go_wp2_with (go_at_call 14; refine (known1 _).mono ?_; rintro e w1 ⟨rfl, hb1⟩)
    go_ret
    exact ⟨rfl, hb1⟩
  have Hl1 := Lib.hid (show (([] : List Int).length + xs.length) * 1 ≤ 140737488355328 from by simp; omega)
  go_enter Try.func6, Try.ntmps6
  go_wp2_with (first
    | (go_at_call 14; refine (known1 _).mono ?_; rintro e w1 ⟨rfl, hb1⟩; have HB1 := Lib.hid hb1; clear hb1; have Hrd1 := Lib.hid (Hr.out.below HB1.out))
    | (at_builtin; refine print_append_row (w0 := w1) w1.heap.size rfl _ _ _ _ .u8 1 rfl Try.underlying22 info8 (by omega) (.slice none 0 0) [] xs A xs.length c rfl rfl (own_nil _ _ _ _) Hrd1.out (Below.refl _ _) (Nat.le_refl _) Hl1.out ?_; intro v2 w2 ho2 hb2 hg2 hat2))
  rw [List.nil_append] at ho2
  refine (crc_text w1.heap.size v2 xs s (by omega) w2 ho2 hb2.size (by omega)).mono ?_
  rintro e w3 ⟨v3, rfl, ho3, hg3, hn3⟩
  generalize hys : xs ++ (le (s.size : Int) 2 ++ bytesOf s) = ys at ho3
  have Hys := Lib.hid hys
  have hyl : ys.length = xs.length + (s.size + 2) := by rw [← hys, List.length_append, show le (s.size : Int) 2 ++ bytesOf s = txt s from rfl, txt_length]
  have Hyl := Lib.hid hyl
  clear hys hyl
  have HB13 := Lib.hid (hb2.trans (below_of_own hg3 ho2 hb2.size))
  have HB3 := Lib.hid (HB1.out.trans (HB13.out.mono HB1.out.size))
  have Ho3 := Lib.hid ho3
  clear ho2 hb2 hg2 hat2 hg3 hn3 ho3
  have Hrd3 := Lib.hid (Hr.out.below HB3.out)
  go_wp2_with (at_builtin; refine print_append_row (w0 := w3) w3.heap.size rfl _ _ _ _ .u8 1 rfl Try.underlying22 info8 (by omega) (.slice none 0 0) [] xs A xs.length c rfl rfl (own_nil _ _ _ _) Hrd3.out (Below.refl _ _) (Nat.le_refl _) Hl1.out ?_; intro v4 w4 ho4 hb4 hg4 hat4)
  rw [List.nil_append] at ho4
  refine (crc_getText v4 xs most w4 (OwnB.rd ho4) hby).mono ?_
  rintro e w5 ⟨v5, rfl, hr5, hb5⟩
  have HB35 := Lib.hid (below_then (B := w3.heap.size) hb4 hb4.size hb5)
  have HB5 := Lib.hid (HB3.out.trans (HB35.out.mono HB3.out.size))
  clear ho4 hb4 hg4 hat4 hb5
  have Hrd5 := Lib.hid (Hr.out.below HB5.out)
  have Hr5 := Lib.hid hr5
  clear hr5
  go_wp2_with fail
  refine (ref_getText (.slice A xs.length c) xs most hm1 w5 ⟨A, c, rfl, hcap, Hrd5.out⟩ hby).mono ?_
  rintro e w6 ⟨v6, rfl, hr6, hb6⟩
  have HB36 := Lib.hid (HB35.out.trans (hb6.mono HB35.out.size))
  have HB6 := Lib.hid (HB5.out.trans (hb6.mono HB5.out.size))
  have Hr5' := Lib.hid (Hr5.out.below hb6)
  have Hr6 := Lib.hid hr6
  clear hr6 hb6 Hr5 Hrd5 HB35 Hrd3
  obtain ⟨A3, c3, rfl, hc3, hr3⟩ := (OwnB.below Ho3.out HB36.out).rd
  obtain ⟨ds, A7, c7, hds, hdc, hdr, _⟩ := cut_from' (w := w6) hc3 hr3 .i64 (xs.length : Int) (by omega) (by rw [Hyl.out]; omega)
  have hds2 : ds = txt s := by rw [hds, Int.toNat_natCast, ← Hys.out, List.drop_left' rfl]; rfl
  have hg7 := crc_getText (.slice A7 ds.length c7) ds 300 w6 hdr (hds2 ▸ txt_by s)
  have hgt := getT_txt s (by omega) [] 300
  rw [if_neg (by omega), List.append_nil, ← hds2] at hgt
  unfold GetTP at hg7
  rw [hgt] at hg7
  have Hg7 := Lib.hid hg7
  have Hr3 := Lib.hid hr3
  clear hg7 hgt hds hds2 hdr hr3 Ho3
  have hyx : (xs.length : Int) ≤ (ys.length : Int) := by rw [Hyl.out]; omega
  have hyc : ys.length ≤ c3 := hc3
  go_wp2_with fail
  refine Hg7.out.mono ?_
  rintro e w7 ⟨v7, rfl, hr7, hb7⟩
  have HB37 := Lib.hid (HB36.out.trans (hb7.mono HB36.out.size))
  have HB7 := Lib.hid (HB6.out.trans (hb7.mono HB6.out.size))
  have Hs1 := strOfNums_bytesOf s
  obtain ⟨A8, c8, rfl, hc8, hr8⟩ := hr7
  obtain ⟨A5, c5, rfl, hc5, hr5⟩ := Hr5'.out.below hb7
  obtain ⟨A6, c6, rfl, hc6, hr6⟩ := Hr6.out.below hb7
  have hr3 := Hr3.out.below hb7
  have E3 := Lib.hid (fun W (h : Below w7.heap.size w7 W) => conv_bytes_string (P := Try.prog) 22 5 9 Try.underlying22 Try.underlying5 Try.underlying9 (hr3.below h) c3)
  have E5 := Lib.hid (fun W (h : Below w7.heap.size w7 W) => conv_bytes_string (P := Try.prog) 22 5 9 Try.underlying22 Try.underlying5 Try.underlying9 (hr5.below h) c5)
  have E6 := Lib.hid (fun W (h : Below w7.heap.size w7 W) => conv_bytes_string (P := Try.prog) 22 5 9 Try.underlying22 Try.underlying5 Try.underlying9 (hr6.below h) c6)
  have Hrd7 := Lib.hid (Hr.out.below HB7.out)
  clear Hg7 hb7 hr8 hr5 hr6 hr3 HB37 HB6 HB36 HB5 HB3 HB13 HB1 Hr5' Hr6 Hr3 hdc
  generalize (getT xs most).1 = gt at *
  generalize (getT xs most).2.1 = gl at *
  generalize (getT xs most).2.2 = ge at *
  go_wp2_with fail
  have h7 : Below w7.heap.size w7 w7.drew := (Below.refl _ _).drew
  have SS := fun W (h : Below w7.heap.size w7 W) => (⟨h, E3.out _ h, E5.out _ h, E6.out _ h⟩ : Below w7.heap.size w7 W ∧ (convert 22 9 (.slice A3 ys.length c3)).run Try.prog W = .ok (.string (strOfNums ys)) W ∧
      (convert 22 9 (.slice A5 gl.length c5)).run Try.prog W = .ok (.string (strOfNums gl)) W ∧ (convert 22 9 (.slice A6 gl.length c6)).run Try.prog W = .ok (.string (strOfNums gl)) W)
  clear E3 E5 E6
  refine wp_region_noPanic ?_
  refine wp_region_held_drew (S := fun W => Below w7.heap.size w7 W ∧ (convert 22 9 (.slice A3 ys.length c3)).run Try.prog W = .ok (.string (strOfNums ys)) W ∧
      (convert 22 9 (.slice A5 gl.length c5)).run Try.prog W = .ok (.string (strOfNums gl)) W ∧ (convert 22 9 (.slice A6 gl.length c6)).run Try.prog W = .ok (.string (strOfNums gl)) W) (by kernel_rfl) (SS _ h7) (fun hHeld => ?_)
  refine held_take (i := 0) (v := ?_) rfl (by kernel_rfl) (by kernel_rfl) (by kernel_rfl) (fun _ _ _ h => h) (by rfl) hHeld ?y9_0 ?_
  case y9_0 => (intro w hSw; (try dsimp only at hSw); go_simp; try with_reducible rfl)
  try simp only [Act.put, List.setIfInBounds_toArray, List.set_cons_zero, List.set_cons_succ]
  refine held_take (i := 1) (v := ?_) rfl (by kernel_rfl) (by kernel_rfl) (by kernel_rfl) (fun _ _ _ h => h) (by rfl) hHeld ?y9_1 ?_
  case y9_1 => (intro w hSw; (try dsimp only at hSw); go_simp; try with_reducible rfl)
  try simp only [Act.put, List.setIfInBounds_toArray, List.set_cons_zero, List.set_cons_succ]
  refine held_take (i := 2) (v := ?_) rfl (by kernel_rfl) (by kernel_rfl) (by kernel_rfl) (fun _ _ _ h => h) (by rfl) hHeld ?y9_2 ?_
  case y9_2 => (intro w hSw; (try dsimp only at hSw); go_simp; try with_reducible rfl)
  try simp only [Act.put, List.setIfInBounds_toArray, List.set_cons_zero, List.set_cons_succ]
  refine held_take (i := 4) (v := ?_) rfl (by kernel_rfl) (by kernel_rfl) (by kernel_rfl) (fun _ _ _ h => h) (by rfl) hHeld ?y9_4 ?_
  case y9_4 => (intro w hSw; (try dsimp only at hSw); go_simp; try with_reducible rfl)
  try simp only [Act.put, List.setIfInBounds_toArray, List.set_cons_zero, List.set_cons_succ]
  refine held_one (i := 3) (by kernel_rfl) rfl (fun K hK => ?_)
  (refine step_append_bytes w7.heap.size (by rfl) (.const (.slice none 0 0)) (.tmp 57) _ _ (by rfl) Try.underlying22 info8 (.slice none 0 0) [] xs A xs.length c (by rfl) (by rfl) (own_nil _ _ _ _) (by exact Hrd7.out) (Nat.le_refl _) Hl1.out ?_; intro v8 w8 ho8 hg8 hn8; have hS3 := SS _ (h7.trans (below_of_grown hg8)))
  refine hK.out _ _ ?_ (fun hHeld => ?_)
  · exact hS3
  clear hK K
  try simp only [Act.put, List.setIfInBounds_toArray, List.set_cons_zero, List.set_cons_succ]
  refine held_one (i := 5) (by kernel_rfl) rfl (fun K hK => ?_)
  (refine step_call (by rfl) _ _ (by rfl) Try.func25 (by kernel_rfl) (by kernel_rfl) (by simp only [List.map_toArray, List.map_cons, List.map_nil]; rfl) ((ref_text w7.heap.size v8 xs s (by omega) _ ho8 hS3.1.size (by omega)).mono ?_); rintro e w9 ⟨v9, rfl, ho9, hg9, hn9⟩; have hS5 := SS _ (hS3.1.trans (below_of_own hg9 ho8 hS3.1.size)); rw [Hys.out] at ho9; obtain ⟨A9, c9, rfl, hc9, hr9⟩ := ho9.rd; have e9 := conv_bytes_string (P := Try.prog) 22 5 9 Try.underlying22 Try.underlying5 Try.underlying9 hr9 c9; refine ⟨_, rfl, ?_⟩)
  refine hK.out _ _ ?_ (fun hHeld => ?_)
  · exact hS5
  clear hK K
  try simp only [Act.put, List.setIfInBounds_toArray, List.set_cons_zero, List.set_cons_succ]
  refine held_one (i := 6) (by kernel_rfl) rfl (fun K hK => ?_)
  go_simp
  refine hK.out _ _ ?_ (fun hHeld => ?_)
  · exact hHeld
  clear hK K
  try simp only [Act.put, List.setIfInBounds_toArray, List.set_cons_zero, List.set_cons_succ]
  refine held_take (i := 7) (v := ?_) rfl (by kernel_rfl) (by kernel_rfl) (by kernel_rfl) (fun _ _ _ h => h) (by rfl) hHeld ?y9_7 ?_
  case y9_7 => (intro w hSw; (try dsimp only at hSw); go_simp; try with_reducible rfl)
  try simp only [Act.put, List.setIfInBounds_toArray, List.set_cons_zero, List.set_cons_succ]
  refine held_take (i := 8) (v := ?_) rfl (by kernel_rfl) (by kernel_rfl) (by kernel_rfl) (fun _ _ _ h => h) (by rfl) hHeld ?y9_8 ?_
  case y9_8 => (intro w hSw; (try dsimp only at hSw); go_simp; try with_reducible rfl)
  try simp only [Act.put, List.setIfInBounds_toArray, List.set_cons_zero, List.set_cons_succ]
  refine held_take (i := 9) (v := ?_) rfl (by kernel_rfl) (by kernel_rfl) (by kernel_rfl) (fun _ _ _ h => h) (by rfl) hHeld ?y9_9 ?_
  case y9_9 => (intro w hSw; (try dsimp only at hSw); go_simp; try with_reducible rfl)
  try simp only [Act.put, List.setIfInBounds_toArray, List.set_cons_zero, List.set_cons_succ]
  refine held_take (i := 10) (v := ?_) rfl (by kernel_rfl) (by kernel_rfl) (by kernel_rfl) (fun _ _ _ h => h) (by rfl) hHeld ?y9_10 ?_
  case y9_10 => (intro w hSw; (try dsimp only at hSw); go_simp; try with_reducible rfl)
  try simp only [Act.put, List.setIfInBounds_toArray, List.set_cons_zero, List.set_cons_succ]
  refine held_take (i := 11) (v := ?_) rfl (by kernel_rfl) (by kernel_rfl) (by kernel_rfl) (fun _ _ _ h => h) (by rfl) hHeld ?y9_11 ?_
  case y9_11 => (intro w hSw; (try dsimp only at hSw); go_simp; try with_reducible rfl)
  try simp only [Act.put, List.setIfInBounds_toArray, List.set_cons_zero, List.set_cons_succ]
  refine held_take (i := 12) (v := ?_) rfl (by kernel_rfl) (by kernel_rfl) (by kernel_rfl) (fun _ _ _ h => h) (by rfl) hHeld ?y9_12 ?_
  case y9_12 => (intro w hSw; (try dsimp only at hSw); go_simp; try with_reducible rfl)
  try simp only [Act.put, List.setIfInBounds_toArray, List.set_cons_zero, List.set_cons_succ]
  refine held_take (i := 13) (v := ?_) rfl (by kernel_rfl) (by kernel_rfl) (by kernel_rfl) (fun _ _ _ h => h) (by rfl) hHeld ?y9_13 ?_
  case y9_13 => (intro w hSw; (try dsimp only at hSw); go_simp; try with_reducible rfl)
  try simp only [Act.put, List.setIfInBounds_toArray, List.set_cons_zero, List.set_cons_succ]
  refine held_take (i := 14) (v := ?_) rfl (by kernel_rfl) (by kernel_rfl) (by kernel_rfl) (fun _ _ _ h => h) (by rfl) hHeld ?y9_14 ?_
  case y9_14 => (intro w hSw; (try dsimp only at hSw); go_simp; try with_reducible rfl)
  try simp only [Act.put, List.setIfInBounds_toArray, List.set_cons_zero, List.set_cons_succ]
  refine held_take (i := 15) (v := ?_) rfl (by kernel_rfl) (by kernel_rfl) (by kernel_rfl) (fun _ _ _ h => h) (by rfl) hHeld ?y9_15 ?_
  case y9_15 => (intro w hSw; (try dsimp only at hSw); go_simp; try with_reducible rfl)
  try simp only [Act.put, List.setIfInBounds_toArray, List.set_cons_zero, List.set_cons_succ]
  refine held_take (i := 16) (v := ?_) rfl (by kernel_rfl) (by kernel_rfl) (by kernel_rfl) (fun _ _ _ h => h) (by rfl) hHeld ?y9_16 ?_
  case y9_16 => (intro w hSw; (try dsimp only at hSw); go_simp; try with_reducible rfl)
  try simp only [Act.put, List.setIfInBounds_toArray, List.set_cons_zero, List.set_cons_succ]
  refine held_take (i := 17) (v := ?_) rfl (by kernel_rfl) (by kernel_rfl) (by kernel_rfl) (fun _ _ _ h => h) (by rfl) hHeld ?y9_17 ?_
  case y9_17 => (intro w hSw; (try dsimp only at hSw); go_simp; try with_reducible rfl)
  try simp only [Act.put, List.setIfInBounds_toArray, List.set_cons_zero, List.set_cons_succ]
  refine held_take (i := 18) (v := ?_) rfl (by kernel_rfl) (by kernel_rfl) (by kernel_rfl) (fun _ _ _ h => h) (by rfl) hHeld ?y9_18 ?_
  case y9_18 => (intro w hSw; (try dsimp only at hSw); go_simp; try with_reducible rfl)
  try simp only [Act.put, List.setIfInBounds_toArray, List.set_cons_zero, List.set_cons_succ]
  refine held_take (i := 19) (v := ?_) rfl (by kernel_rfl) (by kernel_rfl) (by kernel_rfl) (fun _ _ _ h => h) (by rfl) hHeld ?y9_19 ?_
  case y9_19 => (intro w hSw; (try dsimp only at hSw); go_simp; try with_reducible rfl)
  try simp only [Act.put, List.setIfInBounds_toArray, List.set_cons_zero, List.set_cons_succ]
  refine held_take (i := 20) (v := ?_) rfl (by kernel_rfl) (by kernel_rfl) (by kernel_rfl) (fun _ _ _ h => h) (by rfl) hHeld ?y9_20 ?_
  case y9_20 => (intro w hSw; (try dsimp only at hSw); go_simp; try with_reducible rfl)
  try simp only [Act.put, List.setIfInBounds_toArray, List.set_cons_zero, List.set_cons_succ]
  refine held_take (i := 21) (v := ?_) rfl (by kernel_rfl) (by kernel_rfl) (by kernel_rfl) (fun _ _ _ h => h) (by rfl) hHeld ?y9_21 ?_
  case y9_21 => (intro w hSw; (try dsimp only at hSw); go_simp; try with_reducible rfl)
  try simp only [Act.put, List.setIfInBounds_toArray, List.set_cons_zero, List.set_cons_succ]
  refine held_take (i := 22) (v := ?_) rfl (by kernel_rfl) (by kernel_rfl) (by kernel_rfl) (fun _ _ _ h => h) (by rfl) hHeld ?y9_22 ?_
  case y9_22 => (intro w hSw; (try dsimp only at hSw); go_simp; try with_reducible rfl)
  try simp only [Act.put, List.setIfInBounds_toArray, List.set_cons_zero, List.set_cons_succ]
  refine held_take (i := 23) (v := ?_) rfl (by kernel_rfl) (by kernel_rfl) (by kernel_rfl) (fun _ _ _ h => h) (by rfl) hHeld ?y9_23 ?_
  case y9_23 => (intro w hSw; (try dsimp only at hSw); go_simp; try with_reducible rfl)
  try simp only [Act.put, List.setIfInBounds_toArray, List.set_cons_zero, List.set_cons_succ]
  refine held_take (i := 24) (v := ?_) rfl (by kernel_rfl) (by kernel_rfl) (by kernel_rfl) (fun _ _ _ h => h) (by rfl) hHeld ?y9_24 ?_
  case y9_24 => (intro w hSw; (try dsimp only at hSw); go_simp; try with_reducible rfl)
  try simp only [Act.put, List.setIfInBounds_toArray, List.set_cons_zero, List.set_cons_succ]
  refine held_take (i := 25) (v := ?_) rfl (by kernel_rfl) (by kernel_rfl) (by kernel_rfl) (fun _ _ _ h => h) (by rfl) hHeld ?y9_25 ?_
  case y9_25 => (intro w hSw; (try dsimp only at hSw); go_simp; try with_reducible rfl)
  try simp only [Act.put, List.setIfInBounds_toArray, List.set_cons_zero, List.set_cons_succ]
  refine held_take (i := 26) (v := ?_) rfl (by kernel_rfl) (by kernel_rfl) (by kernel_rfl) (fun _ _ _ h => h) (by rfl) hHeld ?y9_26 ?_
  case y9_26 => (intro w hSw; (try dsimp only at hSw); go_simp; try with_reducible rfl)
  try simp only [Act.put, List.setIfInBounds_toArray, List.set_cons_zero, List.set_cons_succ]
  refine held_take (i := 27) (v := ?_) rfl (by kernel_rfl) (by kernel_rfl) (by kernel_rfl) (fun _ _ _ h => h) (by rfl) hHeld ?y9_27 ?_
  case y9_27 => (intro w hSw; (try dsimp only at hSw); go_simp; try with_reducible rfl)
  try simp only [Act.put, List.setIfInBounds_toArray, List.set_cons_zero, List.set_cons_succ]
  refine held_take (i := 28) (v := ?_) rfl (by kernel_rfl) (by kernel_rfl) (by kernel_rfl) (fun _ _ _ h => h) (by rfl) hHeld ?y9_28 ?_
  case y9_28 => (intro w hSw; (try dsimp only at hSw); go_simp; try with_reducible rfl)
  try simp only [Act.put, List.setIfInBounds_toArray, List.set_cons_zero, List.set_cons_succ]
  refine held_take (i := 29) (v := ?_) rfl (by kernel_rfl) (by kernel_rfl) (by kernel_rfl) (fun _ _ _ h => h) (by rfl) hHeld ?y9_29 ?_
  case y9_29 => (intro w hSw; (try dsimp only at hSw); go_simp; try with_reducible rfl)
  try simp only [Act.put, List.setIfInBounds_toArray, List.set_cons_zero, List.set_cons_succ]
  refine held_take (i := 30) (v := ?_) rfl (by kernel_rfl) (by kernel_rfl) (by kernel_rfl) (fun _ _ _ h => h) (by rfl) hHeld ?y9_30 ?_
  case y9_30 => (intro w hSw; (try dsimp only at hSw); go_simp; try with_reducible rfl)
  try simp only [Act.put, List.setIfInBounds_toArray, List.set_cons_zero, List.set_cons_succ]
  refine held_take (i := 31) (v := ?_) rfl (by kernel_rfl) (by kernel_rfl) (by kernel_rfl) (fun _ _ _ h => h) (by rfl) hHeld ?y9_31 ?_
  case y9_31 => (intro w hSw; (try dsimp only at hSw); go_simp; try with_reducible rfl)
  try simp only [Act.put, List.setIfInBounds_toArray, List.set_cons_zero, List.set_cons_succ]
  refine held_take (i := 32) (v := ?_) rfl (by kernel_rfl) (by kernel_rfl) (by kernel_rfl) (fun _ _ _ h => h) (by rfl) hHeld ?y9_32 ?_
  case y9_32 => (intro w hSw; (try dsimp only at hSw); go_simp; try with_reducible rfl)
  try simp only [Act.put, List.setIfInBounds_toArray, List.set_cons_zero, List.set_cons_succ]
  refine held_take (i := 33) (v := ?_) rfl (by kernel_rfl) (by kernel_rfl) (by kernel_rfl) (fun _ _ _ h => h) (by rfl) hHeld ?y9_33 ?_
  case y9_33 => (intro w hSw; (try dsimp only at hSw); go_simp; try with_reducible rfl)
  try simp only [Act.put, List.setIfInBounds_toArray, List.set_cons_zero, List.set_cons_succ]
  refine held_take (i := 34) (v := ?_) rfl (by kernel_rfl) (by kernel_rfl) (by kernel_rfl) (fun _ _ _ h => h) (by rfl) hHeld ?y9_34 ?_
  case y9_34 => (intro w hSw; (try dsimp only at hSw); go_simp; try with_reducible rfl)
  try simp only [Act.put, List.setIfInBounds_toArray, List.set_cons_zero, List.set_cons_succ]
  refine held_take (i := 35) (v := ?_) rfl (by kernel_rfl) (by kernel_rfl) (by kernel_rfl) (fun _ _ _ h => h) (by rfl) hHeld ?y9_35 ?_
  case y9_35 => (intro w hSw; (try dsimp only at hSw); go_simp; try with_reducible rfl)
  try simp only [Act.put, List.setIfInBounds_toArray, List.set_cons_zero, List.set_cons_succ]
  refine held_take (i := 36) (v := ?_) rfl (by kernel_rfl) (by kernel_rfl) (by kernel_rfl) (fun _ _ _ h => h) (by rfl) hHeld ?y9_36 ?_
  case y9_36 => (intro w hSw; (try dsimp only at hSw); go_simp; try with_reducible rfl)
  try simp only [Act.put, List.setIfInBounds_toArray, List.set_cons_zero, List.set_cons_succ]
  refine held_take (i := 37) (v := ?_) rfl (by kernel_rfl) (by kernel_rfl) (by kernel_rfl) (fun _ _ _ h => h) (by rfl) hHeld ?y9_37 ?_
  case y9_37 => (intro w hSw; (try dsimp only at hSw); go_simp; try with_reducible rfl)
  try simp only [Act.put, List.setIfInBounds_toArray, List.set_cons_zero, List.set_cons_succ]
  refine held_take (i := 38) (v := ?_) rfl (by kernel_rfl) (by kernel_rfl) (by kernel_rfl) (fun _ _ _ h => h) (by rfl) hHeld ?y9_38 ?_
  case y9_38 => (intro w hSw; (try dsimp only at hSw); go_simp; try with_reducible rfl)
  try simp only [Act.put, List.setIfInBounds_toArray, List.set_cons_zero, List.set_cons_succ]
  refine held_take (i := 39) (v := ?_) rfl (by kernel_rfl) (by kernel_rfl) (by kernel_rfl) (fun _ _ _ h => h) (by rfl) hHeld ?y9_39 ?_
  case y9_39 => (intro w hSw; (try dsimp only at hSw); go_simp; try with_reducible rfl)
  try simp only [Act.put, List.setIfInBounds_toArray, List.set_cons_zero, List.set_cons_succ]
  refine wpAnyH_done (by kernel_rfl) ?_ _
  refine NoPanic.normal ?_
  go_wp2
  go_ret
  exact ⟨rfl, HB7.out.trans (hHeld.1.mono HB7.out.size)⟩
end Go.Proofs.Yteebojnabifccaa
