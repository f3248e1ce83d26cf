import Derived.Test.YteebojnabifccaaFrame3
import Derived.Test.YteebojnabifccaaHeld2
/- Rows of rows of bytes that are read, and hornbooklaw21.texts. -/
namespace Go.Proofs.Yteebojnabifccaa
open Go.RowKit Go.Proofs.YteebojnabifccaaW.PrintWords Go.Proofs.YteebojnabifccaaW.PrintMore

/-- A row of rows of bytes is read. -/
def RdBB (w : World) (v : Value) (ls : List (List Int)) : Prop :=
  ∃ A c, v = .slice A ls.length c ∧ ls.length ≤ c ∧ ls.length ≤ 9223372036854775807 ∧
    (0 < ls.length → ∃ ad, A = some ad ∧ ∀ i, i < ls.length → ∃ u, w.cell? (ad.add i) = some u ∧ RdB w u (ls.getD i []))
theorem RdBB.below {w w1 : World} {v : Value} {ls : List (List Int)} (h : RdBB w v ls) (hb : Below w.heap.size w w1) : RdBB w1 v ls := by
  obtain ⟨A, c, rfl, hc, hm, hr⟩ := h
  refine ⟨A, c, rfl, hc, hm, fun h0 => ?_⟩
  obtain ⟨ad, rfl, h⟩ := hr h0
  refine ⟨ad, rfl, fun i hi => ?_⟩
  obtain ⟨u, h1, h2⟩ := h i hi
  exact ⟨u, pw_cell_below hb h1, h2.below hb⟩
theorem RdBB.nil (w : World) : RdBB w (.slice none 0 0) [] := ⟨none, 0, rfl, Nat.le_refl _, by simp, fun h => absurd h (by simp)⟩

set_option maxHeartbeats 400000 in
theorem texts_is (v u : Value) (ls ms : List (List Int)) (w : World) (hr : RdBB w v ls) (hr2 : RdBB w u ms) (hb1 : ∀ l ∈ ls, By l) (hb2 : ∀ l ∈ ms, By l) :
    Calls Try.prog 32 #[v, u] w fun e w' => e = .returned (.bool (decide (ls = ms))) ∧ Below w.heap.size w w' := by
  obtain ⟨A, c, rfl, hc, hm, hrd⟩ := hr
  obtain ⟨A2, c2, rfl, hc2, hm2, hrd2⟩ := hr2
  have Hr := Lib.hid hrd
  have Hr2 := Lib.hid hrd2
  clear hrd hrd2
  by_cases hl : ls.length = ms.length
  · go_enter Try.func32, Try.ntmps32
    go_wp2_with fail
    go_loopw [5] (fun i wr => ∃ k : Nat, k ≤ ls.length ∧ i = .int .i64 (k : Int) ∧ Below w.heap.size w wr ∧ ∀ j, j < k → ls.getD j [] = ms.getD j []) (fun i _ => ls.length - (intOf i).toNat)
    case atStart => exact ⟨0, Nat.zero_le _, rfl, Below.refl _ _, fun j hj => absurd hj (by omega)⟩
    case round =>
      obtain ⟨k, hk, rfl, hB, hE⟩ := hrel
      have HB := Lib.hid hB
      have HE := Lib.hid hE
      clear hB hE
      by_cases hlt : k < ls.length
      · have hlt2 : k < ms.length := by omega
        obtain ⟨ad, rfl, hcell⟩ := Hr.out (by omega)
        obtain ⟨ad2, rfl, hcell2⟩ := Hr2.out (by omega)
        obtain ⟨x, hx1, hx2⟩ := hcell k hlt
        obtain ⟨y, hy1, hy2⟩ := hcell2 k hlt2
        have hx1 := pw_cell_below HB.out hx1
        have hy1 := pw_cell_below HB.out hy1
        have hxb : By (ls.getD k []) := by rw [List.getD_eq_getElem?_getD, List.getElem?_eq_getElem hlt]; exact hb1 _ (List.getElem_mem hlt)
        have hyb : By (ms.getD k []) := by rw [List.getD_eq_getElem?_getD, List.getElem?_eq_getElem hlt2]; exact hb2 _ (List.getElem_mem hlt2)
        obtain ⟨Ax, cx, rfl, hcx, hrx⟩ := hx2.below HB.out
        obtain ⟨Ay, cy, rfl, hcy, hry⟩ := hy2.below HB.out
        have hse := str_eq hxb hyb
        obtain ⟨xs, hxs⟩ : ∃ xs, ls.getD k [] = xs := ⟨_, rfl⟩
        obtain ⟨ys, hys⟩ : ∃ ys, ms.getD k [] = ys := ⟨_, rfl⟩
        have HX := Lib.hid hxs
        have HY := Lib.hid hys
        rw [hxs] at hx1 hrx hse
        rw [hys] at hy1 hry hse
        have SS := fun W (h : Below wr.heap.size wr W) => (⟨h, pw_cell_below h hx1, pw_cell_below h hy1, conv_bytes_string (P := Try.prog) 22 5 9 Try.underlying22 Try.underlying5 Try.underlying9 (hrx.below h) cx, conv_bytes_string (P := Try.prog) 22 5 9 Try.underlying22 Try.underlying5 Try.underlying9 (hry.below h) cy⟩ : Below wr.heap.size wr W ∧ W.cell? (ad.add k) = some (.slice Ax xs.length cx) ∧ W.cell? (ad2.add k) = some (.slice Ay ys.length cy) ∧ (convert 22 9 (.slice Ax xs.length cx)).run Try.prog W = .ok (.string (strOfNums xs)) W ∧ (convert 22 9 (.slice Ay ys.length cy)).run Try.prog W = .ok (.string (strOfNums ys)) W)
        have hi1 : ∀ W, (Instr.indexAt 59 (.slice (some ad) ls.length c) (.int .i64 (k : Int))).run Try.prog W = .ok (.pointer (some (ad.add k))) W := fun W => by
          have h2 : 0 ≤ (k : Int) ∧ (k : Int) < (ls.length : Int) := ⟨by omega, by omega⟩
          go_simp
        have hi2 : ∀ W, (Instr.indexAt 59 (.slice (some ad2) ms.length c2) (.int .i64 (k : Int))).run Try.prog W = .ok (.pointer (some (ad2.add k))) W := fun W => by
          have h2 : 0 ≤ (k : Int) ∧ (k : Int) < (ms.length : Int) := ⟨by omega, by omega⟩
          go_simp
        have Hse := Lib.hid hse
        clear hxs hys hrx hry hx2 hy2 hcell hcell2 hse hxb hyb hx1 hy1
        go_wp2_with fail
        refine wp_region_noPanic ?_
        refine wp_region_held_drew (S := fun W => Below wr.heap.size wr W ∧ W.cell? (ad.add k) = some (.slice Ax xs.length cx) ∧ W.cell? (ad2.add k) = some (.slice Ay ys.length cy) ∧ (convert 22 9 (.slice Ax xs.length cx)).run Try.prog W = .ok (.string (strOfNums xs)) W ∧ (convert 22 9 (.slice Ay ys.length cy)).run Try.prog W = .ok (.string (strOfNums ys)) W) (by kernel_rfl) (SS _ (Below.refl _ _).drew) (fun hHeld => ?_)
        clear SS
        refine held_take (i := 0) (v := ?_) rfl (by kernel_rfl) (by kernel_rfl) (by kernel_rfl) (fun _ _ _ h => h) (by rfl) hHeld ?y6_0 ?_
        case y6_0 => (intro w hSw; (try dsimp only at hSw); go_simp; try with_reducible rfl)
        try simp only [Act.put, List.setIfInBounds_toArray, List.set_cons_zero, List.set_cons_succ]
        refine held_take (i := 1) (v := ?_) rfl (by kernel_rfl) (by kernel_rfl) (by kernel_rfl) (fun _ _ _ h => h) (by rfl) hHeld ?y6_1 ?_
        case y6_1 => (intro w hSw; (try dsimp only at hSw); go_simp; try with_reducible rfl)
        try simp only [Act.put, List.setIfInBounds_toArray, List.set_cons_zero, List.set_cons_succ]
        refine held_take (i := 2) (v := ?_) rfl (by kernel_rfl) (by kernel_rfl) (by kernel_rfl) (fun _ _ _ h => h) (by rfl) hHeld ?y6_2 ?_
        case y6_2 => (intro w hSw; (try dsimp only at hSw); go_simp; try with_reducible rfl)
        try simp only [Act.put, List.setIfInBounds_toArray, List.set_cons_zero, List.set_cons_succ]
        refine held_take (i := 3) (v := ?_) rfl (by kernel_rfl) (by kernel_rfl) (by kernel_rfl) (fun _ _ _ h => h) (by rfl) hHeld ?y6_3 ?_
        case y6_3 => (intro w hSw; (try dsimp only at hSw); go_simp; try with_reducible rfl)
        try simp only [Act.put, List.setIfInBounds_toArray, List.set_cons_zero, List.set_cons_succ]
        refine held_take (i := 4) (v := ?_) rfl (by kernel_rfl) (by kernel_rfl) (by kernel_rfl) (fun _ _ _ h => h) (by rfl) hHeld ?y6_4 ?_
        case y6_4 => (intro w hSw; (try dsimp only at hSw); go_simp; try with_reducible rfl)
        try simp only [Act.put, List.setIfInBounds_toArray, List.set_cons_zero, List.set_cons_succ]
        refine held_take (i := 5) (v := ?_) rfl (by kernel_rfl) (by kernel_rfl) (by kernel_rfl) (fun _ _ _ h => h) (by rfl) hHeld ?y6_5 ?_
        case y6_5 => (intro w hSw; (try dsimp only at hSw); go_simp; try with_reducible rfl)
        try simp only [Act.put, List.setIfInBounds_toArray, List.set_cons_zero, List.set_cons_succ]
        refine held_take (i := 6) (v := ?_) rfl (by kernel_rfl) (by kernel_rfl) (by kernel_rfl) (fun _ _ _ h => h) (by rfl) hHeld ?y6_6 ?_
        case y6_6 => (intro w hSw; (try dsimp only at hSw); go_simp; try with_reducible rfl)
        try simp only [Act.put, List.setIfInBounds_toArray, List.set_cons_zero, List.set_cons_succ]
        refine held_take (i := 7) (v := ?_) rfl (by kernel_rfl) (by kernel_rfl) (by kernel_rfl) (fun _ _ _ h => h) (by rfl) hHeld ?y6_7 ?_
        case y6_7 => (intro w hSw; (try dsimp only at hSw); go_simp; try with_reducible rfl)
        try simp only [Act.put, List.setIfInBounds_toArray, List.set_cons_zero, List.set_cons_succ]
        refine held_take (i := 8) (v := ?_) rfl (by kernel_rfl) (by kernel_rfl) (by kernel_rfl) (fun _ _ _ h => h) (by rfl) hHeld ?y6_8 ?_
        case y6_8 => (intro w hSw; (try dsimp only at hSw); go_simp; try with_reducible rfl)
        try simp only [Act.put, List.setIfInBounds_toArray, List.set_cons_zero, List.set_cons_succ]
        refine held_take (i := 9) (v := ?_) rfl (by kernel_rfl) (by kernel_rfl) (by kernel_rfl) (fun _ _ _ h => h) (by rfl) hHeld ?y6_9 ?_
        case y6_9 => (intro w hSw; (try dsimp only at hSw); go_simp; try with_reducible rfl)
        try simp only [Act.put, List.setIfInBounds_toArray, List.set_cons_zero, List.set_cons_succ]
        refine held_take (i := 10) (v := ?_) rfl (by kernel_rfl) (by kernel_rfl) (by kernel_rfl) (fun _ _ _ h => h) (by rfl) hHeld ?y6_10 ?_
        case y6_10 => (intro w hSw; (try dsimp only at hSw); go_simp; try with_reducible rfl)
        try simp only [Act.put, List.setIfInBounds_toArray, List.set_cons_zero, List.set_cons_succ]
        refine wpAnyH_done (by kernel_rfl) ?_ _
        refine NoPanic.normal ?_
        have hsq : (strOfNums xs).toList = (strOfNums ys).toList ↔ xs = ys := ⟨fun h => Hse.out.1 (by
          rw [ByteArray.toList_eq, ByteArray.toList_eq] at h
          exact ByteArray.ext (Array.toList_inj.1 h)), fun h => by rw [h]⟩
        by_cases hxy : xs = ys
        · subst hxy
          go_wp2
          next h => simp at h
          case roundEnd =>
            refine ⟨⟨k + 1, by omega, by go_num, HB.out.drew, fun j hj => ?_⟩, by simp [intOf]; omega⟩
            rcases Nat.lt_or_ge j k with h | h
            · exact HE.out j h
            · obtain rfl : j = k := by omega
              rw [HX.out, HY.out]
        · have hq : ¬ (strOfNums xs).toList = (strOfNums ys).toList := fun h => hxy (hsq.1 h)
          have hd : decide (ls = ms) = false := by
            rw [decide_eq_false_iff_not]; intro e; apply hxy; rw [← HX.out, ← HY.out, e]
          go_wp2
          next =>
            go_ret
            refine ⟨?_, HB.out.drew⟩
            rw [hd]; rfl
          case roundEnd h => exact absurd (by simpa using h) hq
      · obtain rfl : k = ls.length := by omega
        have hd : decide (ls = ms) = true := by
          rw [decide_eq_true_iff]
          apply List.ext_getElem hl
          intro j h1 h2
          have := HE.out j h1
          rw [List.getD_eq_getElem?_getD, List.getD_eq_getElem?_getD, List.getElem?_eq_getElem h1, List.getElem?_eq_getElem h2] at this
          exact this
        go_wp2
        go_ret
        refine ⟨?_, HB.out⟩
        rw [hd]; rfl
  · have hne : decide (ls = ms) = false := by rw [decide_eq_false_iff_not]; intro e; exact hl (by rw [e])
    have hlb : ((ls.length : Int) == (ms.length : Int)) = false := by rw [beq_eq_false_iff_ne]; omega
    rw [hne]
    go_enter Try.func32, Try.ntmps32
    go_wp2
    go_ret
    exact ⟨rfl, Below.refl _ _⟩
end Go.Proofs.Yteebojnabifccaa
