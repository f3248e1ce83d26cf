import Derived.Test.YthgjpppbpgndcaaGreatDoorTagBase
/- tag.small, tag.all. -/
namespace Go.Proofs.YthgjpppbpgndcaaGreatDoor
open Go.RowKit Go.Shelf Go.Proofs.YthgjpppbpgndcaaGreatDoorW.PrintWords Go.Proofs.YthgjpppbpgndcaaGreatDoorW.PrintMore

def nl (l : List UInt8) : List Int := l.map fun b => (b.toNat : Int)
theorem nl_length (l : List UInt8) : (nl l).length = l.length := by rw [nl, List.length_map]
theorem nl_get {l : List UInt8} {k : Nat} (h : k < l.length) : (nl l).getD k 0 = ((l[k]).toNat : Int) := by
  simp [nl, List.getD_eq_getElem?_getD, h]
theorem idx8 (g n cap i : Nat) (hi : i < n) (W : World) : (Instr.indexAt 85 (.slice (some ⟨g, 0, none⟩) n cap) (.int .i64 (i : Int))).run Tryz.prog W = .ok (.pointer (some ⟨g, i, none⟩)) W := by
  have h2 : 0 ≤ (i : Int) ∧ (i : Int) < (n : Int) := ⟨by omega, by omega⟩
  have h3 : ({ block := g, off := 0, spot := none } : Addr).add i = ⟨g, i, none⟩ := by
    unfold Addr.add; split <;> simp_all
  go_simp
def mixU (k : Nat) (l : List UInt8) : List UInt8 := (l.take k).map lowU ++ l.drop k
theorem mixU_length (k : Nat) (l : List UInt8) : (mixU k l).length = l.length := by
  simp [mixU]; omega
theorem mixU_at {k : Nat} {l : List UInt8} (h : k < l.length) : (nl (mixU k l)).getD k 0 = ((l[k]).toNat : Int) := by
  rw [nl_get (by rw [mixU_length]; exact h)]
  have : (mixU k l)[k]'(by rw [mixU_length]; exact h) = l[k] := by
    unfold mixU
    rw [List.getElem_append_right (by rw [List.length_map, List.length_take]; omega)]
    simp only [List.length_map, List.length_take, List.getElem_drop]
    congr 1
    omega
  rw [this]
theorem mixU_step {k : Nat} {l : List UInt8} (h : k < l.length) : mixU (k + 1) l = (mixU k l).set k (lowU l[k]) := by
  unfold mixU
  refine List.ext_getElem (by simp; omega) (fun i h1 h2 => ?_)
  have hi : i < l.length := by simp at h1; omega
  rw [List.getElem_set]
  simp only [List.getElem_append, List.getElem_map, List.getElem_take, List.getElem_drop, List.length_map, List.length_take]
  by_cases e : k = i
  · subst e
    rw [dif_pos (by omega), if_pos rfl]
  · rw [if_neg e]
    by_cases h3 : i < k
    · rw [dif_pos (by omega), dif_pos (by omega)]
    · rw [dif_neg (by omega), dif_neg (by omega)]
      congr 1
      omega
theorem nl_set (l : List UInt8) (k : Nat) (b : UInt8) : nl (l.set k b) = (nl l).set k (b.toNat : Int) := by
  unfold nl
  rw [List.map_set]
theorem kb (l : List UInt8) (W : World) : (convert 9 85 (.string (S l))).run Tryz.prog W = .ok (.slice (some ⟨W.heap.size, 0, none⟩) l.length (grownCap W l.length 0 5)) (Lib.bytesWorld W 5 (S l)) := by
  have := print_bytes (P := Tryz.prog) 9 85 5 Tryz.underlying9 Tryz.underlying85 Tryz.underlying5 (S l) W
  rwa [S_size] at this

set_option maxHeartbeats 1000000 in
theorem tag_small (l : List UInt8) (hl : l.length ≤ 1000000) (W : World) : Calls Tryz.prog 44 #[.string (S l)] W fun e w' => e = .returned (.string (S (smallL l))) ∧ Below W.heap.size W w' := by
  have hk := kb l W
  have HR0 := Lib.hid (Row8.bytes W 5 (S l))
  have HB0 := Lib.hid (bytes_below (Below.refl W.heap.size W) (Nat.le_refl _) 5 (S l))
  generalize Lib.bytesWorld W 5 (S l) = W1 at hk HR0 HB0
  generalize grownCap W l.length 0 5 = cap at hk
  go_enter Tryz.func44, Tryz.ntmps44
  go_wp2_with fail
  clear hk
  go_loopw [10] (fun i wr => ∃ k : Nat, k ≤ l.length ∧ i = .int .i64 (k : Int) ∧ Hid (Row8 wr W.heap.size (nl (mixU k l))) ∧ Below W.heap.size W wr) (fun i _ => l.length - (intOf i).toNat)
  case atStart => exact ⟨0, Nat.zero_le _, rfl, HR0, HB0.out⟩
  case round =>
    obtain ⟨k, hk, rfl, HR, hB⟩ := hrel
    have HB := Lib.hid hB
    clear hB
    by_cases hlt : k < l.length
    · obtain ⟨hc, hf⟩ := HR.out.cell (j := k) (by rw [nl_length, mixU_length]; exact hlt)
      rw [mixU_at hlt] at hc
      have hi := idx8 W.heap.size l.length cap k hlt
      have hst := mixU_step hlt
      have hn := lowU_toNat l[k]
      have hb := (l[k]).toNat_lt
      have HW := Lib.hid (HR.out.set_ k (lowI ((l[k]).toNat : Int)) (by rw [nl_length, mixU_length]; exact hlt))
      rw [← hn, ← nl_set, ← hst] at HW
      obtain ⟨x, hx⟩ : ∃ x : Int, ((l[k]).toNat : Int) = x := ⟨_, rfl⟩
      have hx0 : 0 ≤ x := by omega
      have hx1 : x < 256 := by omega
      rw [hn, hx] at HW
      rw [hx] at hc
      by_cases h1 : 65 ≤ x
      · by_cases h2 : x ≤ 90
        · have hlo : lowI x = x + 32 := by unfold lowI; rw [if_pos ⟨h1, h2⟩]
          rw [hlo] at HW
          have hz : x + 97 - 65 = x + 32 := by omega
          clear hn hb hst hx hlo
          go_wp2_with fail
          go_roundw
          case rel => exact ⟨k + 1, by omega, by go_num, HW, Below.set_ HB.out (Nat.le_refl _) _ _⟩
          case measure => simp [intOf]; omega
        · have hlo : lowU l[k] = l[k] := by unfold lowU; rw [if_neg (by omega)]
          have hsame : mixU (k + 1) l = mixU k l := by
            rw [hst, hlo]
            exact List.ext_getElem (by simp) (fun i h3 h4 => by
              rw [List.getElem_set]
              split
              · rename_i e
                subst e
                have := mixU_at hlt
                rw [nl_get (by rw [mixU_length]; exact hlt)] at this
                exact (UInt8.toNat_inj.1 (by omega)).symm
              · rfl)
          have HS := Lib.hid hsame
          clear hn hb hst hx hlo hsame
          go_wp2_with fail
          go_roundw
          case rel => exact ⟨k + 1, by omega, by go_num, by rw [HS.out]; exact HR, HB.out⟩
          case measure => simp [intOf]; omega
      · have hlo : lowU l[k] = l[k] := by unfold lowU; rw [if_neg (by omega)]
        have hsame : mixU (k + 1) l = mixU k l := by
          rw [hst, hlo]
          exact List.ext_getElem (by simp) (fun i h3 h4 => by
            rw [List.getElem_set]
            split
            · rename_i e
              subst e
              have := mixU_at hlt
              rw [nl_get (by rw [mixU_length]; exact hlt)] at this
              exact (UInt8.toNat_inj.1 (by omega)).symm
            · rfl)
        have HS := Lib.hid hsame
        clear hn hb hst hx hlo hsame
        go_wp2_with fail
        go_roundw
        case rel => exact ⟨k + 1, by omega, by go_num, by rw [HS.out]; exact HR, HB.out⟩
        case measure => simp [intOf]; omega
    · have hkn : k = l.length := by omega
      subst hkn
      have hm : mixU l.length l = smallL l := by unfold mixU smallL; rw [List.take_length, List.drop_length, List.append_nil]
      have hc2 := conv_bytes_string (P := Tryz.prog) 85 5 9 Tryz.underlying85 Tryz.underlying5 Tryz.underlying9 (HR.out.reads (by rw [nl_length, mixU_length]; omega)) cap
      rw [nl_length, mixU_length, hm, show strOfNums (nl (smallL l)) = S (smallL l) from strOf_nums _] at hc2
      clear hm
      go_wp2_with fail
      go_ret
      exact ⟨rfl, HB.out⟩

def allP (p : UInt8 → Bool) (least most : Nat) (l : List UInt8) : Bool := l.all p && (decide (least ≤ l.length) && decide (l.length ≤ most))

set_option maxHeartbeats 1000000 in
theorem all_letter (least most : Nat) (l : List UInt8) (hl : l.length ≤ 1000000) (W : World) :
    Calls Tryz.prog 46 #[.string (S l), .int .i64 (least : Int), .int .i64 (most : Int), .func (.func 47) #[] #[]] W fun e w' => e = .returned (.bool (allP isLow least most l)) ∧ Below W.heap.size W w' := by
  have hk := kb l W
  have HR0 := Lib.hid (Row8.bytes W 5 (S l))
  have HB0 := Lib.hid (bytes_below (Below.refl W.heap.size W) (Nat.le_refl _) 5 (S l))
  generalize Lib.bytesWorld W 5 (S l) = W1 at hk HR0 HB0
  generalize grownCap W l.length 0 5 = cap at hk
  have HR1 : Hid (Row8 W1 W.heap.size (nl l)) := HR0
  have hsz := S_size l
  go_enter Tryz.func46, Tryz.ntmps46
  go_wp2_with fail
  clear hk
  go_loopw [14] (fun i wr => ∃ k : Nat, k ≤ l.length ∧ i = .int .i64 (k : Int) ∧ wr = W1 ∧ Hid ((l.take k).all isLow = true)) (fun i _ => l.length - (intOf i).toNat)
  case atStart => exact ⟨0, Nat.zero_le _, rfl, rfl, Lib.hid rfl⟩
  case round =>
    obtain ⟨k, hk, rfl, rfl, HA⟩ := hrel
    by_cases hlt : k < l.length
    · obtain ⟨hc, -⟩ := HR1.out.cell (j := k) (by rw [nl_length]; exact hlt)
      rw [nl_get hlt] at hc
      have hi := idx8 W.heap.size l.length cap k hlt
      have HF := Lib.hid (tag_letter l[k] wr)
      have HT : Hid ((l.take (k + 1)).all isLow = isLow l[k]) := Lib.hid (by rw [List.take_succ_eq_append_getElem hlt, List.all_append, HA.out]; simp)
      have HN : Hid (isLow l[k] = false → l.all isLow = false) := Lib.hid (fun h => by
        rw [← Bool.not_eq_true, List.all_eq_true]
        intro h2
        rw [h2 l[k] (List.getElem_mem hlt)] at h
        cases h)
      cases hp : isLow l[k] with
      | true =>
        rw [hp] at HF HT
        have Hp := Lib.hid hp
        clear hp HN
        generalize ((l[k]).toNat : Int) = x at hc HF
        go_wp2_with fail
        refine HF.out.mono ?_
        rintro e w1 ⟨rfl, rfl⟩
        go_wp2_with fail
        go_roundw
        case rel => exact ⟨k + 1, by omega, by go_num, trivial, HT⟩
        case measure => simp [intOf]; omega
      | false =>
        rw [hp] at HF
        have HN2 := Lib.hid (HN.out hp)
        clear hp HN HT
        generalize ((l[k]).toNat : Int) = x at hc HF
        go_wp2_with fail
        refine HF.out.mono ?_
        rintro e w1 ⟨rfl, rfl⟩
        go_wp2_with fail
        go_ret
        exact ⟨by unfold allP; rw [HN2.out]; rfl, HB0.out⟩
    · have hkn : k = l.length := by omega
      subst hkn
      have HAll : Hid (l.all isLow = true) := Lib.hid (by have := HA.out; rwa [List.take_length] at this)
      by_cases h1 : least ≤ l.length
      · have h1' : (least : Int) ≤ (l.length : Int) := by omega
        by_cases h2 : l.length ≤ most
        · have h2' : (l.length : Int) ≤ (most : Int) := by omega
          have HE : Hid (allP isLow least most l = true) := Lib.hid (by unfold allP; rw [HAll.out, decide_eq_true h1, decide_eq_true h2]; rfl)
          clear h1 h2
          go_wp2_with fail
          go_ret
          rw [HE.out]
          exact ⟨by simp, HB0.out⟩
        · have h2' : ¬ (l.length : Int) ≤ (most : Int) := by omega
          have HE : Hid (allP isLow least most l = false) := Lib.hid (by unfold allP; rw [decide_eq_false h2, Bool.and_false, Bool.and_false])
          clear h1 h2
          go_wp2_with fail
          go_ret
          rw [HE.out]
          exact ⟨by simp, HB0.out⟩
      · have h1' : ¬ (least : Int) ≤ (l.length : Int) := by omega
        have HE : Hid (allP isLow least most l = false) := Lib.hid (by unfold allP; rw [decide_eq_false h1, Bool.false_and, Bool.and_false])
        clear h1
        go_wp2_with fail
        go_ret
        rw [HE.out]
        exact ⟨by simp, HB0.out⟩

set_option maxHeartbeats 1000000 in
theorem all_digit (least most : Nat) (l : List UInt8) (hl : l.length ≤ 1000000) (W : World) :
    Calls Tryz.prog 46 #[.string (S l), .int .i64 (least : Int), .int .i64 (most : Int), .func (.func 49) #[] #[]] W fun e w' => e = .returned (.bool (allP isDig least most l)) ∧ Below W.heap.size W w' := by
  have hk := kb l W
  have HR0 := Lib.hid (Row8.bytes W 5 (S l))
  have HB0 := Lib.hid (bytes_below (Below.refl W.heap.size W) (Nat.le_refl _) 5 (S l))
  generalize Lib.bytesWorld W 5 (S l) = W1 at hk HR0 HB0
  generalize grownCap W l.length 0 5 = cap at hk
  have HR1 : Hid (Row8 W1 W.heap.size (nl l)) := HR0
  have hsz := S_size l
  go_enter Tryz.func46, Tryz.ntmps46
  go_wp2_with fail
  clear hk
  go_loopw [14] (fun i wr => ∃ k : Nat, k ≤ l.length ∧ i = .int .i64 (k : Int) ∧ wr = W1 ∧ Hid ((l.take k).all isDig = true)) (fun i _ => l.length - (intOf i).toNat)
  case atStart => exact ⟨0, Nat.zero_le _, rfl, rfl, Lib.hid rfl⟩
  case round =>
    obtain ⟨k, hk, rfl, rfl, HA⟩ := hrel
    by_cases hlt : k < l.length
    · obtain ⟨hc, -⟩ := HR1.out.cell (j := k) (by rw [nl_length]; exact hlt)
      rw [nl_get hlt] at hc
      have hi := idx8 W.heap.size l.length cap k hlt
      have HF := Lib.hid (tag_digit l[k] wr)
      have HT : Hid ((l.take (k + 1)).all isDig = isDig l[k]) := Lib.hid (by rw [List.take_succ_eq_append_getElem hlt, List.all_append, HA.out]; simp)
      have HN : Hid (isDig l[k] = false → l.all isDig = false) := Lib.hid (fun h => by
        rw [← Bool.not_eq_true, List.all_eq_true]
        intro h2
        rw [h2 l[k] (List.getElem_mem hlt)] at h
        cases h)
      cases hp : isDig l[k] with
      | true =>
        rw [hp] at HF HT
        have Hp := Lib.hid hp
        clear hp HN
        generalize ((l[k]).toNat : Int) = x at hc HF
        go_wp2_with fail
        refine HF.out.mono ?_
        rintro e w1 ⟨rfl, rfl⟩
        go_wp2_with fail
        go_roundw
        case rel => exact ⟨k + 1, by omega, by go_num, trivial, HT⟩
        case measure => simp [intOf]; omega
      | false =>
        rw [hp] at HF
        have HN2 := Lib.hid (HN.out hp)
        clear hp HN HT
        generalize ((l[k]).toNat : Int) = x at hc HF
        go_wp2_with fail
        refine HF.out.mono ?_
        rintro e w1 ⟨rfl, rfl⟩
        go_wp2_with fail
        go_ret
        exact ⟨by unfold allP; rw [HN2.out]; rfl, HB0.out⟩
    · have hkn : k = l.length := by omega
      subst hkn
      have HAll : Hid (l.all isDig = true) := Lib.hid (by have := HA.out; rwa [List.take_length] at this)
      by_cases h1 : least ≤ l.length
      · have h1' : (least : Int) ≤ (l.length : Int) := by omega
        by_cases h2 : l.length ≤ most
        · have h2' : (l.length : Int) ≤ (most : Int) := by omega
          have HE : Hid (allP isDig least most l = true) := Lib.hid (by unfold allP; rw [HAll.out, decide_eq_true h1, decide_eq_true h2]; rfl)
          clear h1 h2
          go_wp2_with fail
          go_ret
          rw [HE.out]
          exact ⟨by simp, HB0.out⟩
        · have h2' : ¬ (l.length : Int) ≤ (most : Int) := by omega
          have HE : Hid (allP isDig least most l = false) := Lib.hid (by unfold allP; rw [decide_eq_false h2, Bool.and_false, Bool.and_false])
          clear h1 h2
          go_wp2_with fail
          go_ret
          rw [HE.out]
          exact ⟨by simp, HB0.out⟩
      · have h1' : ¬ (least : Int) ≤ (l.length : Int) := by omega
        have HE : Hid (allP isDig least most l = false) := Lib.hid (by unfold allP; rw [decide_eq_false h1, Bool.false_and, Bool.and_false])
        clear h1
        go_wp2_with fail
        go_ret
        rw [HE.out]
        exact ⟨by simp, HB0.out⟩

set_option maxHeartbeats 1000000 in
theorem all_either (least most : Nat) (l : List UInt8) (hl : l.length ≤ 1000000) (W : World) :
    Calls Tryz.prog 46 #[.string (S l), .int .i64 (least : Int), .int .i64 (most : Int), .func (.func 71) #[] #[]] W fun e w' => e = .returned (.bool (allP isEi least most l)) ∧ Below W.heap.size W w' := by
  have hk := kb l W
  have HR0 := Lib.hid (Row8.bytes W 5 (S l))
  have HB0 := Lib.hid (bytes_below (Below.refl W.heap.size W) (Nat.le_refl _) 5 (S l))
  generalize Lib.bytesWorld W 5 (S l) = W1 at hk HR0 HB0
  generalize grownCap W l.length 0 5 = cap at hk
  have HR1 : Hid (Row8 W1 W.heap.size (nl l)) := HR0
  have hsz := S_size l
  go_enter Tryz.func46, Tryz.ntmps46
  go_wp2_with fail
  clear hk
  go_loopw [14] (fun i wr => ∃ k : Nat, k ≤ l.length ∧ i = .int .i64 (k : Int) ∧ wr = W1 ∧ Hid ((l.take k).all isEi = true)) (fun i _ => l.length - (intOf i).toNat)
  case atStart => exact ⟨0, Nat.zero_le _, rfl, rfl, Lib.hid rfl⟩
  case round =>
    obtain ⟨k, hk, rfl, rfl, HA⟩ := hrel
    by_cases hlt : k < l.length
    · obtain ⟨hc, -⟩ := HR1.out.cell (j := k) (by rw [nl_length]; exact hlt)
      rw [nl_get hlt] at hc
      have hi := idx8 W.heap.size l.length cap k hlt
      have HF := Lib.hid (tag_either l[k] wr)
      have HT : Hid ((l.take (k + 1)).all isEi = isEi l[k]) := Lib.hid (by rw [List.take_succ_eq_append_getElem hlt, List.all_append, HA.out]; simp)
      have HN : Hid (isEi l[k] = false → l.all isEi = false) := Lib.hid (fun h => by
        rw [← Bool.not_eq_true, List.all_eq_true]
        intro h2
        rw [h2 l[k] (List.getElem_mem hlt)] at h
        cases h)
      cases hp : isEi l[k] with
      | true =>
        rw [hp] at HF HT
        have Hp := Lib.hid hp
        clear hp HN
        generalize ((l[k]).toNat : Int) = x at hc HF
        go_wp2_with fail
        refine HF.out.mono ?_
        rintro e w1 ⟨rfl, rfl⟩
        go_wp2_with fail
        go_roundw
        case rel => exact ⟨k + 1, by omega, by go_num, trivial, HT⟩
        case measure => simp [intOf]; omega
      | false =>
        rw [hp] at HF
        have HN2 := Lib.hid (HN.out hp)
        clear hp HN HT
        generalize ((l[k]).toNat : Int) = x at hc HF
        go_wp2_with fail
        refine HF.out.mono ?_
        rintro e w1 ⟨rfl, rfl⟩
        go_wp2_with fail
        go_ret
        exact ⟨by unfold allP; rw [HN2.out]; rfl, HB0.out⟩
    · have hkn : k = l.length := by omega
      subst hkn
      have HAll : Hid (l.all isEi = true) := Lib.hid (by have := HA.out; rwa [List.take_length] at this)
      by_cases h1 : least ≤ l.length
      · have h1' : (least : Int) ≤ (l.length : Int) := by omega
        by_cases h2 : l.length ≤ most
        · have h2' : (l.length : Int) ≤ (most : Int) := by omega
          have HE : Hid (allP isEi least most l = true) := Lib.hid (by unfold allP; rw [HAll.out, decide_eq_true h1, decide_eq_true h2]; rfl)
          clear h1 h2
          go_wp2_with fail
          go_ret
          rw [HE.out]
          exact ⟨by simp, HB0.out⟩
        · have h2' : ¬ (l.length : Int) ≤ (most : Int) := by omega
          have HE : Hid (allP isEi least most l = false) := Lib.hid (by unfold allP; rw [decide_eq_false h2, Bool.and_false, Bool.and_false])
          clear h1 h2
          go_wp2_with fail
          go_ret
          rw [HE.out]
          exact ⟨by simp, HB0.out⟩
      · have h1' : ¬ (least : Int) ≤ (l.length : Int) := by omega
        have HE : Hid (allP isEi least most l = false) := Lib.hid (by unfold allP; rw [decide_eq_false h1, Bool.false_and, Bool.and_false])
        clear h1
        go_wp2_with fail
        go_ret
        rw [HE.out]
        exact ⟨by simp, HB0.out⟩
end Go.Proofs.YthgjpppbpgndcaaGreatDoor
