import Derived.Test.YtaccjifhgohfpaaDoorTagPlain
/- Bytes turned one by one, in place: the law's turned, the reference's small and capital. -/
namespace Go.Proofs.YtaccjifhgohfpaaDoor
open Go.RowKit Go.Shelf Go.Proofs.YtaccjifhgohfpaaDoorW.PrintWords Go.Proofs.YtaccjifhgohfpaaDoorW.PrintMore

def mixF (f : UInt8 → UInt8) (k : Nat) (l : List UInt8) : List UInt8 := (l.take k).map f ++ l.drop k
theorem mixF_length (f : UInt8 → UInt8) (k : Nat) (l : List UInt8) : (mixF f k l).length = l.length := by
  simp [mixF]; omega
theorem mixF_at (f : UInt8 → UInt8) {k : Nat} {l : List UInt8} (h : k < l.length) : (nl (mixF f k l)).getD k 0 = ((l[k]).toNat : Int) := by
  rw [nl_get (by rw [mixF_length]; exact h)]
  have : (mixF f k l)[k]'(by rw [mixF_length]; exact h) = l[k] := by
    unfold mixF
    rw [List.getElem_append_right (by rw [List.length_map, List.length_take]; omega)]
    simp only [List.length_map, List.length_take, List.getElem_drop]
    congr 1
    omega
  rw [this]
theorem mixF_step (f : UInt8 → UInt8) {k : Nat} {l : List UInt8} (h : k < l.length) : mixF f (k + 1) l = (mixF f k l).set k (f l[k]) := by
  unfold mixF
  refine List.ext_getElem (by simp; omega) (fun i h1 h2 => ?_)
  have hi : i < l.length := by simp at h1; omega
  rw [List.getElem_set]
  simp only [List.getElem_append, List.getElem_map, List.getElem_take, List.getElem_drop, List.length_map, List.length_take]
  by_cases e : k = i
  · subst e
    rw [dif_pos (by omega), if_pos rfl]
  · rw [if_neg e]
    by_cases h3 : i < k
    · rw [dif_pos (by omega), dif_pos (by omega)]
    · rw [dif_neg (by omega), dif_neg (by omega)]
      congr 1
      omega
theorem mixF_same (f : UInt8 → UInt8) {k : Nat} {l : List UInt8} (h : k < l.length) (hf : f l[k] = l[k]) : mixF f (k + 1) l = mixF f k l := by
  rw [mixF_step f h, hf]
  exact List.ext_getElem (by simp) (fun i h3 h4 => by
    rw [List.getElem_set]
    split
    · rename_i e
      subst e
      have := mixF_at f h
      rw [nl_get (by rw [mixF_length]; exact h)] at this
      exact (UInt8.toNat_inj.1 (by omega)).symm
    · rfl)
theorem mixF_all (f : UInt8 → UInt8) (l : List UInt8) : mixF f l.length l = l.map f := by unfold mixF; rw [List.take_length, List.drop_length, List.append_nil]
/-- What a round of such a loop wants: the byte, and the row behind its store. -/
theorem mixF_round (f : UInt8 → UInt8) {k : Nat} {l : List UInt8} {W : World} {g : Nat} (h : k < l.length) (HR : Row8 W g (nl (mixF f k l))) :
    W.cell? ⟨g, k, none⟩ = some (.int .u8 ((l[k]).toNat : Int)) ∧ W.frozen? ⟨g, k, none⟩ = false ∧ Row8 (W.setCell ⟨g, k, none⟩ (.int .u8 ((f l[k]).toNat : Int))) g (nl (mixF f (k + 1) l)) := by
  obtain ⟨hc, hf⟩ := HR.cell (j := k) (by rw [nl_length, mixF_length]; exact h)
  rw [mixF_at f h] at hc
  have HW := HR.set_ k ((f l[k]).toNat : Int) (by rw [nl_length, mixF_length]; exact h)
  rw [← nl_set, ← mixF_step f h] at HW
  exact ⟨hc, hf, HW⟩

theorem turn_cases (b : UInt8) (x : Int) (hx : (b.toNat : Int) = x) :
    (97 ≤ x ∧ x ≤ 122 ∧ ((turnU b).toNat : Int) = x - 32) ∨ (65 ≤ x ∧ x ≤ 90 ∧ ((turnU b).toNat : Int) = x + 32) ∨ (x = 45 ∧ ((turnU b).toNat : Int) = 95) ∨
      (¬ (97 ≤ x ∧ x ≤ 122) ∧ ¬ (65 ≤ x ∧ x ≤ 90) ∧ x ≠ 45 ∧ turnU b = b) := by
  subst hx
  exact all256 (p := fun b => (97 ≤ (b.toNat : Int) ∧ (b.toNat : Int) ≤ 122 ∧ ((turnU b).toNat : Int) = (b.toNat : Int) - 32) ∨ (65 ≤ (b.toNat : Int) ∧ (b.toNat : Int) ≤ 90 ∧ ((turnU b).toNat : Int) = (b.toNat : Int) + 32) ∨ ((b.toNat : Int) = 45 ∧ ((turnU b).toNat : Int) = 95) ∨
      (¬ (97 ≤ (b.toNat : Int) ∧ (b.toNat : Int) ≤ 122) ∧ ¬ (65 ≤ (b.toNat : Int) ∧ (b.toNat : Int) ≤ 90) ∧ (b.toNat : Int) ≠ 45 ∧ turnU b = b)) (by decide +kernel) b
theorem low_cases (b : UInt8) (x : Int) (hx : (b.toNat : Int) = x) :
    (65 ≤ x ∧ x ≤ 90 ∧ ((lowU b).toNat : Int) = x + 32) ∨ (¬ (65 ≤ x ∧ x ≤ 90) ∧ lowU b = b) := by
  subst hx
  exact all256 (p := fun b => (65 ≤ (b.toNat : Int) ∧ (b.toNat : Int) ≤ 90 ∧ ((lowU b).toNat : Int) = (b.toNat : Int) + 32) ∨ (¬ (65 ≤ (b.toNat : Int) ∧ (b.toNat : Int) ≤ 90) ∧ lowU b = b)) (by decide +kernel) b
theorem up_cases (b : UInt8) (x : Int) (hx : (b.toNat : Int) = x) :
    (97 ≤ x ∧ x ≤ 122 ∧ ((upU b).toNat : Int) = x - 32) ∨ (¬ (97 ≤ x ∧ x ≤ 122) ∧ upU b = b) := by
  subst hx
  exact all256 (p := fun b => (97 ≤ (b.toNat : Int) ∧ (b.toNat : Int) ≤ 122 ∧ ((upU b).toNat : Int) = (b.toNat : Int) - 32) ∨ (¬ (97 ≤ (b.toNat : Int) ∧ (b.toNat : Int) ≤ 122) ∧ upU b = b)) (by decide +kernel) b

set_option maxHeartbeats 1000000 in
theorem law_turned (l : List UInt8) (hl : l.length ≤ 1000000) (W : World) : Calls Tryd.prog 30 #[.string (S l)] W fun e w' => e = .returned (.string (S (l.map turnU))) ∧ Below W.heap.size W w' := by
  have hk := kb l W
  have HR0 := Lib.hid (Row8.bytes W 5 (S l))
  have HB0 := Lib.hid (bytes_below (Below.refl W.heap.size W) (Nat.le_refl _) 5 (S l))
  generalize Lib.bytesWorld W 5 (S l) = W1 at hk HR0 HB0
  generalize grownCap W l.length 0 5 = cap at hk
  go_enter Tryd.func30, Tryd.ntmps30
  go_wp2_with fail
  clear hk
  go_loopw [4] (fun i wr => ∃ k : Nat, k ≤ l.length ∧ i = .int .i64 (k : Int) ∧ Hid (Row8 wr W.heap.size (nl (mixF turnU k l))) ∧ Below W.heap.size W wr) (fun i _ => l.length - (intOf i).toNat)
  case atStart => exact ⟨0, Nat.zero_le _, rfl, HR0, HB0.out⟩
  case round =>
    obtain ⟨k, hk, rfl, HR, hB⟩ := hrel
    have HB := Lib.hid hB
    clear hB
    by_cases hlt : k < l.length
    · obtain ⟨hc, hf, HW0⟩ := mixF_round turnU hlt HR.out
      have hi := idx8 W.heap.size l.length cap k hlt
      have hb := (l[k]).toNat_lt
      obtain ⟨x, hx⟩ : ∃ x : Int, ((l[k]).toNat : Int) = x := ⟨_, rfl⟩
      have hx0 : 0 ≤ x := by omega
      have hx1 : x < 256 := by omega
      have HS := mixF_same turnU hlt
      have hcs := turn_cases l[k] x hx
      rw [hx] at hc
      rcases hcs with ⟨h1, h2, h3⟩ | ⟨h1, h2, h3⟩ | ⟨h1, h3⟩ | ⟨h1, h2, h4, h3⟩
      · rw [h3] at HW0
        have HW := Lib.hid HW0
        clear hb hx HW0 h3 HS
        go_wp2_with fail
        go_roundw
        case rel => exact ⟨k + 1, by omega, by go_num, HW, Below.set_ HB.out (Nat.le_refl _) _ _⟩
        case measure => simp [intOf]; omega
      · rw [h3] at HW0
        have HW := Lib.hid HW0
        have h5 : ¬ 97 ≤ x := by omega
        clear hb hx HW0 h3 HS
        go_wp2_with fail
        go_roundw
        case rel => exact ⟨k + 1, by omega, by go_num, HW, Below.set_ HB.out (Nat.le_refl _) _ _⟩
        case measure => simp [intOf]; omega
      · rw [h3] at HW0
        subst h1
        have HW := Lib.hid HW0
        clear hb hx HW0 h3 HS
        go_wp2_with fail
        go_roundw
        case rel => exact ⟨k + 1, by omega, by go_num, HW, Below.set_ HB.out (Nat.le_refl _) _ _⟩
        case measure => simp [intOf]; omega
      · have HS2 := Lib.hid (HS h3)
        have h5 : (x == 45) = false := by rw [beq_eq_false_iff_ne]; exact h4
        clear hb hx HW0 h3 HS h4
        by_cases h6 : 97 ≤ x
        · have h7 : ¬ x ≤ 122 := fun h => h1 ⟨h6, h⟩
          have h8 : ¬ x ≤ 90 := by omega
          have h9 : (65 : Int) ≤ x := by omega
          clear h1 h2
          go_wp2_with fail
          go_roundw
          case rel => exact ⟨k + 1, by omega, by go_num, by rw [HS2.out]; exact HR, HB.out⟩
          case measure => simp [intOf]; omega
        · by_cases h7 : 65 ≤ x
          · have h8 : ¬ x ≤ 90 := fun h => h2 ⟨h7, h⟩
            clear h1 h2
            go_wp2_with fail
            go_roundw
            case rel => exact ⟨k + 1, by omega, by go_num, by rw [HS2.out]; exact HR, HB.out⟩
            case measure => simp [intOf]; omega
          · clear h1 h2
            go_wp2_with fail
            go_roundw
            case rel => exact ⟨k + 1, by omega, by go_num, by rw [HS2.out]; exact HR, HB.out⟩
            case measure => simp [intOf]; omega
    · have hkn : k = l.length := by omega
      subst hkn
      have hm := mixF_all turnU l
      have hc2 := conv_bytes_string (P := Tryd.prog) 22 5 9 Tryd.underlying22 Tryd.underlying5 Tryd.underlying9 (HR.out.reads (by rw [nl_length, mixF_length]; omega)) cap
      rw [nl_length, mixF_length, hm, show strOfNums (nl (l.map turnU)) = S (l.map turnU) from strOf_nums _] at hc2
      clear hm
      go_wp2_with fail
      go_ret
      exact ⟨rfl, HB.out⟩

set_option maxHeartbeats 1000000 in
theorem ref9_small (l : List UInt8) (hl : l.length ≤ 1000000) (W : World) : Calls Tryd.prog 45 #[.string (S l)] W fun e w' => e = .returned (.string (S (smallL l))) ∧ Below W.heap.size W w' := by
  have hk := kb l W
  have HR0 := Lib.hid (Row8.bytes W 5 (S l))
  have HB0 := Lib.hid (bytes_below (Below.refl W.heap.size W) (Nat.le_refl _) 5 (S l))
  generalize Lib.bytesWorld W 5 (S l) = W1 at hk HR0 HB0
  generalize grownCap W l.length 0 5 = cap at hk
  go_enter Tryd.func45, Tryd.ntmps45
  go_wp2_with fail
  clear hk
  go_loopw [4] (fun i wr => ∃ k : Nat, k ≤ l.length ∧ i = .int .i64 (k : Int) ∧ Hid (Row8 wr W.heap.size (nl (mixF lowU k l))) ∧ Below W.heap.size W wr) (fun i _ => l.length - (intOf i).toNat)
  case atStart => exact ⟨0, Nat.zero_le _, rfl, HR0, HB0.out⟩
  case round =>
    obtain ⟨k, hk, rfl, HR, hB⟩ := hrel
    have HB := Lib.hid hB
    clear hB
    by_cases hlt : k < l.length
    · obtain ⟨hc, hf, HW0⟩ := mixF_round lowU hlt HR.out
      have hi := idx8 W.heap.size l.length cap k hlt
      have hb := (l[k]).toNat_lt
      obtain ⟨x, hx⟩ : ∃ x : Int, ((l[k]).toNat : Int) = x := ⟨_, rfl⟩
      have hx0 : 0 ≤ x := by omega
      have hx1 : x < 256 := by omega
      have HS := mixF_same lowU hlt
      have hcs := low_cases l[k] x hx
      rw [hx] at hc
      rcases hcs with ⟨h1, h2, h3⟩ | ⟨h1, h3⟩
      · rw [h3] at HW0
        have HW := Lib.hid HW0
        clear hb hx HW0 h3 HS
        go_wp2_with fail
        go_roundw
        case rel => exact ⟨k + 1, by omega, by go_num, HW, Below.set_ HB.out (Nat.le_refl _) _ _⟩
        case measure => simp [intOf]; omega
      · have HS2 := Lib.hid (HS h3)
        clear hb hx HW0 h3 HS
        by_cases h6 : 65 ≤ x
        · have h7 : ¬ x ≤ 90 := fun h => h1 ⟨h6, h⟩
          clear h1
          go_wp2_with fail
          go_roundw
          case rel => exact ⟨k + 1, by omega, by go_num, by rw [HS2.out]; exact HR, HB.out⟩
          case measure => simp [intOf]; omega
        · clear h1
          go_wp2_with fail
          go_roundw
          case rel => exact ⟨k + 1, by omega, by go_num, by rw [HS2.out]; exact HR, HB.out⟩
          case measure => simp [intOf]; omega
    · have hkn : k = l.length := by omega
      subst hkn
      have hm := mixF_all lowU l
      have hc2 := conv_bytes_string (P := Tryd.prog) 22 5 9 Tryd.underlying22 Tryd.underlying5 Tryd.underlying9 (HR.out.reads (by rw [nl_length, mixF_length]; omega)) cap
      rw [nl_length, mixF_length, hm, show strOfNums (nl (l.map lowU)) = S (l.map lowU) from strOf_nums _] at hc2
      clear hm
      go_wp2_with fail
      go_ret
      exact ⟨rfl, HB.out⟩
set_option maxHeartbeats 1000000 in
theorem ref9_capital (l : List UInt8) (hl : l.length ≤ 1000000) (W : World) : Calls Tryd.prog 47 #[.string (S l)] W fun e w' => e = .returned (.string (S (l.map upU))) ∧ Below W.heap.size W w' := by
  have hk := kb l W
  have HR0 := Lib.hid (Row8.bytes W 5 (S l))
  have HB0 := Lib.hid (bytes_below (Below.refl W.heap.size W) (Nat.le_refl _) 5 (S l))
  generalize Lib.bytesWorld W 5 (S l) = W1 at hk HR0 HB0
  generalize grownCap W l.length 0 5 = cap at hk
  go_enter Tryd.func47, Tryd.ntmps47
  go_wp2_with fail
  clear hk
  go_loopw [4] (fun i wr => ∃ k : Nat, k ≤ l.length ∧ i = .int .i64 (k : Int) ∧ Hid (Row8 wr W.heap.size (nl (mixF upU k l))) ∧ Below W.heap.size W wr) (fun i _ => l.length - (intOf i).toNat)
  case atStart => exact ⟨0, Nat.zero_le _, rfl, HR0, HB0.out⟩
  case round =>
    obtain ⟨k, hk, rfl, HR, hB⟩ := hrel
    have HB := Lib.hid hB
    clear hB
    by_cases hlt : k < l.length
    · obtain ⟨hc, hf, HW0⟩ := mixF_round upU hlt HR.out
      have hi := idx8 W.heap.size l.length cap k hlt
      have hb := (l[k]).toNat_lt
      obtain ⟨x, hx⟩ : ∃ x : Int, ((l[k]).toNat : Int) = x := ⟨_, rfl⟩
      have hx0 : 0 ≤ x := by omega
      have hx1 : x < 256 := by omega
      have HS := mixF_same upU hlt
      have hcs := up_cases l[k] x hx
      rw [hx] at hc
      rcases hcs with ⟨h1, h2, h3⟩ | ⟨h1, h3⟩
      · rw [h3] at HW0
        have HW := Lib.hid HW0
        clear hb hx HW0 h3 HS
        go_wp2_with fail
        go_roundw
        case rel => exact ⟨k + 1, by omega, by go_num, HW, Below.set_ HB.out (Nat.le_refl _) _ _⟩
        case measure => simp [intOf]; omega
      · have HS2 := Lib.hid (HS h3)
        clear hb hx HW0 h3 HS
        by_cases h6 : 97 ≤ x
        · have h7 : ¬ x ≤ 122 := fun h => h1 ⟨h6, h⟩
          clear h1
          go_wp2_with fail
          go_roundw
          case rel => exact ⟨k + 1, by omega, by go_num, by rw [HS2.out]; exact HR, HB.out⟩
          case measure => simp [intOf]; omega
        · clear h1
          go_wp2_with fail
          go_roundw
          case rel => exact ⟨k + 1, by omega, by go_num, by rw [HS2.out]; exact HR, HB.out⟩
          case measure => simp [intOf]; omega
    · have hkn : k = l.length := by omega
      subst hkn
      have hm := mixF_all upU l
      have hc2 := conv_bytes_string (P := Tryd.prog) 22 5 9 Tryd.underlying22 Tryd.underlying5 Tryd.underlying9 (HR.out.reads (by rw [nl_length, mixF_length]; omega)) cap
      rw [nl_length, mixF_length, hm, show strOfNums (nl (l.map upU)) = S (l.map upU) from strOf_nums _] at hc2
      clear hm
      go_wp2_with fail
      go_ret
      exact ⟨rfl, HB.out⟩
end Go.Proofs.YtaccjifhgohfpaaDoor
