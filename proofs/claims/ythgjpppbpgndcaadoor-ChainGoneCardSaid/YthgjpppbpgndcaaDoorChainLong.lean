import Derived.Test.YthgjpppbpgndcaaDoorChainTexts
/- hornbooklaw11.ChainLong. -/
namespace Go.Proofs.YthgjpppbpgndcaaDoor
open Go.RowKit Go.Maps Go.Shelf Go.Proofs.YthgjpppbpgndcaaDoorW.PrintWords Go.Proofs.YthgjpppbpgndcaaDoorW.PrintMore
variable {B p : Nat} {w0 w w' : World} {F : FM}

/-- One byte behind a letter. -/
theorem conv_one (W : World) (b : UInt8) : (convert 40 9 (.slice (some ⟨W.heap.size, 0, none⟩) 1 1)).run Tryd.prog (W.alloc (.cells #[.int .u8 (b.toNat : Int)] 5)) = .ok (.string (S [b])) (W.alloc (.cells #[.int .u8 (b.toNat : Int)] 5)) := by
  have hr : ReadsInt (W.alloc (.cells #[.int .u8 (b.toNat : Int)] 5)) .u8 (some ⟨W.heap.size, 0, none⟩) 1 [(b.toNat : Int)] := by
    refine ⟨rfl, by decide, fun _ => ⟨_, rfl, fun j hj => ?_⟩⟩
    obtain rfl : j = 0 := by simpa using hj
    exact cell_one_new W (.int .u8 (b.toNat : Int)) 5 0 _ rfl
  have := conv_bytes_string (P := Tryd.prog) 40 5 9 Tryd.underlying40 Tryd.underlying5 Tryd.underlying9 hr 1
  rw [show strOfNums [(b.toNat : Int)] = S [b] by simp [strOfNums, S]] at this
  exact this
def nmL (i : Nat) : Nm := [97, UInt8.ofNat (97 + i)]
def parL (k b : Nat) (bend : Bool) (i : Nat) : Nm := if i + 1 < k then nmL (i + 1) else if bend then nmL b else []
def FL (k b : Nat) (bend : Bool) : Nat → FM
  | 0 => []
  | j + 1 => fput (FL k b bend j) (nmL j) (parL k b bend j)
theorem FL_len (k b : Nat) (bend : Bool) : ∀ j, (FL k b bend j).length ≤ j
  | 0 => Nat.le_refl _
  | j + 1 => Nat.le_trans (fput_len_le _ _ _) (Nat.succ_le_succ (FL_len k b bend j))
theorem nmL_ok : ∀ i, i < 9 → isC (nmL i) = true := by decide +kernel
def resL (k : Nat) (bend : Bool) : List Nm × Int := if 6 < k then ([], 112) else if bend then ([], 111) else ((List.range k).map nmL, 0)
theorem long_both : ∀ k ∈ List.range 9, ∀ b ∈ List.range (k + 1), chainF (FL (k + 1) b true (k + 1)) (nmL 0) = resL (k + 1) true ∧ chainF (FL (k + 1) b false (k + 1)) (nmL 0) = resL (k + 1) false := by decide +kernel
theorem long_all {k b : Nat} (bend : Bool) (h : 1 ≤ k ∧ k ≤ 9) (hb : b < k) : chainF (FL k b bend k) (nmL 0) = resL k bend := by
  obtain ⟨k, rfl⟩ : ∃ m, k = m + 1 := ⟨k - 1, by omega⟩
  have := long_both k (List.mem_range.2 (by omega)) b (List.mem_range.2 hb)
  cases bend
  · exact this.2
  · exact this.1
theorem names_at {k j : Nat} (h : j < k) : ((List.range k).map nmL)[j]'(by simp; exact h) = nmL j := by simp
theorem names_len (k : Nat) : ((List.range k).map nmL).length = k := by simp
theorem FL_set {k b : Nat} {bend : Bool} {j : Nat} (hk : k ≤ 9) (hj : j < k) (hb : b < k) : setF (FL k b bend j) (nmL j) (parL k b bend j) = (0, FL k b bend (j + 1)) := by
  refine setF_yes (nmL_ok j (by omega)) ?_
  unfold parL
  split
  · exact .inr (nmL_ok _ (by omega))
  · split
    · exact .inr (nmL_ok _ (by omega))
    · exact .inl rfl
theorem cell_one_new' (W : World) (o : Obj) (x : Value) (t : TypeId) : ∀ (j : Nat) (y : Value), [x][j]? = some y → ((W.alloc o).alloc (.cells #[x] t)).cell? ((⟨W.heap.size + 1, 0, none⟩ : Addr).add j) = some y := by
  have := cell_one_new (W.alloc o) x t
  rwa [World.size_alloc] at this
set_option maxRecDepth 100000 in
set_option maxHeartbeats 4000000 in
theorem chainLong_walk (a b : Int) (bend : Bool) (w : World) (hM : ML w) (ha : 0 ≤ a ∧ a < 256) (hb : 0 ≤ b ∧ b < 256) :
    Calls Tryd.prog 4 #[.int .u8 a, .int .u8 b, .bool bend] w fun e w' => e = .returned (.bool true) ∧ Below w.heap.size w w' := by
  obtain ⟨i0, hi, hz0, hz1, hz2⟩ := info_parts info9
  obtain ⟨k, hk⟩ : ∃ k : Nat, a % 9 + 1 = (k : Int) := ⟨(a % 9 + 1).toNat, by omega⟩
  have hk0 : 1 ≤ k ∧ k ≤ 9 := by omega
  obtain ⟨c, hc⟩ : ∃ c : Nat, b % (k : Int) = (c : Int) := ⟨(b % (k : Int)).toNat, by have := Int.emod_nonneg b (b := (k : Int)) (by omega); omega⟩
  have hc0 : c < k := by have := Int.emod_lt_of_pos b (b := (k : Int)) (by omega); omega
  have K0 := Lib.hid (law11_known w hM)
  have HM := Lib.hid hM
  clear hM
  go_enter Tryd.func4, Tryd.ntmps4
  go_wp2_with fail
  refine K0.out.mono ?_
  rintro e w1 ⟨rfl, hb1⟩
  have HB1 := Lib.hid hb1
  have K1 := Lib.hid (chain_new w1 (HM.out.below hb1))
  clear hb1 K0
  go_wp2_with fail
  refine K1.out.mono ?_
  rintro e w2 ⟨p, rfl, hf⟩
  have HF0 := Lib.hid hf
  clear hf K1
  have HK := Lib.hid hk
  have HC := Lib.hid hc
  clear hk hc
  go_wp2_with fail
  go_loopw [9, 10] (fun u i wr => ∃ j : Nat, i = .int .i64 (j : Int) ∧ j ≤ k ∧ OwnS wr w2.heap.size u ((List.range j).map nmL) ∧ Ft w1.heap.size p w1 [] wr ∧ w2.heap.size ≤ wr.heap.size) (fun _ i _ => k - (intOf i).toNat)
  case atStart => exact ⟨0, rfl, Nat.zero_le _, World.ownsRow_nil _ _ _ _, HF0.out, Nat.le_refl _⟩
  case round =>
    obtain ⟨j, rfl, hj, ho, hf, hsz⟩ := hrel
    have HO := Lib.hid ho
    have HF := Lib.hid hf
    clear ho hf
    by_cases hlt : j < k
    · have hlt' : (j : Int) < (k : Int) := by omega
      obtain ⟨bt, hbt⟩ : ∃ bt : UInt8, UInt8.ofNat (97 + j) = bt := ⟨_, rfl⟩
      have hbn : (bt.toNat : Int) = 97 + (j : Int) := by
        rw [← hbt, UInt8.toNat_ofNat']
        omega
      have hnm : nmL j = [97, bt] := by unfold nmL; rw [hbt]
      have hcv := conv_one wr bt
      rw [hbn] at hcv
      obtain ⟨t1, ht1⟩ : ∃ t1, S [bt] = t1 := ⟨_, rfl⟩
      obtain ⟨t2, ht2⟩ : ∃ t2, S (nmL j) = t2 := ⟨_, rfl⟩
      have hcat : (⟨#[97]⟩ : ByteArray) ++ t1 = t2 := by rw [← ht1, ← ht2, hnm]; rfl
      have hno : ¬ 9223372036854775807 < (⟨#[97]⟩ : ByteArray).size + t1.size := by rw [← ht1, S_size]; show ¬ 9223372036854775807 < 1 + 1; omega
      rw [ht1] at hcv
      have HT2 := Lib.hid ht2
      clear hbt hbn ht1 ht2 hnm
      go_wp2_with (at_builtin; refine wpList_append_own _ rfl _ _ 33 rfl w2.heap.size 9 i0 (.string ByteArray.empty) 1 16 Tryd.underlying33 hi hz0 hz1 hz2 rfl (by decide) _ _ _ rfl (World.ownsRow.alloc (World.ownsRow.alloc HO.out _) _) ⟨_, 0, none⟩ 1 1 [.string t2] rfl rfl (cell_one_new' _ _ _ _) (by simp [Value.oneCell']) (by have : maxLen = 9223372036854775807 := rfl; rw [names_len]; omega) (by rw [names_len]; omega) (by simp; omega) ?_; intro v' z1 hown' hgrow _; have HW := Lib.hid hown'; have HG := Lib.hid hgrow; clear hown' hgrow)
      have hown : OwnS z1 w2.heap.size v' ((List.range (j + 1)).map nmL) := by
        show World.ownsRow _ _ _ _ _ _ _
        rw [List.range_succ, List.map_append, List.length_append, List.map_append]
        have := HW.out
        rw [← HT2.out] at this
        exact this
      have HFz := Lib.hid (((HF.out.below ((Below.refl _ wr).alloc (Nat.le_refl _) (.cells #[.int .u8 (97 + (j : Int))] 5))).below ((Below.refl _ _).alloc (Nat.le_refl _) (.cells #[.string t2] 9))).grown (World.ownsRow.alloc (World.ownsRow.alloc HO.out _) _) (by decide) (by have := HF0.out.base; omega) HG.out)
      have HOz := Lib.hid hown
      have hsz2 := HG.out.size
      simp only [World.size_alloc] at hsz2
      clear hown HW HG
      go_roundw
      case rel => exact ⟨j + 1, by go_num, by omega, HOz.out, HFz.out, by omega⟩
      case measure => simp [intOf]; omega
    · have hge : ¬ (j : Int) < (k : Int) := by omega
      obtain rfl : j = k := by omega
      obtain ⟨A, c1, rfl, -⟩ := HO.out.sl
      have HN := Lib.hid (names_len j)
      go_wp2_with fail
      go_loopw [11] (fun i wr => ∃ m : Nat, i = .int .i64 (m : Int) ∧ m ≤ j ∧ OwnS wr w2.heap.size (.slice A ((List.range j).map nmL).length c1) ((List.range j).map nmL) ∧ Ft w1.heap.size p w1 (FL j c bend m) wr) (fun i _ => j - (intOf i).toNat)
      case atStart => exact ⟨0, rfl, Nat.zero_le _, HO.out, HF.out⟩
      case round =>
        obtain ⟨m, rfl, hm, ho, hf⟩ := hrel
        have HO2 := Lib.hid ho
        have HF2 := Lib.hid hf
        clear ho hf
        by_cases hlt : m < j
        · have hlt' : (m : Int) < (j : Int) := by omega
          obtain ⟨g, rfl, hx, hcell⟩ := HO2.out.at_ (i := m) (by simp; exact hlt)
          have hc1 := hcell _ (Below.refl _ _)
          rw [names_at hlt] at hc1
          by_cases h1 : m + 1 < j
          · have hFS := FL_set (bend := bend) hk0.2 hlt hc0
            rw [show parL j c bend m = nmL (m + 1) from if_pos h1] at hFS
            obtain ⟨g', hg', hx2, hcell2⟩ := HO2.out.at_ (i := m + 1) (by simp; exact h1)
            injection hg' with hg'
            injection hg' with hg'
            subst hg'
            have hc2 := hcell2 _ (Below.refl _ _)
            rw [names_at h1] at hc2
            obtain ⟨m1, hm1⟩ : ∃ m1, m + 1 = m1 := ⟨_, rfl⟩
            rw [hm1] at hx2 hc2 h1
            have hmm : (m : Int) + 1 = (m1 : Int) := by omega
            have hml : (m1 : Int) < (j : Int) := by omega
            rw [hm1] at hFS
            have HM1 := Lib.hid hm1
            have HS := Lib.hid (set_to HF2.out (nmL m) (nmL m1) (by have := FL_len j c bend m; omega) (by simp [nmL]) (hFS) rfl)
            have HOQ := Lib.hid HO2.out
            clear hcell hFS hcell2 hm1
            go_wp2_with fail
            refine HS.out.mono ?_
            rintro e w5 ⟨rfl, hf, hk⟩
            have HF5 := Lib.hid hf
            have HO5 := Lib.hid (hk.row HOQ.out)
            clear hf hk HS HOQ
            go_wp2_with fail
            go_roundw
            case rel => exact ⟨m + 1, by go_num, by omega, HO5.out, by rw [HM1.out]; exact HF5.out⟩
            case measure => simp [intOf]; omega
          · have hmj : m + 1 = j := by omega
            have h1' : ¬ (m : Int) + 1 < (j : Int) := by omega
            have hFS := FL_set (bend := bend) hk0.2 hlt hc0
            cases bend with
            | false =>
              rw [show parL j c false m = [] from if_neg h1] at hFS
              have HS := Lib.hid (set_to HF2.out (nmL m) [] (by have := FL_len j c false m; omega) (by simp [nmL]) (hFS) rfl)
              have HOQ := Lib.hid HO2.out
              clear hcell hFS h1
              go_wp2_with fail
              refine HS.out.mono ?_
              rintro e w5 ⟨rfl, hf, hk⟩
              have HF5 := Lib.hid hf
              have HO5 := Lib.hid (hk.row HOQ.out)
              clear hf hk HS HOQ
              go_wp2_with fail
              go_roundw
              case rel => exact ⟨m + 1, by go_num, by omega, HO5.out, HF5.out⟩
              case measure => simp [intOf]; omega
            | true =>
              rw [show parL j c true m = nmL c from if_neg h1] at hFS
              obtain ⟨g', hg', hx2, hcell2⟩ := HO2.out.at_ (i := c) (by simp; exact hc0)
              injection hg' with hg'
              injection hg' with hg'
              subst hg'
              have hc2 := hcell2 _ (Below.refl _ _)
              rw [names_at hc0] at hc2
              have hrem := HC.out
              have hj0 : ¬ (j : Int) = 0 := by omega
              have HS := Lib.hid (set_to HF2.out (nmL m) (nmL c) (by have := FL_len j c true m; omega) (by simp [nmL]) (hFS) rfl)
              have HOQ := Lib.hid HO2.out
              clear hcell hFS h1 hcell2
              go_wp2_with fail
              refine HS.out.mono ?_
              rintro e w5 ⟨rfl, hf, hk⟩
              have HF5 := Lib.hid hf
              have HO5 := Lib.hid (hk.row HOQ.out)
              clear hf hk HS HOQ
              go_wp2_with fail
              go_roundw
              case rel => exact ⟨m + 1, by go_num, by omega, HO5.out, HF5.out⟩
              case measure => simp [intOf]; omega
        · have hge : ¬ (m : Int) < (j : Int) := by omega
          obtain rfl : m = j := by omega
          have hres := long_all bend hk0 hc0
          have HB9 := Lib.hid HF2.out.bel
          obtain ⟨g, rfl, hx, hcell⟩ := HO2.out.at_ (i := 0) (by simp; omega)
          have hc0' := hcell _ (Below.refl _ _)
          rw [names_at (by omega : 0 < m)] at hc0'
          replace hx : ∀ W, (Instr.indexAt 33 (.slice (some ⟨g, 0, none⟩) ((List.range m).map nmL).length c1) (.int .i64 0)).run Tryd.prog W = .ok (.pointer (some ⟨g, 0, none⟩)) W := hx
          have HBW := Lib.hid HB1.out
          unfold resL at hres
          by_cases h6 : 6 < m
          · rw [if_pos h6] at hres
            have h6' : (6 : Int) < (m : Int) := by omega
            have KC := Lib.hid (chain_to HF2.out (nmL 0) (by decide) hres)
            clear hres h6 hcell
            go_wp2_with fail
            refine KC.out.mono ?_
            rintro e w5 ⟨A5, c5, rfl, ho, hb⟩
            have HB5 := Lib.hid ((HF2.out.below hb).bel)
            clear ho hb KC
            go_wp2_with fail
            go_ret
            exact ⟨rfl, HB1.out.trans (HB5.out.mono HB1.out.size)⟩
          · rw [if_neg h6] at hres
            have h6' : ¬ (6 : Int) < (m : Int) := by omega
            cases bend with
            | true =>
              rw [if_pos rfl] at hres
              have KC := Lib.hid (chain_to HF2.out (nmL 0) (by decide) hres)
              clear hres h6 hcell
              go_wp2_with fail
              refine KC.out.mono ?_
              rintro e w5 ⟨A5, c5, rfl, ho, hb⟩
              have HB5 := Lib.hid ((HF2.out.below hb).bel)
              clear ho hb KC
              go_wp2_with fail
              go_ret
              exact ⟨rfl, HB1.out.trans (HB5.out.mono HB1.out.size)⟩
            | false =>
              rw [if_neg (by decide)] at hres
              have KC := Lib.hid (chain_to HF2.out (nmL 0) (by decide) hres)
              have HO3 := Lib.hid HO2.out
              clear hres h6 hcell
              go_wp2_with fail
              refine KC.out.mono ?_
              rintro e w5 ⟨A5, c5, rfl, ho, hb⟩
              have HB5 := Lib.hid ((HF2.out.below hb).bel)
              have KT := Lib.hid (law11_texts ho (HO3.out.below hb) ⟨by simp; omega, by simp; omega⟩)
              rw [decide_eq_true rfl] at KT
              simp only [names_len] at KT
              clear ho hb KC HO3
              go_wp2_with fail
              refine KT.out.mono ?_
              rintro e w6 ⟨rfl, hb⟩
              have HB6 := Lib.hid (HB5.out.trans (hb.mono HB5.out.size))
              clear hb KT
              go_wp2_with fail
              go_ret
              exact ⟨rfl, HB1.out.trans (HB6.out.mono HB1.out.size)⟩
end Go.Proofs.YthgjpppbpgndcaaDoor
