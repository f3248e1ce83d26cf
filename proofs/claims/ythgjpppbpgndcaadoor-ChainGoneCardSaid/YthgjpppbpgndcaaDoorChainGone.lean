import Derived.Test.YthgjpppbpgndcaaDoorChainLong
/- hornbooklaw11.ChainGone. -/
namespace Go.Proofs.YthgjpppbpgndcaaDoor
open Go.RowKit Go.Maps Go.Shelf Go.Proofs.YthgjpppbpgndcaaDoorW.PrintWords Go.Proofs.YthgjpppbpgndcaaDoorW.PrintMore
variable {B p : Nat} {w0 w w' : World} {F : FM}

def nmG (i : Nat) : Nm := [98, UInt8.ofNat (97 + i)]
def FG : Nat → FM
  | 0 => []
  | j + 1 => fput (FG j) (nmG j) (if j = 0 then [] else nmG (j - 1))
theorem FG_len : ∀ j, (FG j).length ≤ j
  | 0 => Nat.le_refl _
  | j + 1 => Nat.le_trans (fput_len_le _ _ _) (Nat.succ_le_succ (FG_len j))
theorem nmG_ok : ∀ i, i < 9 → isC (nmG i) = true := by decide +kernel
theorem FG_set {j : Nat} (hj : j < 9) : setF (FG j) (nmG j) (if j = 0 then [] else nmG (j - 1)) = (0, FG (j + 1)) := by
  refine setF_yes (nmG_ok j (by omega)) ?_
  split
  · exact .inl rfl
  · exact .inr (nmG_ok _ (by omega))
/-- What a chain is behind a drop: its error, and how long it is. -/
def goneR (i d : Nat) : Int × Nat := if i = d then (240, 0) else if d < i then (110, 0) else (0, i + 1)
theorem gone_each : ∀ k ∈ List.range 5, ∀ d ∈ List.range (k + 2), (underF (FG (k + 2)) (nmG d)).length = k + 1 - d ∧ (dropF (FG (k + 2)) (nmG d)).1 = 0 ∧
    ∀ i ∈ List.range (k + 2), (chainF (dropF (FG (k + 2)) (nmG d)).2 (nmG i)).2 = (goneR i d).1 ∧ (chainF (dropF (FG (k + 2)) (nmG d)).2 (nmG i)).1.length = (goneR i d).2 := by decide +kernel
theorem gone_all {k d : Nat} (h : 2 ≤ k ∧ k ≤ 6) (hd : d < k) : (underF (FG k) (nmG d)).length = k - 1 - d ∧ (dropF (FG k) (nmG d)).1 = 0 ∧
    ∀ i, i < k → (chainF (dropF (FG k) (nmG d)).2 (nmG i)).2 = (goneR i d).1 ∧ (chainF (dropF (FG k) (nmG d)).2 (nmG i)).1.length = (goneR i d).2 := by
  obtain ⟨k, rfl⟩ : ∃ m, k = m + 2 := ⟨k - 2, by omega⟩
  obtain ⟨h1, h2, h3⟩ := gone_each k (List.mem_range.2 (by omega)) d (List.mem_range.2 hd)
  exact ⟨h1, h2, fun i hi => h3 i (List.mem_range.2 hi)⟩
theorem namesG_at {k j : Nat} (h : j < k) : ((List.range k).map nmG)[j]'(by simp; exact h) = nmG j := by simp
theorem namesG_len (k : Nat) : ((List.range k).map nmG).length = k := by simp
theorem under_to (h : Ft B p w0 F w) (t : Nm) {n : Nat} (hn : (underF F t).length = n) :
    Calls Tryd.prog 18 #[pv p, .string (S t)] w fun e w' => ∃ A c, e = .returned (.slice A n c) ∧ Below w.heap.size w w' := by
  refine (chain_under h t).mono ?_
  rintro e w' ⟨v, rfl, ho, hb⟩
  obtain ⟨A, c, rfl, -⟩ := ho.sl
  exact ⟨A, c, by rw [hn], hb⟩
theorem chain_len (h : Ft B p w0 F w) (t : Nm) (ht : t.length ≤ 1000000) {n : Nat} {er : Int} (he : (chainF F t).2 = er) (hn : (chainF F t).1.length = n) :
    Calls Tryd.prog 13 #[pv p, .string (S t)] w fun e w' => ∃ A c, e = .returned (.tuple #[.slice A n c, .int .i64 er]) ∧ Below w.heap.size w w' := by
  refine (chain_chain h t ht).mono ?_
  rintro e w' ⟨v, rfl, ho, hb⟩
  obtain ⟨A, c, rfl, -⟩ := ho.sl
  exact ⟨A, c, by rw [hn, he], hb⟩
set_option maxRecDepth 100000 in
set_option maxHeartbeats 4000000 in
theorem chainGone_walk (a b : Int) (w : World) (hM : ML w) (ha : 0 ≤ a ∧ a < 256) (hb : 0 ≤ b ∧ b < 256) :
    Calls Tryd.prog 6 #[.int .u8 a, .int .u8 b] w fun e w' => e = .returned (.bool true) ∧ Below w.heap.size w w' := by
  obtain ⟨i0, hi, hz0, hz1, hz2⟩ := info_parts info9
  obtain ⟨k, hk⟩ : ∃ k : Nat, a % 5 + 2 = (k : Int) := ⟨(a % 5 + 2).toNat, by omega⟩
  have hk0 : 2 ≤ k ∧ k ≤ 6 := by omega
  obtain ⟨d, hc⟩ : ∃ c : Nat, b % (k : Int) = (c : Int) := ⟨(b % (k : Int)).toNat, by have := Int.emod_nonneg b (b := (k : Int)) (by omega); omega⟩
  have hd0 : d < k := by have := Int.emod_lt_of_pos b (b := (k : Int)) (by omega); omega
  have K0 := Lib.hid (law11_known w hM)
  have HM := Lib.hid hM
  clear hM
  go_enter Tryd.func6, Tryd.ntmps6
  go_wp2_with fail
  refine K0.out.mono ?_
  rintro e w1 ⟨rfl, hb1⟩
  have HB1 := Lib.hid hb1
  have K1 := Lib.hid (chain_new w1 (HM.out.below hb1))
  clear hb1 K0
  go_wp2_with fail
  refine K1.out.mono ?_
  rintro e w2 ⟨p, rfl, hf⟩
  have HF0 := Lib.hid hf
  clear hf K1
  have HC := Lib.hid hc
  clear hk hc
  go_wp2_with fail
  go_loopw [7, 8] (fun u i wr => ∃ j : Nat, i = .int .i64 (j : Int) ∧ j ≤ k ∧ OwnS wr w2.heap.size u ((List.range j).map nmG) ∧ Ft w1.heap.size p w1 (FG j) wr ∧ w2.heap.size ≤ wr.heap.size) (fun _ i _ => k - (intOf i).toNat)
  case atStart => exact ⟨0, rfl, Nat.zero_le _, World.ownsRow_nil _ _ _ _, HF0.out, Nat.le_refl _⟩
  case round =>
    obtain ⟨j, rfl, hj, ho, hf, hsz⟩ := hrel
    have HO := Lib.hid ho
    have HF := Lib.hid hf
    clear ho hf
    by_cases hlt : j < k
    · have hlt' : (j : Int) < (k : Int) := by omega
      obtain ⟨bt, hbt⟩ : ∃ bt : UInt8, UInt8.ofNat (97 + j) = bt := ⟨_, rfl⟩
      have hbn : (bt.toNat : Int) = 97 + (j : Int) := by
        rw [← hbt, UInt8.toNat_ofNat']
        omega
      have hnm : nmG j = [98, bt] := by unfold nmG; rw [hbt]
      have hcv := conv_one wr bt
      rw [hbn] at hcv
      obtain ⟨t1, ht1⟩ : ∃ t1, S [bt] = t1 := ⟨_, rfl⟩
      obtain ⟨t2, ht2⟩ : ∃ t2, S (nmG j) = t2 := ⟨_, rfl⟩
      have hcat : (⟨#[98]⟩ : ByteArray) ++ t1 = t2 := by rw [← ht1, ← ht2, hnm]; rfl
      have hno : ¬ 9223372036854775807 < (⟨#[98]⟩ : ByteArray).size + t1.size := by rw [← ht1, S_size]; show ¬ 9223372036854775807 < 1 + 1; omega
      rw [ht1] at hcv
      have HT2 := Lib.hid ht2
      have HP : Hid (∀ z1 v', z1.ownsRow w2.heap.size 9 1 v' (((List.range j).map nmG).length + 1) (((List.range j).map nmG).map (fun s => Value.string (S s)) ++ [.string t2]) → ∃ g c1, v' = .slice (some ⟨g, 0, none⟩) (j + 1) c1 ∧
          (∀ i, i < j + 1 → (∀ W, (Instr.indexAt 33 v' (.int .i64 (i : Int))).run Tryd.prog W = .ok (.pointer (some ⟨g, i, none⟩)) W) ∧ z1.cell? ⟨g, i, none⟩ = some (.string (S (nmG i)))) ∧ OwnS z1 w2.heap.size v' ((List.range (j + 1)).map nmG)) := Lib.hid (fun z1 v' hw => by
        have ho : OwnS z1 w2.heap.size v' ((List.range (j + 1)).map nmG) := by
          show World.ownsRow _ _ _ _ _ _ _
          rw [List.range_succ, List.map_append, List.length_append, List.map_append]
          rw [← ht2] at hw
          exact hw
        obtain ⟨A, c1, rfl, -⟩ := ho.sl
        obtain ⟨g, rfl, -, -⟩ := ho.at_ (i := 0) (by simp)
        refine ⟨g, c1, by rw [namesG_len], fun i hi => ?_, ho⟩
        obtain ⟨g', hg', hx, hcell⟩ := ho.at_ (i := i) (by simpa using hi)
        injection hg' with hg'
        injection hg' with hg'
        subst hg'
        have hc1 := hcell _ (Below.refl _ _)
        rw [namesG_at hi] at hc1
        exact ⟨hx, hc1⟩)
      have hFS := FG_set (j := j) (by omega)
      clear hbt hbn ht1 ht2 hnm HT2
      by_cases hj0 : j = 0
      · rw [if_pos hj0] at hFS
        have HFS := Lib.hid hFS
        have hjz : ¬ (0 : Int) < (j : Int) := by omega
        clear hj0 hFS
        go_wp2_with (at_builtin; refine wpList_append_own _ rfl _ _ 33 rfl w2.heap.size 9 i0 (.string ByteArray.empty) 1 16 Tryd.underlying33 hi hz0 hz1 hz2 rfl (by decide) _ _ _ rfl (World.ownsRow.alloc (World.ownsRow.alloc HO.out _) _) ⟨_, 0, none⟩ 1 1 [.string t2] rfl rfl (cell_one_new' _ _ _ _) (by simp [Value.oneCell']) (by have : maxLen = 9223372036854775807 := rfl; rw [namesG_len]; omega) (by rw [namesG_len]; omega) (by simp; omega) ?_; intro v' z1 hown' hgrow _; have HZ := Lib.hid (HP.out z1 v' hown'); have HG := Lib.hid hgrow; clear hown' hgrow; obtain ⟨g, c1, rfl, hat, -⟩ := HZ.out; obtain ⟨hx1, hc1⟩ := hat j (by omega); clear hat)
        have HFz := Lib.hid (((HF.out.below ((Below.refl _ wr).alloc (Nat.le_refl _) (.cells #[.int .u8 (97 + (j : Int))] 5))).below ((Below.refl _ _).alloc (Nat.le_refl _) (.cells #[.string t2] 9))).grown (World.ownsRow.alloc (World.ownsRow.alloc HO.out _) _) (by decide) (by have := HF0.out.base; omega) HG.out)
        obtain ⟨g', c1', hgc, -, ho⟩ := HZ.out
        have HOz := Lib.hid ho
        have hsz2 := HG.out.size
        simp only [World.size_alloc] at hsz2
        clear ho hgc
        have HS := Lib.hid (set_to HFz.out (nmG j) [] (by have := FG_len j; omega) (by simp [nmG]) HFS.out rfl)
        refine HS.out.mono ?_
        rintro e w5 ⟨rfl, hf, hk⟩
        have HF5 := Lib.hid hf
        have HO5 := Lib.hid (hk.row HOz.out)
        have hs5 := hk.size
        clear hf hk HS HOz
        go_wp2_with fail
        go_roundw
        case rel => exact ⟨j + 1, by go_num, by omega, HO5.out, HF5.out, by omega⟩
        case measure => simp [intOf]; omega
      · rw [if_neg hj0] at hFS
        have hjz : (0 : Int) < (j : Int) := by omega
        obtain ⟨m, hm⟩ : ∃ m, j - 1 = m := ⟨_, rfl⟩
        rw [hm] at hFS
        have HFS := Lib.hid hFS
        have hmm : (j : Int) - 1 = (m : Int) := by omega
        have hmj : m < j + 1 := by omega
        have hmi : (m : Int) < (j : Int) + 1 := by omega
        clear hj0 hm hFS
        go_wp2_with (at_builtin; refine wpList_append_own _ rfl _ _ 33 rfl w2.heap.size 9 i0 (.string ByteArray.empty) 1 16 Tryd.underlying33 hi hz0 hz1 hz2 rfl (by decide) _ _ _ rfl (World.ownsRow.alloc (World.ownsRow.alloc HO.out _) _) ⟨_, 0, none⟩ 1 1 [.string t2] rfl rfl (cell_one_new' _ _ _ _) (by simp [Value.oneCell']) (by have : maxLen = 9223372036854775807 := rfl; rw [namesG_len]; omega) (by rw [namesG_len]; omega) (by simp; omega) ?_; intro v' z1 hown' hgrow _; have HZ := Lib.hid (HP.out z1 v' hown'); have HG := Lib.hid hgrow; clear hown' hgrow; obtain ⟨g, c1, rfl, hat, -⟩ := HZ.out; obtain ⟨hx1, hc1⟩ := hat j (by omega); obtain ⟨hx2, hc2⟩ := hat m hmj; clear hat)
        have HFz := Lib.hid (((HF.out.below ((Below.refl _ wr).alloc (Nat.le_refl _) (.cells #[.int .u8 (97 + (j : Int))] 5))).below ((Below.refl _ _).alloc (Nat.le_refl _) (.cells #[.string t2] 9))).grown (World.ownsRow.alloc (World.ownsRow.alloc HO.out _) _) (by decide) (by have := HF0.out.base; omega) HG.out)
        obtain ⟨g', c1', hgc, -, ho⟩ := HZ.out
        have HOz := Lib.hid ho
        have hsz2 := HG.out.size
        simp only [World.size_alloc] at hsz2
        clear ho hgc
        have HS := Lib.hid (set_to HFz.out (nmG j) (nmG m) (by have := FG_len j; omega) (by simp [nmG]) HFS.out rfl)
        refine HS.out.mono ?_
        rintro e w5 ⟨rfl, hf, hk⟩
        have HF5 := Lib.hid hf
        have HO5 := Lib.hid (hk.row HOz.out)
        have hs5 := hk.size
        clear hf hk HS HOz
        go_wp2_with fail
        go_roundw
        case rel => exact ⟨j + 1, by go_num, by omega, HO5.out, HF5.out, by omega⟩
        case measure => simp [intOf]; omega
    · have hge : ¬ (j : Int) < (k : Int) := by omega
      obtain rfl : j = k := by omega
      obtain ⟨g1, g2, g3⟩ := gone_all hk0 hd0
      have HG3 := Lib.hid g3
      have hl := namesG_len j
      obtain ⟨A, c1, rfl, -⟩ := HO.out.sl
      obtain ⟨g, rfl, hx, hcell⟩ := HO.out.at_ (i := d) (by simp; exact hd0)
      have hc1 := hcell _ (Below.refl _ _)
      rw [namesG_at hd0] at hc1
      have KU := Lib.hid (under_to HF.out (nmG d) g1)
      obtain ⟨n, hn⟩ : ∃ n, j - 1 - d = n := ⟨_, rfl⟩
      rw [hn] at KU
      have hnn : (j : Int) - 1 - (d : Int) = (n : Int) := by omega
      have hrem := HC.out
      have hj0 : ¬ (j : Int) = 0 := by omega
      have HCE := Lib.hid (fun w' hb => by have := hcell w' hb; rwa [namesG_at hd0] at this : ∀ w', Below wr.heap.size wr w' → w'.cell? ⟨g, d, none⟩ = some (.string (S (nmG d))))
      have HG2 := Lib.hid g2
      clear g1 g2 g3 hn hcell
      rw [hl] at hx
      go_wp2_with fail
      refine KU.out.mono ?_
      rintro e w3 ⟨A3, c3, rfl, hb⟩
      have HF3 := Lib.hid (HF.out.below hb)
      have HO3 := Lib.hid (HO.out.below hb)
      have hc3 := HCE.out _ hb
      have KD := Lib.hid (drop_to HF3.out (nmG d) (by simp [nmG]) rfl HG2.out)
      clear hb KU
      go_wp2_with fail
      refine KD.out.mono ?_
      rintro e w4 ⟨rfl, hf, hk⟩
      have HF4 := Lib.hid hf
      have HO4 := Lib.hid (hk.row HO3.out)
      clear hf hk KD hc3 hc1 hx HCE
      go_wp2_with fail
      go_loopw [11] (fun i wr => ∃ m : Nat, i = .int .i64 (m : Int) ∧ m ≤ j ∧ OwnS wr w2.heap.size (.slice (some ⟨g, 0, none⟩) ((List.range j).map nmG).length c1) ((List.range j).map nmG) ∧ Ft w1.heap.size p w1 (dropF (FG j) (nmG d)).2 wr) (fun i _ => j - (intOf i).toNat)
      case atStart => exact ⟨0, rfl, Nat.zero_le _, HO4.out, HF4.out⟩
      case round =>
        obtain ⟨m, rfl, hm, ho, hf⟩ := hrel
        have HO3 := Lib.hid ho
        have HF3 := Lib.hid hf
        clear ho hf
        by_cases hlt : m < j
        · have hlt' : (m : Int) < (j : Int) := by omega
          obtain ⟨g', hg', hx, hcell⟩ := HO3.out.at_ (i := m) (by simp; exact hlt)
          injection hg' with hg'
          injection hg' with hg'
          subst hg'
          have hc1 := hcell _ (Below.refl _ _)
          rw [namesG_at hlt] at hc1
          rw [hl] at hx
          obtain ⟨e1, e2⟩ := HG3.out m hlt
          unfold goneR at e1 e2
          by_cases hmd : m = d
          · rw [if_pos hmd] at e1 e2
            have hmd' : (m : Int) = (d : Int) := by omega
            have hmd2 : ((m : Int) == (d : Int)) = true := by rw [hmd']; simp
            have KC := Lib.hid (chain_len HF3.out (nmG m) (by simp [nmG]) e1 e2)
            have HMD := Lib.hid hmd
            clear e1 e2 hmd hmd'
            clear hcell HG3
            go_wp2_with fail
            refine KC.out.mono ?_
            rintro e w6 ⟨A6, c6, rfl, hb⟩
            have HF6 := Lib.hid (HF3.out.below hb)
            have HO6 := Lib.hid (HO3.out.below hb)
            clear hb KC
            go_wp2_with fail
            go_roundw
            case rel => exact ⟨m + 1, by go_num, by omega, HO6.out, HF6.out⟩
            case measure => simp [intOf]; omega
          · rw [if_neg hmd] at e1 e2
            have hmd' : ((m : Int) == (d : Int)) = false := by rw [beq_eq_false_iff_ne]; omega
            by_cases hdm : d < m
            · rw [if_pos hdm] at e1 e2
              have hdm' : (d : Int) < (m : Int) := by omega
              have KC := Lib.hid (chain_len HF3.out (nmG m) (by simp [nmG]) e1 e2)
              clear e1 e2 hmd hdm
              clear hcell HG3
              go_wp2_with fail
              refine KC.out.mono ?_
              rintro e w6 ⟨A6, c6, rfl, hb⟩
              have HF6 := Lib.hid (HF3.out.below hb)
              have HO6 := Lib.hid (HO3.out.below hb)
              clear hb KC
              go_wp2_with fail
              go_roundw
              case rel => exact ⟨m + 1, by go_num, by omega, HO6.out, HF6.out⟩
              case measure => simp [intOf]; omega
            · rw [if_neg hdm] at e1 e2
              have hdm' : ¬ (d : Int) < (m : Int) := by omega
              have KC := Lib.hid (chain_len HF3.out (nmG m) (by simp [nmG]) e1 e2)
              clear e1 e2 hmd hdm
              clear hcell HG3
              go_wp2_with fail
              refine KC.out.mono ?_
              rintro e w6 ⟨A6, c6, rfl, hb⟩
              have HF6 := Lib.hid (HF3.out.below hb)
              have HO6 := Lib.hid (HO3.out.below hb)
              clear hb KC
              go_wp2_with fail
              go_roundw
              case rel => exact ⟨m + 1, by go_num, by omega, HO6.out, HF6.out⟩
              case measure => simp [intOf]; omega
        · have hge : ¬ (m : Int) < (j : Int) := by omega
          have HB9 := Lib.hid HF3.out.bel
          go_wp2
          go_ret
          exact ⟨rfl, HB1.out.trans (HB9.out.mono HB1.out.size)⟩
end Go.Proofs.YthgjpppbpgndcaaDoor
