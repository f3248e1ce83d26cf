import Derived.Test.YtbooiaaejhbbkaaDiskKnown
/- DiskFails: the step that is to fail fails. -/
namespace Go.Proofs.Ytbooiaaejhbbkaa
open Go.RowKit Go.Maps Go.Proofs.YtbooiaaejhbbkaaW.PrintWords Go.Proofs.YtbooiaaejhbbkaaW.PrintMore

/-- The disk behind so many steps: one file. -/
def fdisk (k : Int) (want : List Int) (i : Nat) : DS := ⟨10000, [([97], 0)], [], [⟨some 0, [], [97]⟩], i, if k ≤ 0 then 0 else 1 + min k 1099511627776, 0, [⟨want, 0⟩]⟩
theorem fdisk_new (k : Int) : ((newD 10000).create [97]).2.fail k = fdisk k [] 1 ∧ ((newD 10000).create [97]).1 = 0 := ⟨rfl, by decide +kernel⟩
theorem nameB_a : nameB [97] = true := by decide +kernel
theorem fdisk_append (k : Int) (want : List Int) (j : Nat) (x : Int) (hk : 0 ≤ k ∧ k < 30) (hj : 1 ≤ j) (hw : want.length ≤ 100) :
    (fdisk k want j).append [97] [x] = if (j : Int) = k then (202, fdisk k want (j + 1)) else (0, fdisk k (want ++ [x]) (j + 1)) := by
  have hst : (fdisk k want j).tick = fdisk k want (j + 1) := by
    unfold DS.tick fdisk
    simp
  have hof : (fdisk k want (j + 1)).off = false := by
    unfold DS.off fdisk
    simp
  have hcode : (fdisk k want (j + 1)).code [[97]] = if (j : Int) = k then 202 else 0 := by
    unfold DS.code
    rw [hof, if_neg (by simp), List.all_cons, nameB_a]
    unfold fdisk
    simp only [List.all_nil, Bool.and_self, if_true]
    by_cases h : (j : Int) = k
    · rw [if_pos h, if_pos]
      rw [if_neg (by omega)]
      omega
    · rw [if_neg h, if_neg]
      split <;> omega
  by_cases h : (j : Int) = k
  · rw [if_pos h] at hcode ⊢
    have ho : (fdisk k want j).tick.open_ [97] [] = 202 := by
      rw [hst]
      unfold DS.open_
      rw [hcode]
      simp
    unfold DS.append
    simp only
    rw [ho, if_pos (by decide), hst]
  · rw [if_neg h] at hcode ⊢
    have ho : (fdisk k want j).tick.open_ [97] [] = 0 := by
      rw [hst]
      unfold DS.open_
      rw [hcode]
      rfl
    rw [append_yes (fdisk k want j) [97] [x] 0 ⟨want, 0⟩ ho rfl rfl ?_, hst]
    · rfl
    · have hu : (fdisk k want j).used = want.length := by
        show ([want.length] : List Nat).sum = _
        simp
      have hq : (fdisk k want j).quota = 10000 := rfl
      rw [hu, hq]
      simp only [List.length_singleton]
      omega
theorem fdisk_read (k : Int) (want : List Int) (i : Nat) : (fdisk k want i).read [97] = (0, want) := by
  unfold DS.read
  have hof : (fdisk k want i).off = false := by
    unfold DS.off fdisk
    simp
  rw [hof]
  rfl

set_option maxHeartbeats 2000000 in
theorem diskFails_walk (a b x : Int) (w : World) (ha : 0 ≤ a ∧ a < 256) (hb : 0 ≤ b ∧ b < 256) (_hx : 0 ≤ x ∧ x < 256) :
    Calls Try.prog 5 #[.int .u8 a, .int .u8 b, .int .u8 x] w fun e w' => e = .returned (.bool true) ∧ Below w.heap.size w w' := by
  obtain ⟨k, hk⟩ : ∃ k, a % 30 = k := ⟨_, rfl⟩
  obtain ⟨m, hm⟩ : ∃ m, b % 30 = m := ⟨_, rfl⟩
  have hk0 : 0 ≤ k ∧ k < 30 := by omega
  have hm0 : 0 ≤ m ∧ m < 30 := by omega
  have K0 := Lib.hid (law20_known w)
  go_enter Try.func5, Try.ntmps5
  go_wp2_with fail
  refine K0.out.mono ?_
  rintro e w1 ⟨rfl, hb1⟩
  have HB1 := Lib.hid hb1
  have K1 := Lib.hid (k_new w1 10000)
  clear hb1 K0
  go_wp2_with fail
  refine K1.out.mono ?_
  rintro e w2 ⟨p, G0, rfl, hp, hk⟩
  have HK := Lib.hid hk
  clear hk K1
  have KC := Lib.hid (k_create HK.out (by show (0 : Int) < 1000000000; omega) [97] (by decide))
  rw [(fdisk_new 0).2] at KC
  go_wp2_with fail
  refine KC.out.mono ?_
  rintro e w3 ⟨rfl, G1, hk, -⟩
  have HK1 := Lib.hid hk
  clear hk KC HK
  have KF := Lib.hid (k_fail HK1.out k (by omega))
  rw [(fdisk_new k).1] at KF
  go_wp2_with fail
  refine KF.out.mono ?_
  rintro e w4 ⟨⟨u, rfl⟩, hk, -⟩
  have HK2 := Lib.hid hk
  clear hk KF HK1
  obtain ⟨mm, rfl⟩ := Int.eq_ofNat_of_zero_le hm0.1
  go_wp2_with fail
  go_loopw [9, 10] (fun u i wr => ∃ (j : Nat) (want : List Int) (G : DG), i = .int .i64 (j : Int) ∧ 1 ≤ j ∧ j ≤ mm + 1 ∧ want.length ≤ j ∧ Hid (Dk w1.heap.size p w1 G (fdisk k want j) wr ∧ OwnB wr w1.heap.size u want ∧ Apart G u)) (fun _ i _ => mm + 1 - (intOf i).toNat)
  case atStart => exact ⟨1, [], G1, rfl, Nat.le_refl _, by omega, by simp, Lib.hid ⟨HK2.out, OwnB.nil _ _, Apart.nil _⟩⟩
  case round =>
    obtain ⟨j, want, G, rfl, hj1, hj2, hwl, HR⟩ := hrel
    by_cases hlt : j ≤ mm
    · obtain ⟨q, hq⟩ : ∃ q, (x + (j : Int)) % 256 = q := ⟨_, rfl⟩
      have hqb : 0 ≤ q ∧ q < 256 := by omega
      have hB := (Below.refl wr.heap.size wr).alloc (Nat.le_refl _) (.cells #[.int .u8 q] 5)
      have KA := k_append (HR.out.1.below hB) (by show ((j : Nat) : Int) < 1000000000; omega) [97] (by decide) [q] (by intro y hy; rw [List.mem_singleton.1 hy]; exact hqb) (.slice (some ⟨wr.heap.size, 0, none⟩) 1 1) (own_litB wr wr.heap.size [q] (Nat.le_refl _) (by simp)).rd (Far.new HR.out.1.at_) (by show -9223372036854775808 ≤ (10000 : Int) ∧ (10000 : Int) < 9223372036854775808; omega)
      rw [fdisk_append k want j q hk0 hj1 (by omega)] at KA
      have HOW := Lib.hid (show OwnB (wr.alloc (.cells #[.int .u8 q] 5)) w1.heap.size u9 want from HR.out.2.1.below hB)
      have HAP := Lib.hid HR.out.2.2
      have HBR := Lib.hid HR.out.1
      have hbase : w1.heap.size ≤ wr.heap.size := by have := HR.out.1.at_.lo.1; have := HR.out.1.at_.p_lt; omega
      clear hB HR
      by_cases hjk : (j : Int) = k
      · rw [if_pos hjk] at KA
        subst hjk
        have HKA := Lib.hid KA
        clear KA
        go_wp2_with fail
        refine HKA.out.mono ?_
        rintro e w5 ⟨rfl, G', hk, ht⟩
        obtain ⟨hap, how⟩ := Apart.tr HAP.out HOW.out ht
        have HK5 := Lib.hid hk
        have HO5 : Hid (OwnB w5 w1.heap.size u9 want) := Lib.hid how
        have HA5 := Lib.hid hap
        clear hk ht hap how HKA HOW HAP HBR
        go_wp2_with fail
        go_roundw
        case rel => exact ⟨j + 1, want, G', by go_num, by omega, by omega, by omega, Lib.hid ⟨HK5.out, HO5.out, HA5.out⟩⟩
        case measure => simp [intOf]; omega
      · rw [if_neg hjk] at KA
        have HKA := Lib.hid KA
        clear KA
        go_wp2_with fail
        refine HKA.out.mono ?_
        rintro e w5 ⟨rfl, G', hk, ht⟩
        obtain ⟨hap, how⟩ := Apart.tr HAP.out HOW.out ht
        have hw5 : w1.heap.size ≤ w5.heap.size := by have := ht.size; simp at this; omega
        have HO5 : Hid (OwnB w5 w1.heap.size u9 want) := Lib.hid how
        have HA5 := Lib.hid hap
        have HK5 := Lib.hid hk
        have hB5 := (Below.refl w5.heap.size w5).alloc (Nat.le_refl _) (.cells #[.int .u8 q] 5)
        have HK6 := Lib.hid (hk.below hB5)
        have HO6 : Hid (OwnB (w5.alloc (.cells #[.int .u8 q] 5)) w1.heap.size u9 want) := Lib.hid (OwnB.below (show OwnB w5 w1.heap.size u9 want from how) hB5)
        have HR6 := Lib.hid (own_litB w5 w5.heap.size [q] (Nat.le_refl _) (by simp)).rd.reads
        clear hk ht hap how HKA HOW HAP HBR hB5
        go_wp2_with (at_builtin; refine print_append_row (w0 := w5.alloc (.cells #[.int .u8 q] 5)) w1.heap.size rfl _ _ _ _ .u8 1 rfl Try.underlying27 info8 (by omega) u9 want [q] (some ⟨w5.heap.size, 0, none⟩) 1 1 rfl rfl HO6.out HR6.out (Below.refl _ _) (by simp; omega) (by omega) ?_; intro v2 w6 ho2 hb2 hg2 hat2)
        have HK7 := Lib.hid (Dk.grown HK6.out HO6.out (Nat.le_refl _) hg2 HA5.out)
        have HA7 := Lib.hid (Apart.grown HK6.out.at_ HA5.out hat2)
        have HO7 : Hid (OwnB w6 w1.heap.size v2 (want ++ [q])) := Lib.hid ho2
        clear ho2 hb2 hg2 hat2 HK6 HK5 HO6 HO5 HA5 HR6
        go_roundw
        case rel => exact ⟨j + 1, want ++ [q], G', by go_num, by omega, by omega, by rw [List.length_append]; simp; omega, Lib.hid ⟨HK7.out, HO7.out, HA7.out⟩⟩
        case measure => simp [intOf]; omega
    · have hread := k_read HR.out.1 [97] (by decide)
      rw [fdisk_read] at hread
      have HRD := Lib.hid hread
      have HO : Hid (OwnB wr w1.heap.size u9 want) := Lib.hid HR.out.2.1
      clear hread HR
      go_wp2_with fail
      refine HRD.out.mono ?_
      rintro e w5 ⟨v5, rfl, ho5, hk, hb5⟩
      have HB5 := Lib.hid (HB1.out.trans (hk.bel.mono HB1.out.size))
      have ho9 := HO.out.below hb5
      obtain ⟨A5, c5, rfl, hc5, hr5⟩ := ho5.rd
      obtain ⟨A9, c9, rfl, hc9, hr9⟩ := ho9.rd
      have hcv5 : (convert 27 9 (.slice A5 want.length c5)).run Try.prog w5 = .ok (.string (strOfNums want)) w5 :=
        conv_bytes_string (P := Try.prog) 27 5 9 Try.underlying27 Try.underlying5 Try.underlying9 hr5 c5
      have hcv9 : (convert 27 9 (.slice A9 want.length c9)).run Try.prog w5 = .ok (.string (strOfNums want)) w5 :=
        conv_bytes_string (P := Try.prog) 27 5 9 Try.underlying27 Try.underlying5 Try.underlying9 hr9 c9
      clear ho5 ho9 hr5 hr9 hk hb5 HRD HO
      go_wp2_with fail
      go_ret
      exact ⟨rfl, HB5.out⟩
end Go.Proofs.Ytbooiaaejhbbkaa
