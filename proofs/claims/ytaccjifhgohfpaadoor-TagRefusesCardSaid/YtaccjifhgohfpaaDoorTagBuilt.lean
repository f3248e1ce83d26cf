import Derived.Test.YtaccjifhgohfpaaDoorTagBuiltMath
import Derived.Test.YtaccjifhgohfpaaDoorTagClimbs
/- The walk of the law TagBuilt. -/
set_option linter.unusedSimpArgs false
namespace Go.Proofs.YtaccjifhgohfpaaDoor
open Go.RowKit Go.Shelf Go.Proofs.YtaccjifhgohfpaaDoorW.PrintWords Go.Proofs.YtaccjifhgohfpaaDoorW.PrintMore

theorem byte_of (a : Int) (h : 0 ≤ a ∧ a < 256) : ∃ n : UInt8, (n.toNat : Int) = a := by
  refine ⟨UInt8.ofNat a.toNat, ?_⟩
  rw [UInt8.toNat_ofNat']
  omega
theorem part_lowc (a k : Int) (h0 : 0 ≤ a ∧ a < 256) (hk : 0 ≤ k ∧ k ≤ 20) : ∃ p : List UInt8, lows p ∧ (p.length : Int) = k ∧ ∀ w : World, Calls Tryd.prog 31 #[.int .u8 a, .int .u8 97, .int .i64 k] w fun e w' => e = .returned (.string (S p)) ∧ Below w.heap.size w w' := by
  obtain ⟨n, rfl⟩ := byte_of a h0
  obtain ⟨m, rfl⟩ := Int.eq_ofNat_of_zero_le hk.1
  exact ⟨partL n 97 m, part_low n m, by rw [partL_length], fun w => law_part n 97 m (by decide) (by omega) w⟩
theorem part_upc (a k : Int) (h0 : 0 ≤ a ∧ a < 256) (hk : 0 ≤ k ∧ k ≤ 20) : ∃ p : List UInt8, ups p ∧ (p.length : Int) = k ∧ ∀ w : World, Calls Tryd.prog 31 #[.int .u8 a, .int .u8 65, .int .i64 k] w fun e w' => e = .returned (.string (S p)) ∧ Below w.heap.size w w' := by
  obtain ⟨n, rfl⟩ := byte_of a h0
  obtain ⟨m, rfl⟩ := Int.eq_ofNat_of_zero_le hk.1
  exact ⟨partL n 65 m, part_up n m, by rw [partL_length], fun w => law_part n 65 m (by decide) (by omega) w⟩
/-- Two strings, one behind the other: no sum too large. -/
theorem cat_ok (a b : List UInt8) (h : a.length + b.length ≤ 1000) : ¬ 9223372036854775807 < (S a).size + (S b).size := by rw [S_size, S_size]; omega
theorem cat_ok1 (a : List UInt8) (h : a.length ≤ 1000) : ¬ 9223372036854775807 < (S a).size + 1 := by rw [S_size]; omega

set_option maxRecDepth 100000 in
set_option maxHeartbeats 4000000 in
theorem built_000 (a0 a1 a2 a3 : Int) (w : World) (hM : ML w) (h0 : 0 ≤ a0 ∧ a0 < 256) (h1 : 0 ≤ a1 ∧ a1 < 256) (h2 : 0 ≤ a2 ∧ a2 < 256) (h3 : 0 ≤ a3 ∧ a3 < 256) :
    Calls Tryd.prog 10 #[.int .u8 a0, .int .u8 a1, .int .u8 a2, .int .u8 a3, .bool false, .bool false, .bool false] w fun e w' => e = .returned (.bool true) ∧ Below w.heap.size w w' := by
  have HM := Lib.hid hM
  have KN := Lib.hid (law9_known w hM)
  obtain ⟨L, hL, hl, KL⟩ := part_lowc a0 (2 + a0 / 26 % 2) h0 (by omega)
  obtain ⟨A, hA, ha, KA⟩ := part_upc a1 1 h1 (by omega)
  obtain ⟨B, hB, hb, KB⟩ := part_lowc (a1 / 2) 3 (by omega) (by omega)
  obtain ⟨R, hR, hr, KR⟩ := part_upc a2 2 h2 (by omega)
  obtain ⟨V, hV, hv, KV⟩ := part_lowc a3 (5 + a3 / 26 % 4) h3 (by omega)
  have hT := built_tg hL (by omega) (by omega) hA (by omega) hB (by omega) hR (by omega) hV (by omega) (by omega) false false false
  obtain ⟨n1, n2, n3⟩ := built_no hL (by omega) (by omega) hA (by omega) hB (by omega) hR (by omega) hV (by omega) (by omega)
  have KC := fun W h => canon_yes hT.canon W h
  have KI := fun W h => is_yes hT.isC W h
  have KF := fun W h => canon_no n1 W h
  have KG := fun W h => canon_no n2 W h
  have KH := fun W h => canon_no n3 W h
  obtain ⟨h00, h01⟩ := h0
  obtain ⟨h10, h11⟩ := h1
  obtain ⟨h20, h21⟩ := h2
  obtain ⟨h30, h31⟩ := h3
  obtain ⟨sl, e_sl⟩ : ∃ x, S (L) = x := ⟨_, rfl⟩
  obtain ⟨sa, e_sa⟩ : ∃ x, S (A) = x := ⟨_, rfl⟩
  obtain ⟨sb, e_sb⟩ : ∃ x, S (B) = x := ⟨_, rfl⟩
  obtain ⟨sr, e_sr⟩ : ∃ x, S (R) = x := ⟨_, rfl⟩
  obtain ⟨sv, e_sv⟩ : ∃ x, S (V) = x := ⟨_, rfl⟩
  obtain ⟨c5, e_c5⟩ : ∃ x, S (A ++ B) = x := ⟨_, rfl⟩
  obtain ⟨c6, e_c6⟩ : ∃ x, S (L ++ [45]) = x := ⟨_, rfl⟩
  obtain ⟨c7, e_c7⟩ : ∃ x, S (L ++ [45] ++ R) = x := ⟨_, rfl⟩
  obtain ⟨c8, e_c8⟩ : ∃ x, S (L ++ [45] ++ R ++ [45]) = x := ⟨_, rfl⟩
  obtain ⟨c9, e_c9⟩ : ∃ x, S (L ++ [45] ++ R ++ [45] ++ (A ++ B)) = x := ⟨_, rfl⟩
  obtain ⟨c10, e_c10⟩ : ∃ x, S (L ++ [45] ++ V) = x := ⟨_, rfl⟩
  obtain ⟨c11, e_c11⟩ : ∃ x, S (L ++ [45] ++ V ++ [45]) = x := ⟨_, rfl⟩
  obtain ⟨c12, e_c12⟩ : ∃ x, S (L ++ [45] ++ V ++ [45] ++ R) = x := ⟨_, rfl⟩
  obtain ⟨c13, e_c13⟩ : ∃ x, S (L ++ [45] ++ V ++ [45] ++ V) = x := ⟨_, rfl⟩
  have j0 : joinL (usB L (A ++ B) R V false false false) = L := by simp [usB, joinL]
  have j1 : joinL [L, R, A ++ B] = L ++ [45] ++ R ++ [45] ++ (A ++ B) := by simp [usB, joinL]
  have j2 : joinL [L, V, R] = L ++ [45] ++ V ++ [45] ++ R := by simp [usB, joinL]
  have j3 : joinL [L, V, V] = L ++ [45] ++ V ++ [45] ++ V := by simp [usB, joinL]
  rw [j0, e_sl] at KC KI
  rw [j1, e_c9] at KF
  rw [j2, e_c12] at KG
  rw [j3, e_c13] at KH
  have s0 : ¬ 9223372036854775807 < (sa).size + (sb).size := by rw [← e_sa, ← e_sb]; exact cat_ok _ _ (by (try simp only [List.length_append, List.length_cons, List.length_nil]); omega)
  have q0 : sa ++ sb = c5 := by rw [← e_sa, ← e_sb, ← e_c5]; rfl
  have s1 : ¬ 9223372036854775807 < (sl).size + 1 := by rw [← e_sl]; exact cat_ok1 _ (by (try simp only [List.length_append, List.length_cons, List.length_nil]); omega)
  have q1 : sl ++ ByteArray.mk #[45] = c6 := by rw [← e_sl, ← e_c6]; rfl
  have s2 : ¬ 9223372036854775807 < (c6).size + (sr).size := by rw [← e_c6, ← e_sr]; exact cat_ok _ _ (by (try simp only [List.length_append, List.length_cons, List.length_nil]); omega)
  have q2 : c6 ++ sr = c7 := by rw [← e_c6, ← e_sr, ← e_c7]; rfl
  have s3 : ¬ 9223372036854775807 < (c7).size + 1 := by rw [← e_c7]; exact cat_ok1 _ (by (try simp only [List.length_append, List.length_cons, List.length_nil]); omega)
  have q3 : c7 ++ ByteArray.mk #[45] = c8 := by rw [← e_c7, ← e_c8]; rfl
  have s4 : ¬ 9223372036854775807 < (c8).size + (c5).size := by rw [← e_c8, ← e_c5]; exact cat_ok _ _ (by (try simp only [List.length_append, List.length_cons, List.length_nil]); omega)
  have q4 : c8 ++ c5 = c9 := by rw [← e_c8, ← e_c5, ← e_c9]; rfl
  have s5 : ¬ 9223372036854775807 < (c6).size + (sv).size := by rw [← e_c6, ← e_sv]; exact cat_ok _ _ (by (try simp only [List.length_append, List.length_cons, List.length_nil]); omega)
  have q5 : c6 ++ sv = c10 := by rw [← e_c6, ← e_sv, ← e_c10]; rfl
  have s6 : ¬ 9223372036854775807 < (c10).size + 1 := by rw [← e_c10]; exact cat_ok1 _ (by (try simp only [List.length_append, List.length_cons, List.length_nil]); omega)
  have q6 : c10 ++ ByteArray.mk #[45] = c11 := by rw [← e_c10, ← e_c11]; rfl
  have s7 : ¬ 9223372036854775807 < (c11).size + (sr).size := by rw [← e_c11, ← e_sr]; exact cat_ok _ _ (by (try simp only [List.length_append, List.length_cons, List.length_nil]); omega)
  have q7 : c11 ++ sr = c12 := by rw [← e_c11, ← e_sr, ← e_c12]; rfl
  have s8 : ¬ 9223372036854775807 < (c11).size + (sv).size := by rw [← e_c11, ← e_sv]; exact cat_ok _ _ (by (try simp only [List.length_append, List.length_cons, List.length_nil]); omega)
  have q8 : c11 ++ sv = c13 := by rw [← e_c11, ← e_sv, ← e_c13]; rfl
  rw [e_sl] at KL
  rw [e_sa] at KA
  rw [e_sb] at KB
  rw [e_sr] at KR
  rw [e_sv] at KV
  have HKL := Lib.hid KL
  have HKA := Lib.hid KA
  have HKB := Lib.hid KB
  have HKR := Lib.hid KR
  have HKV := Lib.hid KV
  have HKC := Lib.hid KC
  have HKI := Lib.hid KI
  have HKF := Lib.hid KF
  have HKG := Lib.hid KG
  have HKH := Lib.hid KH
  clear KL KA KB KR KV KC KI KF KG KH hM hT n1 n2 n3 j0 j1 j2 j3 hl ha hb hr hv hL hA hB hR hV e_sl e_sa e_sb e_sr e_sv e_c5 e_c6 e_c7 e_c8 e_c9 e_c10 e_c11 e_c12 e_c13
  go_enter Tryd.func10, Tryd.ntmps10
  go_wp2_with fail
  refine KN.out.mono ?_
  rintro e w1 ⟨rfl, hb⟩
  have HB1 := Lib.hid hb
  clear hb
  go_wp2_with fail
  refine (HKL.out w1).mono ?_
  rintro e w2 ⟨rfl, hb⟩
  have HB2 := Lib.hid (HB1.out.trans (hb.mono HB1.out.size))
  clear hb
  go_wp2_with fail
  refine (HKA.out w2).mono ?_
  rintro e w3 ⟨rfl, hb⟩
  have HB3 := Lib.hid (HB2.out.trans (hb.mono HB2.out.size))
  clear hb
  go_wp2_with fail
  refine (HKB.out w3).mono ?_
  rintro e w4 ⟨rfl, hb⟩
  have HB4 := Lib.hid (HB3.out.trans (hb.mono HB3.out.size))
  clear hb
  go_wp2_with fail
  refine (HKR.out w4).mono ?_
  rintro e w5 ⟨rfl, hb⟩
  have HB5 := Lib.hid (HB4.out.trans (hb.mono HB4.out.size))
  clear hb
  go_wp2_with fail
  refine (HKV.out w5).mono ?_
  rintro e w6 ⟨rfl, hb⟩
  have HB6 := Lib.hid (HB5.out.trans (hb.mono HB5.out.size))
  clear hb
  go_wp2_with fail
  refine (HKC.out w6 (HM.out.below HB6.out)).mono ?_
  rintro e w7 ⟨rfl, hb⟩
  have HB7 := Lib.hid (HB6.out.trans (hb.mono HB6.out.size))
  clear hb
  go_wp2_with fail
  refine (HKF.out w7 (HM.out.below HB7.out)).mono ?_
  rintro e w8 ⟨rfl, hb⟩
  have HB8 := Lib.hid (HB7.out.trans (hb.mono HB7.out.size))
  clear hb
  go_wp2_with fail
  refine (HKG.out w8 (HM.out.below HB8.out)).mono ?_
  rintro e w9 ⟨rfl, hb⟩
  have HB9 := Lib.hid (HB8.out.trans (hb.mono HB8.out.size))
  clear hb
  go_wp2_with fail
  refine (HKH.out w9 (HM.out.below HB9.out)).mono ?_
  rintro e w10 ⟨rfl, hb⟩
  have HB10 := Lib.hid (HB9.out.trans (hb.mono HB9.out.size))
  clear hb
  go_wp2_with fail
  refine (HKI.out w10 (HM.out.below HB10.out)).mono ?_
  rintro e w11 ⟨rfl, hb⟩
  have HB11 := Lib.hid (HB10.out.trans (hb.mono HB10.out.size))
  clear hb
  go_wp2
  go_ret
  exact ⟨rfl, HB11.out⟩
set_option maxRecDepth 100000 in
set_option maxHeartbeats 4000000 in
theorem built_001 (a0 a1 a2 a3 : Int) (w : World) (hM : ML w) (h0 : 0 ≤ a0 ∧ a0 < 256) (h1 : 0 ≤ a1 ∧ a1 < 256) (h2 : 0 ≤ a2 ∧ a2 < 256) (h3 : 0 ≤ a3 ∧ a3 < 256) :
    Calls Tryd.prog 10 #[.int .u8 a0, .int .u8 a1, .int .u8 a2, .int .u8 a3, .bool false, .bool false, .bool true] w fun e w' => e = .returned (.bool true) ∧ Below w.heap.size w w' := by
  have HM := Lib.hid hM
  have KN := Lib.hid (law9_known w hM)
  obtain ⟨L, hL, hl, KL⟩ := part_lowc a0 (2 + a0 / 26 % 2) h0 (by omega)
  obtain ⟨A, hA, ha, KA⟩ := part_upc a1 1 h1 (by omega)
  obtain ⟨B, hB, hb, KB⟩ := part_lowc (a1 / 2) 3 (by omega) (by omega)
  obtain ⟨R, hR, hr, KR⟩ := part_upc a2 2 h2 (by omega)
  obtain ⟨V, hV, hv, KV⟩ := part_lowc a3 (5 + a3 / 26 % 4) h3 (by omega)
  have hT := built_tg hL (by omega) (by omega) hA (by omega) hB (by omega) hR (by omega) hV (by omega) (by omega) false false true
  obtain ⟨n1, n2, n3⟩ := built_no hL (by omega) (by omega) hA (by omega) hB (by omega) hR (by omega) hV (by omega) (by omega)
  have KC := fun W h => canon_yes hT.canon W h
  have KI := fun W h => is_yes hT.isC W h
  have KF := fun W h => canon_no n1 W h
  have KG := fun W h => canon_no n2 W h
  have KH := fun W h => canon_no n3 W h
  obtain ⟨h00, h01⟩ := h0
  obtain ⟨h10, h11⟩ := h1
  obtain ⟨h20, h21⟩ := h2
  obtain ⟨h30, h31⟩ := h3
  obtain ⟨sl, e_sl⟩ : ∃ x, S (L) = x := ⟨_, rfl⟩
  obtain ⟨sa, e_sa⟩ : ∃ x, S (A) = x := ⟨_, rfl⟩
  obtain ⟨sb, e_sb⟩ : ∃ x, S (B) = x := ⟨_, rfl⟩
  obtain ⟨sr, e_sr⟩ : ∃ x, S (R) = x := ⟨_, rfl⟩
  obtain ⟨sv, e_sv⟩ : ∃ x, S (V) = x := ⟨_, rfl⟩
  obtain ⟨c5, e_c5⟩ : ∃ x, S (A ++ B) = x := ⟨_, rfl⟩
  obtain ⟨c6, e_c6⟩ : ∃ x, S (L ++ [45]) = x := ⟨_, rfl⟩
  obtain ⟨c7, e_c7⟩ : ∃ x, S (L ++ [45] ++ V) = x := ⟨_, rfl⟩
  obtain ⟨c8, e_c8⟩ : ∃ x, S (L ++ [45] ++ R) = x := ⟨_, rfl⟩
  obtain ⟨c9, e_c9⟩ : ∃ x, S (L ++ [45] ++ R ++ [45]) = x := ⟨_, rfl⟩
  obtain ⟨c10, e_c10⟩ : ∃ x, S (L ++ [45] ++ R ++ [45] ++ (A ++ B)) = x := ⟨_, rfl⟩
  obtain ⟨c11, e_c11⟩ : ∃ x, S (L ++ [45] ++ V ++ [45]) = x := ⟨_, rfl⟩
  obtain ⟨c12, e_c12⟩ : ∃ x, S (L ++ [45] ++ V ++ [45] ++ R) = x := ⟨_, rfl⟩
  obtain ⟨c13, e_c13⟩ : ∃ x, S (L ++ [45] ++ V ++ [45] ++ V) = x := ⟨_, rfl⟩
  have j0 : joinL (usB L (A ++ B) R V false false true) = L ++ [45] ++ V := by simp [usB, joinL]
  have j1 : joinL [L, R, A ++ B] = L ++ [45] ++ R ++ [45] ++ (A ++ B) := by simp [usB, joinL]
  have j2 : joinL [L, V, R] = L ++ [45] ++ V ++ [45] ++ R := by simp [usB, joinL]
  have j3 : joinL [L, V, V] = L ++ [45] ++ V ++ [45] ++ V := by simp [usB, joinL]
  rw [j0, e_c7] at KC KI
  rw [j1, e_c10] at KF
  rw [j2, e_c12] at KG
  rw [j3, e_c13] at KH
  have s0 : ¬ 9223372036854775807 < (sa).size + (sb).size := by rw [← e_sa, ← e_sb]; exact cat_ok _ _ (by (try simp only [List.length_append, List.length_cons, List.length_nil]); omega)
  have q0 : sa ++ sb = c5 := by rw [← e_sa, ← e_sb, ← e_c5]; rfl
  have s1 : ¬ 9223372036854775807 < (sl).size + 1 := by rw [← e_sl]; exact cat_ok1 _ (by (try simp only [List.length_append, List.length_cons, List.length_nil]); omega)
  have q1 : sl ++ ByteArray.mk #[45] = c6 := by rw [← e_sl, ← e_c6]; rfl
  have s2 : ¬ 9223372036854775807 < (c6).size + (sv).size := by rw [← e_c6, ← e_sv]; exact cat_ok _ _ (by (try simp only [List.length_append, List.length_cons, List.length_nil]); omega)
  have q2 : c6 ++ sv = c7 := by rw [← e_c6, ← e_sv, ← e_c7]; rfl
  have s3 : ¬ 9223372036854775807 < (c6).size + (sr).size := by rw [← e_c6, ← e_sr]; exact cat_ok _ _ (by (try simp only [List.length_append, List.length_cons, List.length_nil]); omega)
  have q3 : c6 ++ sr = c8 := by rw [← e_c6, ← e_sr, ← e_c8]; rfl
  have s4 : ¬ 9223372036854775807 < (c8).size + 1 := by rw [← e_c8]; exact cat_ok1 _ (by (try simp only [List.length_append, List.length_cons, List.length_nil]); omega)
  have q4 : c8 ++ ByteArray.mk #[45] = c9 := by rw [← e_c8, ← e_c9]; rfl
  have s5 : ¬ 9223372036854775807 < (c9).size + (c5).size := by rw [← e_c9, ← e_c5]; exact cat_ok _ _ (by (try simp only [List.length_append, List.length_cons, List.length_nil]); omega)
  have q5 : c9 ++ c5 = c10 := by rw [← e_c9, ← e_c5, ← e_c10]; rfl
  have s6 : ¬ 9223372036854775807 < (c7).size + 1 := by rw [← e_c7]; exact cat_ok1 _ (by (try simp only [List.length_append, List.length_cons, List.length_nil]); omega)
  have q6 : c7 ++ ByteArray.mk #[45] = c11 := by rw [← e_c7, ← e_c11]; rfl
  have s7 : ¬ 9223372036854775807 < (c11).size + (sr).size := by rw [← e_c11, ← e_sr]; exact cat_ok _ _ (by (try simp only [List.length_append, List.length_cons, List.length_nil]); omega)
  have q7 : c11 ++ sr = c12 := by rw [← e_c11, ← e_sr, ← e_c12]; rfl
  have s8 : ¬ 9223372036854775807 < (c11).size + (sv).size := by rw [← e_c11, ← e_sv]; exact cat_ok _ _ (by (try simp only [List.length_append, List.length_cons, List.length_nil]); omega)
  have q8 : c11 ++ sv = c13 := by rw [← e_c11, ← e_sv, ← e_c13]; rfl
  rw [e_sl] at KL
  rw [e_sa] at KA
  rw [e_sb] at KB
  rw [e_sr] at KR
  rw [e_sv] at KV
  have HKL := Lib.hid KL
  have HKA := Lib.hid KA
  have HKB := Lib.hid KB
  have HKR := Lib.hid KR
  have HKV := Lib.hid KV
  have HKC := Lib.hid KC
  have HKI := Lib.hid KI
  have HKF := Lib.hid KF
  have HKG := Lib.hid KG
  have HKH := Lib.hid KH
  clear KL KA KB KR KV KC KI KF KG KH hM hT n1 n2 n3 j0 j1 j2 j3 hl ha hb hr hv hL hA hB hR hV e_sl e_sa e_sb e_sr e_sv e_c5 e_c6 e_c7 e_c8 e_c9 e_c10 e_c11 e_c12 e_c13
  go_enter Tryd.func10, Tryd.ntmps10
  go_wp2_with fail
  refine KN.out.mono ?_
  rintro e w1 ⟨rfl, hb⟩
  have HB1 := Lib.hid hb
  clear hb
  go_wp2_with fail
  refine (HKL.out w1).mono ?_
  rintro e w2 ⟨rfl, hb⟩
  have HB2 := Lib.hid (HB1.out.trans (hb.mono HB1.out.size))
  clear hb
  go_wp2_with fail
  refine (HKA.out w2).mono ?_
  rintro e w3 ⟨rfl, hb⟩
  have HB3 := Lib.hid (HB2.out.trans (hb.mono HB2.out.size))
  clear hb
  go_wp2_with fail
  refine (HKB.out w3).mono ?_
  rintro e w4 ⟨rfl, hb⟩
  have HB4 := Lib.hid (HB3.out.trans (hb.mono HB3.out.size))
  clear hb
  go_wp2_with fail
  refine (HKR.out w4).mono ?_
  rintro e w5 ⟨rfl, hb⟩
  have HB5 := Lib.hid (HB4.out.trans (hb.mono HB4.out.size))
  clear hb
  go_wp2_with fail
  refine (HKV.out w5).mono ?_
  rintro e w6 ⟨rfl, hb⟩
  have HB6 := Lib.hid (HB5.out.trans (hb.mono HB5.out.size))
  clear hb
  go_wp2_with fail
  refine (HKC.out w6 (HM.out.below HB6.out)).mono ?_
  rintro e w7 ⟨rfl, hb⟩
  have HB7 := Lib.hid (HB6.out.trans (hb.mono HB6.out.size))
  clear hb
  go_wp2_with fail
  refine (HKF.out w7 (HM.out.below HB7.out)).mono ?_
  rintro e w8 ⟨rfl, hb⟩
  have HB8 := Lib.hid (HB7.out.trans (hb.mono HB7.out.size))
  clear hb
  go_wp2_with fail
  refine (HKG.out w8 (HM.out.below HB8.out)).mono ?_
  rintro e w9 ⟨rfl, hb⟩
  have HB9 := Lib.hid (HB8.out.trans (hb.mono HB8.out.size))
  clear hb
  go_wp2_with fail
  refine (HKH.out w9 (HM.out.below HB9.out)).mono ?_
  rintro e w10 ⟨rfl, hb⟩
  have HB10 := Lib.hid (HB9.out.trans (hb.mono HB9.out.size))
  clear hb
  go_wp2_with fail
  refine (HKI.out w10 (HM.out.below HB10.out)).mono ?_
  rintro e w11 ⟨rfl, hb⟩
  have HB11 := Lib.hid (HB10.out.trans (hb.mono HB10.out.size))
  clear hb
  go_wp2
  go_ret
  exact ⟨rfl, HB11.out⟩
set_option maxRecDepth 100000 in
set_option maxHeartbeats 4000000 in
theorem built_010 (a0 a1 a2 a3 : Int) (w : World) (hM : ML w) (h0 : 0 ≤ a0 ∧ a0 < 256) (h1 : 0 ≤ a1 ∧ a1 < 256) (h2 : 0 ≤ a2 ∧ a2 < 256) (h3 : 0 ≤ a3 ∧ a3 < 256) :
    Calls Tryd.prog 10 #[.int .u8 a0, .int .u8 a1, .int .u8 a2, .int .u8 a3, .bool false, .bool true, .bool false] w fun e w' => e = .returned (.bool true) ∧ Below w.heap.size w w' := by
  have HM := Lib.hid hM
  have KN := Lib.hid (law9_known w hM)
  obtain ⟨L, hL, hl, KL⟩ := part_lowc a0 (2 + a0 / 26 % 2) h0 (by omega)
  obtain ⟨A, hA, ha, KA⟩ := part_upc a1 1 h1 (by omega)
  obtain ⟨B, hB, hb, KB⟩ := part_lowc (a1 / 2) 3 (by omega) (by omega)
  obtain ⟨R, hR, hr, KR⟩ := part_upc a2 2 h2 (by omega)
  obtain ⟨V, hV, hv, KV⟩ := part_lowc a3 (5 + a3 / 26 % 4) h3 (by omega)
  have hT := built_tg hL (by omega) (by omega) hA (by omega) hB (by omega) hR (by omega) hV (by omega) (by omega) false true false
  obtain ⟨n1, n2, n3⟩ := built_no hL (by omega) (by omega) hA (by omega) hB (by omega) hR (by omega) hV (by omega) (by omega)
  have KC := fun W h => canon_yes hT.canon W h
  have KI := fun W h => is_yes hT.isC W h
  have KF := fun W h => canon_no n1 W h
  have KG := fun W h => canon_no n2 W h
  have KH := fun W h => canon_no n3 W h
  obtain ⟨h00, h01⟩ := h0
  obtain ⟨h10, h11⟩ := h1
  obtain ⟨h20, h21⟩ := h2
  obtain ⟨h30, h31⟩ := h3
  obtain ⟨sl, e_sl⟩ : ∃ x, S (L) = x := ⟨_, rfl⟩
  obtain ⟨sa, e_sa⟩ : ∃ x, S (A) = x := ⟨_, rfl⟩
  obtain ⟨sb, e_sb⟩ : ∃ x, S (B) = x := ⟨_, rfl⟩
  obtain ⟨sr, e_sr⟩ : ∃ x, S (R) = x := ⟨_, rfl⟩
  obtain ⟨sv, e_sv⟩ : ∃ x, S (V) = x := ⟨_, rfl⟩
  obtain ⟨c5, e_c5⟩ : ∃ x, S (A ++ B) = x := ⟨_, rfl⟩
  obtain ⟨c6, e_c6⟩ : ∃ x, S (L ++ [45]) = x := ⟨_, rfl⟩
  obtain ⟨c7, e_c7⟩ : ∃ x, S (L ++ [45] ++ R) = x := ⟨_, rfl⟩
  obtain ⟨c8, e_c8⟩ : ∃ x, S (L ++ [45] ++ R ++ [45]) = x := ⟨_, rfl⟩
  obtain ⟨c9, e_c9⟩ : ∃ x, S (L ++ [45] ++ R ++ [45] ++ (A ++ B)) = x := ⟨_, rfl⟩
  obtain ⟨c10, e_c10⟩ : ∃ x, S (L ++ [45] ++ V) = x := ⟨_, rfl⟩
  obtain ⟨c11, e_c11⟩ : ∃ x, S (L ++ [45] ++ V ++ [45]) = x := ⟨_, rfl⟩
  obtain ⟨c12, e_c12⟩ : ∃ x, S (L ++ [45] ++ V ++ [45] ++ R) = x := ⟨_, rfl⟩
  obtain ⟨c13, e_c13⟩ : ∃ x, S (L ++ [45] ++ V ++ [45] ++ V) = x := ⟨_, rfl⟩
  have j0 : joinL (usB L (A ++ B) R V false true false) = L ++ [45] ++ R := by simp [usB, joinL]
  have j1 : joinL [L, R, A ++ B] = L ++ [45] ++ R ++ [45] ++ (A ++ B) := by simp [usB, joinL]
  have j2 : joinL [L, V, R] = L ++ [45] ++ V ++ [45] ++ R := by simp [usB, joinL]
  have j3 : joinL [L, V, V] = L ++ [45] ++ V ++ [45] ++ V := by simp [usB, joinL]
  rw [j0, e_c7] at KC KI
  rw [j1, e_c9] at KF
  rw [j2, e_c12] at KG
  rw [j3, e_c13] at KH
  have s0 : ¬ 9223372036854775807 < (sa).size + (sb).size := by rw [← e_sa, ← e_sb]; exact cat_ok _ _ (by (try simp only [List.length_append, List.length_cons, List.length_nil]); omega)
  have q0 : sa ++ sb = c5 := by rw [← e_sa, ← e_sb, ← e_c5]; rfl
  have s1 : ¬ 9223372036854775807 < (sl).size + 1 := by rw [← e_sl]; exact cat_ok1 _ (by (try simp only [List.length_append, List.length_cons, List.length_nil]); omega)
  have q1 : sl ++ ByteArray.mk #[45] = c6 := by rw [← e_sl, ← e_c6]; rfl
  have s2 : ¬ 9223372036854775807 < (c6).size + (sr).size := by rw [← e_c6, ← e_sr]; exact cat_ok _ _ (by (try simp only [List.length_append, List.length_cons, List.length_nil]); omega)
  have q2 : c6 ++ sr = c7 := by rw [← e_c6, ← e_sr, ← e_c7]; rfl
  have s3 : ¬ 9223372036854775807 < (c7).size + 1 := by rw [← e_c7]; exact cat_ok1 _ (by (try simp only [List.length_append, List.length_cons, List.length_nil]); omega)
  have q3 : c7 ++ ByteArray.mk #[45] = c8 := by rw [← e_c7, ← e_c8]; rfl
  have s4 : ¬ 9223372036854775807 < (c8).size + (c5).size := by rw [← e_c8, ← e_c5]; exact cat_ok _ _ (by (try simp only [List.length_append, List.length_cons, List.length_nil]); omega)
  have q4 : c8 ++ c5 = c9 := by rw [← e_c8, ← e_c5, ← e_c9]; rfl
  have s5 : ¬ 9223372036854775807 < (c6).size + (sv).size := by rw [← e_c6, ← e_sv]; exact cat_ok _ _ (by (try simp only [List.length_append, List.length_cons, List.length_nil]); omega)
  have q5 : c6 ++ sv = c10 := by rw [← e_c6, ← e_sv, ← e_c10]; rfl
  have s6 : ¬ 9223372036854775807 < (c10).size + 1 := by rw [← e_c10]; exact cat_ok1 _ (by (try simp only [List.length_append, List.length_cons, List.length_nil]); omega)
  have q6 : c10 ++ ByteArray.mk #[45] = c11 := by rw [← e_c10, ← e_c11]; rfl
  have s7 : ¬ 9223372036854775807 < (c11).size + (sr).size := by rw [← e_c11, ← e_sr]; exact cat_ok _ _ (by (try simp only [List.length_append, List.length_cons, List.length_nil]); omega)
  have q7 : c11 ++ sr = c12 := by rw [← e_c11, ← e_sr, ← e_c12]; rfl
  have s8 : ¬ 9223372036854775807 < (c11).size + (sv).size := by rw [← e_c11, ← e_sv]; exact cat_ok _ _ (by (try simp only [List.length_append, List.length_cons, List.length_nil]); omega)
  have q8 : c11 ++ sv = c13 := by rw [← e_c11, ← e_sv, ← e_c13]; rfl
  rw [e_sl] at KL
  rw [e_sa] at KA
  rw [e_sb] at KB
  rw [e_sr] at KR
  rw [e_sv] at KV
  have HKL := Lib.hid KL
  have HKA := Lib.hid KA
  have HKB := Lib.hid KB
  have HKR := Lib.hid KR
  have HKV := Lib.hid KV
  have HKC := Lib.hid KC
  have HKI := Lib.hid KI
  have HKF := Lib.hid KF
  have HKG := Lib.hid KG
  have HKH := Lib.hid KH
  clear KL KA KB KR KV KC KI KF KG KH hM hT n1 n2 n3 j0 j1 j2 j3 hl ha hb hr hv hL hA hB hR hV e_sl e_sa e_sb e_sr e_sv e_c5 e_c6 e_c7 e_c8 e_c9 e_c10 e_c11 e_c12 e_c13
  go_enter Tryd.func10, Tryd.ntmps10
  go_wp2_with fail
  refine KN.out.mono ?_
  rintro e w1 ⟨rfl, hb⟩
  have HB1 := Lib.hid hb
  clear hb
  go_wp2_with fail
  refine (HKL.out w1).mono ?_
  rintro e w2 ⟨rfl, hb⟩
  have HB2 := Lib.hid (HB1.out.trans (hb.mono HB1.out.size))
  clear hb
  go_wp2_with fail
  refine (HKA.out w2).mono ?_
  rintro e w3 ⟨rfl, hb⟩
  have HB3 := Lib.hid (HB2.out.trans (hb.mono HB2.out.size))
  clear hb
  go_wp2_with fail
  refine (HKB.out w3).mono ?_
  rintro e w4 ⟨rfl, hb⟩
  have HB4 := Lib.hid (HB3.out.trans (hb.mono HB3.out.size))
  clear hb
  go_wp2_with fail
  refine (HKR.out w4).mono ?_
  rintro e w5 ⟨rfl, hb⟩
  have HB5 := Lib.hid (HB4.out.trans (hb.mono HB4.out.size))
  clear hb
  go_wp2_with fail
  refine (HKV.out w5).mono ?_
  rintro e w6 ⟨rfl, hb⟩
  have HB6 := Lib.hid (HB5.out.trans (hb.mono HB5.out.size))
  clear hb
  go_wp2_with fail
  refine (HKC.out w6 (HM.out.below HB6.out)).mono ?_
  rintro e w7 ⟨rfl, hb⟩
  have HB7 := Lib.hid (HB6.out.trans (hb.mono HB6.out.size))
  clear hb
  go_wp2_with fail
  refine (HKF.out w7 (HM.out.below HB7.out)).mono ?_
  rintro e w8 ⟨rfl, hb⟩
  have HB8 := Lib.hid (HB7.out.trans (hb.mono HB7.out.size))
  clear hb
  go_wp2_with fail
  refine (HKG.out w8 (HM.out.below HB8.out)).mono ?_
  rintro e w9 ⟨rfl, hb⟩
  have HB9 := Lib.hid (HB8.out.trans (hb.mono HB8.out.size))
  clear hb
  go_wp2_with fail
  refine (HKH.out w9 (HM.out.below HB9.out)).mono ?_
  rintro e w10 ⟨rfl, hb⟩
  have HB10 := Lib.hid (HB9.out.trans (hb.mono HB9.out.size))
  clear hb
  go_wp2_with fail
  refine (HKI.out w10 (HM.out.below HB10.out)).mono ?_
  rintro e w11 ⟨rfl, hb⟩
  have HB11 := Lib.hid (HB10.out.trans (hb.mono HB10.out.size))
  clear hb
  go_wp2
  go_ret
  exact ⟨rfl, HB11.out⟩
set_option maxRecDepth 100000 in
set_option maxHeartbeats 4000000 in
theorem built_011 (a0 a1 a2 a3 : Int) (w : World) (hM : ML w) (h0 : 0 ≤ a0 ∧ a0 < 256) (h1 : 0 ≤ a1 ∧ a1 < 256) (h2 : 0 ≤ a2 ∧ a2 < 256) (h3 : 0 ≤ a3 ∧ a3 < 256) :
    Calls Tryd.prog 10 #[.int .u8 a0, .int .u8 a1, .int .u8 a2, .int .u8 a3, .bool false, .bool true, .bool true] w fun e w' => e = .returned (.bool true) ∧ Below w.heap.size w w' := by
  have HM := Lib.hid hM
  have KN := Lib.hid (law9_known w hM)
  obtain ⟨L, hL, hl, KL⟩ := part_lowc a0 (2 + a0 / 26 % 2) h0 (by omega)
  obtain ⟨A, hA, ha, KA⟩ := part_upc a1 1 h1 (by omega)
  obtain ⟨B, hB, hb, KB⟩ := part_lowc (a1 / 2) 3 (by omega) (by omega)
  obtain ⟨R, hR, hr, KR⟩ := part_upc a2 2 h2 (by omega)
  obtain ⟨V, hV, hv, KV⟩ := part_lowc a3 (5 + a3 / 26 % 4) h3 (by omega)
  have hT := built_tg hL (by omega) (by omega) hA (by omega) hB (by omega) hR (by omega) hV (by omega) (by omega) false true true
  obtain ⟨n1, n2, n3⟩ := built_no hL (by omega) (by omega) hA (by omega) hB (by omega) hR (by omega) hV (by omega) (by omega)
  have KC := fun W h => canon_yes hT.canon W h
  have KI := fun W h => is_yes hT.isC W h
  have KF := fun W h => canon_no n1 W h
  have KG := fun W h => canon_no n2 W h
  have KH := fun W h => canon_no n3 W h
  obtain ⟨h00, h01⟩ := h0
  obtain ⟨h10, h11⟩ := h1
  obtain ⟨h20, h21⟩ := h2
  obtain ⟨h30, h31⟩ := h3
  obtain ⟨sl, e_sl⟩ : ∃ x, S (L) = x := ⟨_, rfl⟩
  obtain ⟨sa, e_sa⟩ : ∃ x, S (A) = x := ⟨_, rfl⟩
  obtain ⟨sb, e_sb⟩ : ∃ x, S (B) = x := ⟨_, rfl⟩
  obtain ⟨sr, e_sr⟩ : ∃ x, S (R) = x := ⟨_, rfl⟩
  obtain ⟨sv, e_sv⟩ : ∃ x, S (V) = x := ⟨_, rfl⟩
  obtain ⟨c5, e_c5⟩ : ∃ x, S (A ++ B) = x := ⟨_, rfl⟩
  obtain ⟨c6, e_c6⟩ : ∃ x, S (L ++ [45]) = x := ⟨_, rfl⟩
  obtain ⟨c7, e_c7⟩ : ∃ x, S (L ++ [45] ++ R) = x := ⟨_, rfl⟩
  obtain ⟨c8, e_c8⟩ : ∃ x, S (L ++ [45] ++ R ++ [45]) = x := ⟨_, rfl⟩
  obtain ⟨c9, e_c9⟩ : ∃ x, S (L ++ [45] ++ R ++ [45] ++ V) = x := ⟨_, rfl⟩
  obtain ⟨c10, e_c10⟩ : ∃ x, S (L ++ [45] ++ R ++ [45] ++ (A ++ B)) = x := ⟨_, rfl⟩
  obtain ⟨c11, e_c11⟩ : ∃ x, S (L ++ [45] ++ V) = x := ⟨_, rfl⟩
  obtain ⟨c12, e_c12⟩ : ∃ x, S (L ++ [45] ++ V ++ [45]) = x := ⟨_, rfl⟩
  obtain ⟨c13, e_c13⟩ : ∃ x, S (L ++ [45] ++ V ++ [45] ++ R) = x := ⟨_, rfl⟩
  obtain ⟨c14, e_c14⟩ : ∃ x, S (L ++ [45] ++ V ++ [45] ++ V) = x := ⟨_, rfl⟩
  have j0 : joinL (usB L (A ++ B) R V false true true) = L ++ [45] ++ R ++ [45] ++ V := by simp [usB, joinL]
  have j1 : joinL [L, R, A ++ B] = L ++ [45] ++ R ++ [45] ++ (A ++ B) := by simp [usB, joinL]
  have j2 : joinL [L, V, R] = L ++ [45] ++ V ++ [45] ++ R := by simp [usB, joinL]
  have j3 : joinL [L, V, V] = L ++ [45] ++ V ++ [45] ++ V := by simp [usB, joinL]
  rw [j0, e_c9] at KC KI
  rw [j1, e_c10] at KF
  rw [j2, e_c13] at KG
  rw [j3, e_c14] at KH
  have s0 : ¬ 9223372036854775807 < (sa).size + (sb).size := by rw [← e_sa, ← e_sb]; exact cat_ok _ _ (by (try simp only [List.length_append, List.length_cons, List.length_nil]); omega)
  have q0 : sa ++ sb = c5 := by rw [← e_sa, ← e_sb, ← e_c5]; rfl
  have s1 : ¬ 9223372036854775807 < (sl).size + 1 := by rw [← e_sl]; exact cat_ok1 _ (by (try simp only [List.length_append, List.length_cons, List.length_nil]); omega)
  have q1 : sl ++ ByteArray.mk #[45] = c6 := by rw [← e_sl, ← e_c6]; rfl
  have s2 : ¬ 9223372036854775807 < (c6).size + (sr).size := by rw [← e_c6, ← e_sr]; exact cat_ok _ _ (by (try simp only [List.length_append, List.length_cons, List.length_nil]); omega)
  have q2 : c6 ++ sr = c7 := by rw [← e_c6, ← e_sr, ← e_c7]; rfl
  have s3 : ¬ 9223372036854775807 < (c7).size + 1 := by rw [← e_c7]; exact cat_ok1 _ (by (try simp only [List.length_append, List.length_cons, List.length_nil]); omega)
  have q3 : c7 ++ ByteArray.mk #[45] = c8 := by rw [← e_c7, ← e_c8]; rfl
  have s4 : ¬ 9223372036854775807 < (c8).size + (sv).size := by rw [← e_c8, ← e_sv]; exact cat_ok _ _ (by (try simp only [List.length_append, List.length_cons, List.length_nil]); omega)
  have q4 : c8 ++ sv = c9 := by rw [← e_c8, ← e_sv, ← e_c9]; rfl
  have s5 : ¬ 9223372036854775807 < (c8).size + (c5).size := by rw [← e_c8, ← e_c5]; exact cat_ok _ _ (by (try simp only [List.length_append, List.length_cons, List.length_nil]); omega)
  have q5 : c8 ++ c5 = c10 := by rw [← e_c8, ← e_c5, ← e_c10]; rfl
  have s6 : ¬ 9223372036854775807 < (c6).size + (sv).size := by rw [← e_c6, ← e_sv]; exact cat_ok _ _ (by (try simp only [List.length_append, List.length_cons, List.length_nil]); omega)
  have q6 : c6 ++ sv = c11 := by rw [← e_c6, ← e_sv, ← e_c11]; rfl
  have s7 : ¬ 9223372036854775807 < (c11).size + 1 := by rw [← e_c11]; exact cat_ok1 _ (by (try simp only [List.length_append, List.length_cons, List.length_nil]); omega)
  have q7 : c11 ++ ByteArray.mk #[45] = c12 := by rw [← e_c11, ← e_c12]; rfl
  have s8 : ¬ 9223372036854775807 < (c12).size + (sr).size := by rw [← e_c12, ← e_sr]; exact cat_ok _ _ (by (try simp only [List.length_append, List.length_cons, List.length_nil]); omega)
  have q8 : c12 ++ sr = c13 := by rw [← e_c12, ← e_sr, ← e_c13]; rfl
  have s9 : ¬ 9223372036854775807 < (c12).size + (sv).size := by rw [← e_c12, ← e_sv]; exact cat_ok _ _ (by (try simp only [List.length_append, List.length_cons, List.length_nil]); omega)
  have q9 : c12 ++ sv = c14 := by rw [← e_c12, ← e_sv, ← e_c14]; rfl
  rw [e_sl] at KL
  rw [e_sa] at KA
  rw [e_sb] at KB
  rw [e_sr] at KR
  rw [e_sv] at KV
  have HKL := Lib.hid KL
  have HKA := Lib.hid KA
  have HKB := Lib.hid KB
  have HKR := Lib.hid KR
  have HKV := Lib.hid KV
  have HKC := Lib.hid KC
  have HKI := Lib.hid KI
  have HKF := Lib.hid KF
  have HKG := Lib.hid KG
  have HKH := Lib.hid KH
  clear KL KA KB KR KV KC KI KF KG KH hM hT n1 n2 n3 j0 j1 j2 j3 hl ha hb hr hv hL hA hB hR hV e_sl e_sa e_sb e_sr e_sv e_c5 e_c6 e_c7 e_c8 e_c9 e_c10 e_c11 e_c12 e_c13 e_c14
  go_enter Tryd.func10, Tryd.ntmps10
  go_wp2_with fail
  refine KN.out.mono ?_
  rintro e w1 ⟨rfl, hb⟩
  have HB1 := Lib.hid hb
  clear hb
  go_wp2_with fail
  refine (HKL.out w1).mono ?_
  rintro e w2 ⟨rfl, hb⟩
  have HB2 := Lib.hid (HB1.out.trans (hb.mono HB1.out.size))
  clear hb
  go_wp2_with fail
  refine (HKA.out w2).mono ?_
  rintro e w3 ⟨rfl, hb⟩
  have HB3 := Lib.hid (HB2.out.trans (hb.mono HB2.out.size))
  clear hb
  go_wp2_with fail
  refine (HKB.out w3).mono ?_
  rintro e w4 ⟨rfl, hb⟩
  have HB4 := Lib.hid (HB3.out.trans (hb.mono HB3.out.size))
  clear hb
  go_wp2_with fail
  refine (HKR.out w4).mono ?_
  rintro e w5 ⟨rfl, hb⟩
  have HB5 := Lib.hid (HB4.out.trans (hb.mono HB4.out.size))
  clear hb
  go_wp2_with fail
  refine (HKV.out w5).mono ?_
  rintro e w6 ⟨rfl, hb⟩
  have HB6 := Lib.hid (HB5.out.trans (hb.mono HB5.out.size))
  clear hb
  go_wp2_with fail
  refine (HKC.out w6 (HM.out.below HB6.out)).mono ?_
  rintro e w7 ⟨rfl, hb⟩
  have HB7 := Lib.hid (HB6.out.trans (hb.mono HB6.out.size))
  clear hb
  go_wp2_with fail
  refine (HKF.out w7 (HM.out.below HB7.out)).mono ?_
  rintro e w8 ⟨rfl, hb⟩
  have HB8 := Lib.hid (HB7.out.trans (hb.mono HB7.out.size))
  clear hb
  go_wp2_with fail
  refine (HKG.out w8 (HM.out.below HB8.out)).mono ?_
  rintro e w9 ⟨rfl, hb⟩
  have HB9 := Lib.hid (HB8.out.trans (hb.mono HB8.out.size))
  clear hb
  go_wp2_with fail
  refine (HKH.out w9 (HM.out.below HB9.out)).mono ?_
  rintro e w10 ⟨rfl, hb⟩
  have HB10 := Lib.hid (HB9.out.trans (hb.mono HB9.out.size))
  clear hb
  go_wp2_with fail
  refine (HKI.out w10 (HM.out.below HB10.out)).mono ?_
  rintro e w11 ⟨rfl, hb⟩
  have HB11 := Lib.hid (HB10.out.trans (hb.mono HB10.out.size))
  clear hb
  go_wp2
  go_ret
  exact ⟨rfl, HB11.out⟩
set_option maxRecDepth 100000 in
set_option maxHeartbeats 4000000 in
theorem built_100 (a0 a1 a2 a3 : Int) (w : World) (hM : ML w) (h0 : 0 ≤ a0 ∧ a0 < 256) (h1 : 0 ≤ a1 ∧ a1 < 256) (h2 : 0 ≤ a2 ∧ a2 < 256) (h3 : 0 ≤ a3 ∧ a3 < 256) :
    Calls Tryd.prog 10 #[.int .u8 a0, .int .u8 a1, .int .u8 a2, .int .u8 a3, .bool true, .bool false, .bool false] w fun e w' => e = .returned (.bool true) ∧ Below w.heap.size w w' := by
  have HM := Lib.hid hM
  have KN := Lib.hid (law9_known w hM)
  obtain ⟨L, hL, hl, KL⟩ := part_lowc a0 (2 + a0 / 26 % 2) h0 (by omega)
  obtain ⟨A, hA, ha, KA⟩ := part_upc a1 1 h1 (by omega)
  obtain ⟨B, hB, hb, KB⟩ := part_lowc (a1 / 2) 3 (by omega) (by omega)
  obtain ⟨R, hR, hr, KR⟩ := part_upc a2 2 h2 (by omega)
  obtain ⟨V, hV, hv, KV⟩ := part_lowc a3 (5 + a3 / 26 % 4) h3 (by omega)
  have hT := built_tg hL (by omega) (by omega) hA (by omega) hB (by omega) hR (by omega) hV (by omega) (by omega) true false false
  obtain ⟨n1, n2, n3⟩ := built_no hL (by omega) (by omega) hA (by omega) hB (by omega) hR (by omega) hV (by omega) (by omega)
  have KC := fun W h => canon_yes hT.canon W h
  have KI := fun W h => is_yes hT.isC W h
  have KF := fun W h => canon_no n1 W h
  have KG := fun W h => canon_no n2 W h
  have KH := fun W h => canon_no n3 W h
  obtain ⟨h00, h01⟩ := h0
  obtain ⟨h10, h11⟩ := h1
  obtain ⟨h20, h21⟩ := h2
  obtain ⟨h30, h31⟩ := h3
  obtain ⟨sl, e_sl⟩ : ∃ x, S (L) = x := ⟨_, rfl⟩
  obtain ⟨sa, e_sa⟩ : ∃ x, S (A) = x := ⟨_, rfl⟩
  obtain ⟨sb, e_sb⟩ : ∃ x, S (B) = x := ⟨_, rfl⟩
  obtain ⟨sr, e_sr⟩ : ∃ x, S (R) = x := ⟨_, rfl⟩
  obtain ⟨sv, e_sv⟩ : ∃ x, S (V) = x := ⟨_, rfl⟩
  obtain ⟨c5, e_c5⟩ : ∃ x, S (A ++ B) = x := ⟨_, rfl⟩
  obtain ⟨c6, e_c6⟩ : ∃ x, S (L ++ [45]) = x := ⟨_, rfl⟩
  obtain ⟨c7, e_c7⟩ : ∃ x, S (L ++ [45] ++ (A ++ B)) = x := ⟨_, rfl⟩
  obtain ⟨c8, e_c8⟩ : ∃ x, S (L ++ [45] ++ R) = x := ⟨_, rfl⟩
  obtain ⟨c9, e_c9⟩ : ∃ x, S (L ++ [45] ++ R ++ [45]) = x := ⟨_, rfl⟩
  obtain ⟨c10, e_c10⟩ : ∃ x, S (L ++ [45] ++ R ++ [45] ++ (A ++ B)) = x := ⟨_, rfl⟩
  obtain ⟨c11, e_c11⟩ : ∃ x, S (L ++ [45] ++ V) = x := ⟨_, rfl⟩
  obtain ⟨c12, e_c12⟩ : ∃ x, S (L ++ [45] ++ V ++ [45]) = x := ⟨_, rfl⟩
  obtain ⟨c13, e_c13⟩ : ∃ x, S (L ++ [45] ++ V ++ [45] ++ R) = x := ⟨_, rfl⟩
  obtain ⟨c14, e_c14⟩ : ∃ x, S (L ++ [45] ++ V ++ [45] ++ V) = x := ⟨_, rfl⟩
  have j0 : joinL (usB L (A ++ B) R V true false false) = L ++ [45] ++ (A ++ B) := by simp [usB, joinL]
  have j1 : joinL [L, R, A ++ B] = L ++ [45] ++ R ++ [45] ++ (A ++ B) := by simp [usB, joinL]
  have j2 : joinL [L, V, R] = L ++ [45] ++ V ++ [45] ++ R := by simp [usB, joinL]
  have j3 : joinL [L, V, V] = L ++ [45] ++ V ++ [45] ++ V := by simp [usB, joinL]
  rw [j0, e_c7] at KC KI
  rw [j1, e_c10] at KF
  rw [j2, e_c13] at KG
  rw [j3, e_c14] at KH
  have s0 : ¬ 9223372036854775807 < (sa).size + (sb).size := by rw [← e_sa, ← e_sb]; exact cat_ok _ _ (by (try simp only [List.length_append, List.length_cons, List.length_nil]); omega)
  have q0 : sa ++ sb = c5 := by rw [← e_sa, ← e_sb, ← e_c5]; rfl
  have s1 : ¬ 9223372036854775807 < (sl).size + 1 := by rw [← e_sl]; exact cat_ok1 _ (by (try simp only [List.length_append, List.length_cons, List.length_nil]); omega)
  have q1 : sl ++ ByteArray.mk #[45] = c6 := by rw [← e_sl, ← e_c6]; rfl
  have s2 : ¬ 9223372036854775807 < (c6).size + (c5).size := by rw [← e_c6, ← e_c5]; exact cat_ok _ _ (by (try simp only [List.length_append, List.length_cons, List.length_nil]); omega)
  have q2 : c6 ++ c5 = c7 := by rw [← e_c6, ← e_c5, ← e_c7]; rfl
  have s3 : ¬ 9223372036854775807 < (c6).size + (sr).size := by rw [← e_c6, ← e_sr]; exact cat_ok _ _ (by (try simp only [List.length_append, List.length_cons, List.length_nil]); omega)
  have q3 : c6 ++ sr = c8 := by rw [← e_c6, ← e_sr, ← e_c8]; rfl
  have s4 : ¬ 9223372036854775807 < (c8).size + 1 := by rw [← e_c8]; exact cat_ok1 _ (by (try simp only [List.length_append, List.length_cons, List.length_nil]); omega)
  have q4 : c8 ++ ByteArray.mk #[45] = c9 := by rw [← e_c8, ← e_c9]; rfl
  have s5 : ¬ 9223372036854775807 < (c9).size + (c5).size := by rw [← e_c9, ← e_c5]; exact cat_ok _ _ (by (try simp only [List.length_append, List.length_cons, List.length_nil]); omega)
  have q5 : c9 ++ c5 = c10 := by rw [← e_c9, ← e_c5, ← e_c10]; rfl
  have s6 : ¬ 9223372036854775807 < (c6).size + (sv).size := by rw [← e_c6, ← e_sv]; exact cat_ok _ _ (by (try simp only [List.length_append, List.length_cons, List.length_nil]); omega)
  have q6 : c6 ++ sv = c11 := by rw [← e_c6, ← e_sv, ← e_c11]; rfl
  have s7 : ¬ 9223372036854775807 < (c11).size + 1 := by rw [← e_c11]; exact cat_ok1 _ (by (try simp only [List.length_append, List.length_cons, List.length_nil]); omega)
  have q7 : c11 ++ ByteArray.mk #[45] = c12 := by rw [← e_c11, ← e_c12]; rfl
  have s8 : ¬ 9223372036854775807 < (c12).size + (sr).size := by rw [← e_c12, ← e_sr]; exact cat_ok _ _ (by (try simp only [List.length_append, List.length_cons, List.length_nil]); omega)
  have q8 : c12 ++ sr = c13 := by rw [← e_c12, ← e_sr, ← e_c13]; rfl
  have s9 : ¬ 9223372036854775807 < (c12).size + (sv).size := by rw [← e_c12, ← e_sv]; exact cat_ok _ _ (by (try simp only [List.length_append, List.length_cons, List.length_nil]); omega)
  have q9 : c12 ++ sv = c14 := by rw [← e_c12, ← e_sv, ← e_c14]; rfl
  rw [e_sl] at KL
  rw [e_sa] at KA
  rw [e_sb] at KB
  rw [e_sr] at KR
  rw [e_sv] at KV
  have HKL := Lib.hid KL
  have HKA := Lib.hid KA
  have HKB := Lib.hid KB
  have HKR := Lib.hid KR
  have HKV := Lib.hid KV
  have HKC := Lib.hid KC
  have HKI := Lib.hid KI
  have HKF := Lib.hid KF
  have HKG := Lib.hid KG
  have HKH := Lib.hid KH
  clear KL KA KB KR KV KC KI KF KG KH hM hT n1 n2 n3 j0 j1 j2 j3 hl ha hb hr hv hL hA hB hR hV e_sl e_sa e_sb e_sr e_sv e_c5 e_c6 e_c7 e_c8 e_c9 e_c10 e_c11 e_c12 e_c13 e_c14
  go_enter Tryd.func10, Tryd.ntmps10
  go_wp2_with fail
  refine KN.out.mono ?_
  rintro e w1 ⟨rfl, hb⟩
  have HB1 := Lib.hid hb
  clear hb
  go_wp2_with fail
  refine (HKL.out w1).mono ?_
  rintro e w2 ⟨rfl, hb⟩
  have HB2 := Lib.hid (HB1.out.trans (hb.mono HB1.out.size))
  clear hb
  go_wp2_with fail
  refine (HKA.out w2).mono ?_
  rintro e w3 ⟨rfl, hb⟩
  have HB3 := Lib.hid (HB2.out.trans (hb.mono HB2.out.size))
  clear hb
  go_wp2_with fail
  refine (HKB.out w3).mono ?_
  rintro e w4 ⟨rfl, hb⟩
  have HB4 := Lib.hid (HB3.out.trans (hb.mono HB3.out.size))
  clear hb
  go_wp2_with fail
  refine (HKR.out w4).mono ?_
  rintro e w5 ⟨rfl, hb⟩
  have HB5 := Lib.hid (HB4.out.trans (hb.mono HB4.out.size))
  clear hb
  go_wp2_with fail
  refine (HKV.out w5).mono ?_
  rintro e w6 ⟨rfl, hb⟩
  have HB6 := Lib.hid (HB5.out.trans (hb.mono HB5.out.size))
  clear hb
  go_wp2_with fail
  refine (HKC.out w6 (HM.out.below HB6.out)).mono ?_
  rintro e w7 ⟨rfl, hb⟩
  have HB7 := Lib.hid (HB6.out.trans (hb.mono HB6.out.size))
  clear hb
  go_wp2_with fail
  refine (HKF.out w7 (HM.out.below HB7.out)).mono ?_
  rintro e w8 ⟨rfl, hb⟩
  have HB8 := Lib.hid (HB7.out.trans (hb.mono HB7.out.size))
  clear hb
  go_wp2_with fail
  refine (HKG.out w8 (HM.out.below HB8.out)).mono ?_
  rintro e w9 ⟨rfl, hb⟩
  have HB9 := Lib.hid (HB8.out.trans (hb.mono HB8.out.size))
  clear hb
  go_wp2_with fail
  refine (HKH.out w9 (HM.out.below HB9.out)).mono ?_
  rintro e w10 ⟨rfl, hb⟩
  have HB10 := Lib.hid (HB9.out.trans (hb.mono HB9.out.size))
  clear hb
  go_wp2_with fail
  refine (HKI.out w10 (HM.out.below HB10.out)).mono ?_
  rintro e w11 ⟨rfl, hb⟩
  have HB11 := Lib.hid (HB10.out.trans (hb.mono HB10.out.size))
  clear hb
  go_wp2
  go_ret
  exact ⟨rfl, HB11.out⟩
set_option maxRecDepth 100000 in
set_option maxHeartbeats 4000000 in
theorem built_101 (a0 a1 a2 a3 : Int) (w : World) (hM : ML w) (h0 : 0 ≤ a0 ∧ a0 < 256) (h1 : 0 ≤ a1 ∧ a1 < 256) (h2 : 0 ≤ a2 ∧ a2 < 256) (h3 : 0 ≤ a3 ∧ a3 < 256) :
    Calls Tryd.prog 10 #[.int .u8 a0, .int .u8 a1, .int .u8 a2, .int .u8 a3, .bool true, .bool false, .bool true] w fun e w' => e = .returned (.bool true) ∧ Below w.heap.size w w' := by
  have HM := Lib.hid hM
  have KN := Lib.hid (law9_known w hM)
  obtain ⟨L, hL, hl, KL⟩ := part_lowc a0 (2 + a0 / 26 % 2) h0 (by omega)
  obtain ⟨A, hA, ha, KA⟩ := part_upc a1 1 h1 (by omega)
  obtain ⟨B, hB, hb, KB⟩ := part_lowc (a1 / 2) 3 (by omega) (by omega)
  obtain ⟨R, hR, hr, KR⟩ := part_upc a2 2 h2 (by omega)
  obtain ⟨V, hV, hv, KV⟩ := part_lowc a3 (5 + a3 / 26 % 4) h3 (by omega)
  have hT := built_tg hL (by omega) (by omega) hA (by omega) hB (by omega) hR (by omega) hV (by omega) (by omega) true false true
  obtain ⟨n1, n2, n3⟩ := built_no hL (by omega) (by omega) hA (by omega) hB (by omega) hR (by omega) hV (by omega) (by omega)
  have KC := fun W h => canon_yes hT.canon W h
  have KI := fun W h => is_yes hT.isC W h
  have KF := fun W h => canon_no n1 W h
  have KG := fun W h => canon_no n2 W h
  have KH := fun W h => canon_no n3 W h
  obtain ⟨h00, h01⟩ := h0
  obtain ⟨h10, h11⟩ := h1
  obtain ⟨h20, h21⟩ := h2
  obtain ⟨h30, h31⟩ := h3
  obtain ⟨sl, e_sl⟩ : ∃ x, S (L) = x := ⟨_, rfl⟩
  obtain ⟨sa, e_sa⟩ : ∃ x, S (A) = x := ⟨_, rfl⟩
  obtain ⟨sb, e_sb⟩ : ∃ x, S (B) = x := ⟨_, rfl⟩
  obtain ⟨sr, e_sr⟩ : ∃ x, S (R) = x := ⟨_, rfl⟩
  obtain ⟨sv, e_sv⟩ : ∃ x, S (V) = x := ⟨_, rfl⟩
  obtain ⟨c5, e_c5⟩ : ∃ x, S (A ++ B) = x := ⟨_, rfl⟩
  obtain ⟨c6, e_c6⟩ : ∃ x, S (L ++ [45]) = x := ⟨_, rfl⟩
  obtain ⟨c7, e_c7⟩ : ∃ x, S (L ++ [45] ++ (A ++ B)) = x := ⟨_, rfl⟩
  obtain ⟨c8, e_c8⟩ : ∃ x, S (L ++ [45] ++ (A ++ B) ++ [45]) = x := ⟨_, rfl⟩
  obtain ⟨c9, e_c9⟩ : ∃ x, S (L ++ [45] ++ (A ++ B) ++ [45] ++ V) = x := ⟨_, rfl⟩
  obtain ⟨c10, e_c10⟩ : ∃ x, S (L ++ [45] ++ R) = x := ⟨_, rfl⟩
  obtain ⟨c11, e_c11⟩ : ∃ x, S (L ++ [45] ++ R ++ [45]) = x := ⟨_, rfl⟩
  obtain ⟨c12, e_c12⟩ : ∃ x, S (L ++ [45] ++ R ++ [45] ++ (A ++ B)) = x := ⟨_, rfl⟩
  obtain ⟨c13, e_c13⟩ : ∃ x, S (L ++ [45] ++ V) = x := ⟨_, rfl⟩
  obtain ⟨c14, e_c14⟩ : ∃ x, S (L ++ [45] ++ V ++ [45]) = x := ⟨_, rfl⟩
  obtain ⟨c15, e_c15⟩ : ∃ x, S (L ++ [45] ++ V ++ [45] ++ R) = x := ⟨_, rfl⟩
  obtain ⟨c16, e_c16⟩ : ∃ x, S (L ++ [45] ++ V ++ [45] ++ V) = x := ⟨_, rfl⟩
  have j0 : joinL (usB L (A ++ B) R V true false true) = L ++ [45] ++ (A ++ B) ++ [45] ++ V := by simp [usB, joinL]
  have j1 : joinL [L, R, A ++ B] = L ++ [45] ++ R ++ [45] ++ (A ++ B) := by simp [usB, joinL]
  have j2 : joinL [L, V, R] = L ++ [45] ++ V ++ [45] ++ R := by simp [usB, joinL]
  have j3 : joinL [L, V, V] = L ++ [45] ++ V ++ [45] ++ V := by simp [usB, joinL]
  rw [j0, e_c9] at KC KI
  rw [j1, e_c12] at KF
  rw [j2, e_c15] at KG
  rw [j3, e_c16] at KH
  have s0 : ¬ 9223372036854775807 < (sa).size + (sb).size := by rw [← e_sa, ← e_sb]; exact cat_ok _ _ (by (try simp only [List.length_append, List.length_cons, List.length_nil]); omega)
  have q0 : sa ++ sb = c5 := by rw [← e_sa, ← e_sb, ← e_c5]; rfl
  have s1 : ¬ 9223372036854775807 < (sl).size + 1 := by rw [← e_sl]; exact cat_ok1 _ (by (try simp only [List.length_append, List.length_cons, List.length_nil]); omega)
  have q1 : sl ++ ByteArray.mk #[45] = c6 := by rw [← e_sl, ← e_c6]; rfl
  have s2 : ¬ 9223372036854775807 < (c6).size + (c5).size := by rw [← e_c6, ← e_c5]; exact cat_ok _ _ (by (try simp only [List.length_append, List.length_cons, List.length_nil]); omega)
  have q2 : c6 ++ c5 = c7 := by rw [← e_c6, ← e_c5, ← e_c7]; rfl
  have s3 : ¬ 9223372036854775807 < (c7).size + 1 := by rw [← e_c7]; exact cat_ok1 _ (by (try simp only [List.length_append, List.length_cons, List.length_nil]); omega)
  have q3 : c7 ++ ByteArray.mk #[45] = c8 := by rw [← e_c7, ← e_c8]; rfl
  have s4 : ¬ 9223372036854775807 < (c8).size + (sv).size := by rw [← e_c8, ← e_sv]; exact cat_ok _ _ (by (try simp only [List.length_append, List.length_cons, List.length_nil]); omega)
  have q4 : c8 ++ sv = c9 := by rw [← e_c8, ← e_sv, ← e_c9]; rfl
  have s5 : ¬ 9223372036854775807 < (c6).size + (sr).size := by rw [← e_c6, ← e_sr]; exact cat_ok _ _ (by (try simp only [List.length_append, List.length_cons, List.length_nil]); omega)
  have q5 : c6 ++ sr = c10 := by rw [← e_c6, ← e_sr, ← e_c10]; rfl
  have s6 : ¬ 9223372036854775807 < (c10).size + 1 := by rw [← e_c10]; exact cat_ok1 _ (by (try simp only [List.length_append, List.length_cons, List.length_nil]); omega)
  have q6 : c10 ++ ByteArray.mk #[45] = c11 := by rw [← e_c10, ← e_c11]; rfl
  have s7 : ¬ 9223372036854775807 < (c11).size + (c5).size := by rw [← e_c11, ← e_c5]; exact cat_ok _ _ (by (try simp only [List.length_append, List.length_cons, List.length_nil]); omega)
  have q7 : c11 ++ c5 = c12 := by rw [← e_c11, ← e_c5, ← e_c12]; rfl
  have s8 : ¬ 9223372036854775807 < (c6).size + (sv).size := by rw [← e_c6, ← e_sv]; exact cat_ok _ _ (by (try simp only [List.length_append, List.length_cons, List.length_nil]); omega)
  have q8 : c6 ++ sv = c13 := by rw [← e_c6, ← e_sv, ← e_c13]; rfl
  have s9 : ¬ 9223372036854775807 < (c13).size + 1 := by rw [← e_c13]; exact cat_ok1 _ (by (try simp only [List.length_append, List.length_cons, List.length_nil]); omega)
  have q9 : c13 ++ ByteArray.mk #[45] = c14 := by rw [← e_c13, ← e_c14]; rfl
  have s10 : ¬ 9223372036854775807 < (c14).size + (sr).size := by rw [← e_c14, ← e_sr]; exact cat_ok _ _ (by (try simp only [List.length_append, List.length_cons, List.length_nil]); omega)
  have q10 : c14 ++ sr = c15 := by rw [← e_c14, ← e_sr, ← e_c15]; rfl
  have s11 : ¬ 9223372036854775807 < (c14).size + (sv).size := by rw [← e_c14, ← e_sv]; exact cat_ok _ _ (by (try simp only [List.length_append, List.length_cons, List.length_nil]); omega)
  have q11 : c14 ++ sv = c16 := by rw [← e_c14, ← e_sv, ← e_c16]; rfl
  rw [e_sl] at KL
  rw [e_sa] at KA
  rw [e_sb] at KB
  rw [e_sr] at KR
  rw [e_sv] at KV
  have HKL := Lib.hid KL
  have HKA := Lib.hid KA
  have HKB := Lib.hid KB
  have HKR := Lib.hid KR
  have HKV := Lib.hid KV
  have HKC := Lib.hid KC
  have HKI := Lib.hid KI
  have HKF := Lib.hid KF
  have HKG := Lib.hid KG
  have HKH := Lib.hid KH
  clear KL KA KB KR KV KC KI KF KG KH hM hT n1 n2 n3 j0 j1 j2 j3 hl ha hb hr hv hL hA hB hR hV e_sl e_sa e_sb e_sr e_sv e_c5 e_c6 e_c7 e_c8 e_c9 e_c10 e_c11 e_c12 e_c13 e_c14 e_c15 e_c16
  go_enter Tryd.func10, Tryd.ntmps10
  go_wp2_with fail
  refine KN.out.mono ?_
  rintro e w1 ⟨rfl, hb⟩
  have HB1 := Lib.hid hb
  clear hb
  go_wp2_with fail
  refine (HKL.out w1).mono ?_
  rintro e w2 ⟨rfl, hb⟩
  have HB2 := Lib.hid (HB1.out.trans (hb.mono HB1.out.size))
  clear hb
  go_wp2_with fail
  refine (HKA.out w2).mono ?_
  rintro e w3 ⟨rfl, hb⟩
  have HB3 := Lib.hid (HB2.out.trans (hb.mono HB2.out.size))
  clear hb
  go_wp2_with fail
  refine (HKB.out w3).mono ?_
  rintro e w4 ⟨rfl, hb⟩
  have HB4 := Lib.hid (HB3.out.trans (hb.mono HB3.out.size))
  clear hb
  go_wp2_with fail
  refine (HKR.out w4).mono ?_
  rintro e w5 ⟨rfl, hb⟩
  have HB5 := Lib.hid (HB4.out.trans (hb.mono HB4.out.size))
  clear hb
  go_wp2_with fail
  refine (HKV.out w5).mono ?_
  rintro e w6 ⟨rfl, hb⟩
  have HB6 := Lib.hid (HB5.out.trans (hb.mono HB5.out.size))
  clear hb
  go_wp2_with fail
  refine (HKC.out w6 (HM.out.below HB6.out)).mono ?_
  rintro e w7 ⟨rfl, hb⟩
  have HB7 := Lib.hid (HB6.out.trans (hb.mono HB6.out.size))
  clear hb
  go_wp2_with fail
  refine (HKF.out w7 (HM.out.below HB7.out)).mono ?_
  rintro e w8 ⟨rfl, hb⟩
  have HB8 := Lib.hid (HB7.out.trans (hb.mono HB7.out.size))
  clear hb
  go_wp2_with fail
  refine (HKG.out w8 (HM.out.below HB8.out)).mono ?_
  rintro e w9 ⟨rfl, hb⟩
  have HB9 := Lib.hid (HB8.out.trans (hb.mono HB8.out.size))
  clear hb
  go_wp2_with fail
  refine (HKH.out w9 (HM.out.below HB9.out)).mono ?_
  rintro e w10 ⟨rfl, hb⟩
  have HB10 := Lib.hid (HB9.out.trans (hb.mono HB9.out.size))
  clear hb
  go_wp2_with fail
  refine (HKI.out w10 (HM.out.below HB10.out)).mono ?_
  rintro e w11 ⟨rfl, hb⟩
  have HB11 := Lib.hid (HB10.out.trans (hb.mono HB10.out.size))
  clear hb
  go_wp2
  go_ret
  exact ⟨rfl, HB11.out⟩
set_option maxRecDepth 100000 in
set_option maxHeartbeats 4000000 in
theorem built_110 (a0 a1 a2 a3 : Int) (w : World) (hM : ML w) (h0 : 0 ≤ a0 ∧ a0 < 256) (h1 : 0 ≤ a1 ∧ a1 < 256) (h2 : 0 ≤ a2 ∧ a2 < 256) (h3 : 0 ≤ a3 ∧ a3 < 256) :
    Calls Tryd.prog 10 #[.int .u8 a0, .int .u8 a1, .int .u8 a2, .int .u8 a3, .bool true, .bool true, .bool false] w fun e w' => e = .returned (.bool true) ∧ Below w.heap.size w w' := by
  have HM := Lib.hid hM
  have KN := Lib.hid (law9_known w hM)
  obtain ⟨L, hL, hl, KL⟩ := part_lowc a0 (2 + a0 / 26 % 2) h0 (by omega)
  obtain ⟨A, hA, ha, KA⟩ := part_upc a1 1 h1 (by omega)
  obtain ⟨B, hB, hb, KB⟩ := part_lowc (a1 / 2) 3 (by omega) (by omega)
  obtain ⟨R, hR, hr, KR⟩ := part_upc a2 2 h2 (by omega)
  obtain ⟨V, hV, hv, KV⟩ := part_lowc a3 (5 + a3 / 26 % 4) h3 (by omega)
  have hT := built_tg hL (by omega) (by omega) hA (by omega) hB (by omega) hR (by omega) hV (by omega) (by omega) true true false
  obtain ⟨n1, n2, n3⟩ := built_no hL (by omega) (by omega) hA (by omega) hB (by omega) hR (by omega) hV (by omega) (by omega)
  have KC := fun W h => canon_yes hT.canon W h
  have KI := fun W h => is_yes hT.isC W h
  have KF := fun W h => canon_no n1 W h
  have KG := fun W h => canon_no n2 W h
  have KH := fun W h => canon_no n3 W h
  obtain ⟨h00, h01⟩ := h0
  obtain ⟨h10, h11⟩ := h1
  obtain ⟨h20, h21⟩ := h2
  obtain ⟨h30, h31⟩ := h3
  obtain ⟨sl, e_sl⟩ : ∃ x, S (L) = x := ⟨_, rfl⟩
  obtain ⟨sa, e_sa⟩ : ∃ x, S (A) = x := ⟨_, rfl⟩
  obtain ⟨sb, e_sb⟩ : ∃ x, S (B) = x := ⟨_, rfl⟩
  obtain ⟨sr, e_sr⟩ : ∃ x, S (R) = x := ⟨_, rfl⟩
  obtain ⟨sv, e_sv⟩ : ∃ x, S (V) = x := ⟨_, rfl⟩
  obtain ⟨c5, e_c5⟩ : ∃ x, S (A ++ B) = x := ⟨_, rfl⟩
  obtain ⟨c6, e_c6⟩ : ∃ x, S (L ++ [45]) = x := ⟨_, rfl⟩
  obtain ⟨c7, e_c7⟩ : ∃ x, S (L ++ [45] ++ (A ++ B)) = x := ⟨_, rfl⟩
  obtain ⟨c8, e_c8⟩ : ∃ x, S (L ++ [45] ++ (A ++ B) ++ [45]) = x := ⟨_, rfl⟩
  obtain ⟨c9, e_c9⟩ : ∃ x, S (L ++ [45] ++ (A ++ B) ++ [45] ++ R) = x := ⟨_, rfl⟩
  obtain ⟨c10, e_c10⟩ : ∃ x, S (L ++ [45] ++ R) = x := ⟨_, rfl⟩
  obtain ⟨c11, e_c11⟩ : ∃ x, S (L ++ [45] ++ R ++ [45]) = x := ⟨_, rfl⟩
  obtain ⟨c12, e_c12⟩ : ∃ x, S (L ++ [45] ++ R ++ [45] ++ (A ++ B)) = x := ⟨_, rfl⟩
  obtain ⟨c13, e_c13⟩ : ∃ x, S (L ++ [45] ++ V) = x := ⟨_, rfl⟩
  obtain ⟨c14, e_c14⟩ : ∃ x, S (L ++ [45] ++ V ++ [45]) = x := ⟨_, rfl⟩
  obtain ⟨c15, e_c15⟩ : ∃ x, S (L ++ [45] ++ V ++ [45] ++ R) = x := ⟨_, rfl⟩
  obtain ⟨c16, e_c16⟩ : ∃ x, S (L ++ [45] ++ V ++ [45] ++ V) = x := ⟨_, rfl⟩
  have j0 : joinL (usB L (A ++ B) R V true true false) = L ++ [45] ++ (A ++ B) ++ [45] ++ R := by simp [usB, joinL]
  have j1 : joinL [L, R, A ++ B] = L ++ [45] ++ R ++ [45] ++ (A ++ B) := by simp [usB, joinL]
  have j2 : joinL [L, V, R] = L ++ [45] ++ V ++ [45] ++ R := by simp [usB, joinL]
  have j3 : joinL [L, V, V] = L ++ [45] ++ V ++ [45] ++ V := by simp [usB, joinL]
  rw [j0, e_c9] at KC KI
  rw [j1, e_c12] at KF
  rw [j2, e_c15] at KG
  rw [j3, e_c16] at KH
  have s0 : ¬ 9223372036854775807 < (sa).size + (sb).size := by rw [← e_sa, ← e_sb]; exact cat_ok _ _ (by (try simp only [List.length_append, List.length_cons, List.length_nil]); omega)
  have q0 : sa ++ sb = c5 := by rw [← e_sa, ← e_sb, ← e_c5]; rfl
  have s1 : ¬ 9223372036854775807 < (sl).size + 1 := by rw [← e_sl]; exact cat_ok1 _ (by (try simp only [List.length_append, List.length_cons, List.length_nil]); omega)
  have q1 : sl ++ ByteArray.mk #[45] = c6 := by rw [← e_sl, ← e_c6]; rfl
  have s2 : ¬ 9223372036854775807 < (c6).size + (c5).size := by rw [← e_c6, ← e_c5]; exact cat_ok _ _ (by (try simp only [List.length_append, List.length_cons, List.length_nil]); omega)
  have q2 : c6 ++ c5 = c7 := by rw [← e_c6, ← e_c5, ← e_c7]; rfl
  have s3 : ¬ 9223372036854775807 < (c7).size + 1 := by rw [← e_c7]; exact cat_ok1 _ (by (try simp only [List.length_append, List.length_cons, List.length_nil]); omega)
  have q3 : c7 ++ ByteArray.mk #[45] = c8 := by rw [← e_c7, ← e_c8]; rfl
  have s4 : ¬ 9223372036854775807 < (c8).size + (sr).size := by rw [← e_c8, ← e_sr]; exact cat_ok _ _ (by (try simp only [List.length_append, List.length_cons, List.length_nil]); omega)
  have q4 : c8 ++ sr = c9 := by rw [← e_c8, ← e_sr, ← e_c9]; rfl
  have s5 : ¬ 9223372036854775807 < (c6).size + (sr).size := by rw [← e_c6, ← e_sr]; exact cat_ok _ _ (by (try simp only [List.length_append, List.length_cons, List.length_nil]); omega)
  have q5 : c6 ++ sr = c10 := by rw [← e_c6, ← e_sr, ← e_c10]; rfl
  have s6 : ¬ 9223372036854775807 < (c10).size + 1 := by rw [← e_c10]; exact cat_ok1 _ (by (try simp only [List.length_append, List.length_cons, List.length_nil]); omega)
  have q6 : c10 ++ ByteArray.mk #[45] = c11 := by rw [← e_c10, ← e_c11]; rfl
  have s7 : ¬ 9223372036854775807 < (c11).size + (c5).size := by rw [← e_c11, ← e_c5]; exact cat_ok _ _ (by (try simp only [List.length_append, List.length_cons, List.length_nil]); omega)
  have q7 : c11 ++ c5 = c12 := by rw [← e_c11, ← e_c5, ← e_c12]; rfl
  have s8 : ¬ 9223372036854775807 < (c6).size + (sv).size := by rw [← e_c6, ← e_sv]; exact cat_ok _ _ (by (try simp only [List.length_append, List.length_cons, List.length_nil]); omega)
  have q8 : c6 ++ sv = c13 := by rw [← e_c6, ← e_sv, ← e_c13]; rfl
  have s9 : ¬ 9223372036854775807 < (c13).size + 1 := by rw [← e_c13]; exact cat_ok1 _ (by (try simp only [List.length_append, List.length_cons, List.length_nil]); omega)
  have q9 : c13 ++ ByteArray.mk #[45] = c14 := by rw [← e_c13, ← e_c14]; rfl
  have s10 : ¬ 9223372036854775807 < (c14).size + (sr).size := by rw [← e_c14, ← e_sr]; exact cat_ok _ _ (by (try simp only [List.length_append, List.length_cons, List.length_nil]); omega)
  have q10 : c14 ++ sr = c15 := by rw [← e_c14, ← e_sr, ← e_c15]; rfl
  have s11 : ¬ 9223372036854775807 < (c14).size + (sv).size := by rw [← e_c14, ← e_sv]; exact cat_ok _ _ (by (try simp only [List.length_append, List.length_cons, List.length_nil]); omega)
  have q11 : c14 ++ sv = c16 := by rw [← e_c14, ← e_sv, ← e_c16]; rfl
  rw [e_sl] at KL
  rw [e_sa] at KA
  rw [e_sb] at KB
  rw [e_sr] at KR
  rw [e_sv] at KV
  have HKL := Lib.hid KL
  have HKA := Lib.hid KA
  have HKB := Lib.hid KB
  have HKR := Lib.hid KR
  have HKV := Lib.hid KV
  have HKC := Lib.hid KC
  have HKI := Lib.hid KI
  have HKF := Lib.hid KF
  have HKG := Lib.hid KG
  have HKH := Lib.hid KH
  clear KL KA KB KR KV KC KI KF KG KH hM hT n1 n2 n3 j0 j1 j2 j3 hl ha hb hr hv hL hA hB hR hV e_sl e_sa e_sb e_sr e_sv e_c5 e_c6 e_c7 e_c8 e_c9 e_c10 e_c11 e_c12 e_c13 e_c14 e_c15 e_c16
  go_enter Tryd.func10, Tryd.ntmps10
  go_wp2_with fail
  refine KN.out.mono ?_
  rintro e w1 ⟨rfl, hb⟩
  have HB1 := Lib.hid hb
  clear hb
  go_wp2_with fail
  refine (HKL.out w1).mono ?_
  rintro e w2 ⟨rfl, hb⟩
  have HB2 := Lib.hid (HB1.out.trans (hb.mono HB1.out.size))
  clear hb
  go_wp2_with fail
  refine (HKA.out w2).mono ?_
  rintro e w3 ⟨rfl, hb⟩
  have HB3 := Lib.hid (HB2.out.trans (hb.mono HB2.out.size))
  clear hb
  go_wp2_with fail
  refine (HKB.out w3).mono ?_
  rintro e w4 ⟨rfl, hb⟩
  have HB4 := Lib.hid (HB3.out.trans (hb.mono HB3.out.size))
  clear hb
  go_wp2_with fail
  refine (HKR.out w4).mono ?_
  rintro e w5 ⟨rfl, hb⟩
  have HB5 := Lib.hid (HB4.out.trans (hb.mono HB4.out.size))
  clear hb
  go_wp2_with fail
  refine (HKV.out w5).mono ?_
  rintro e w6 ⟨rfl, hb⟩
  have HB6 := Lib.hid (HB5.out.trans (hb.mono HB5.out.size))
  clear hb
  go_wp2_with fail
  refine (HKC.out w6 (HM.out.below HB6.out)).mono ?_
  rintro e w7 ⟨rfl, hb⟩
  have HB7 := Lib.hid (HB6.out.trans (hb.mono HB6.out.size))
  clear hb
  go_wp2_with fail
  refine (HKF.out w7 (HM.out.below HB7.out)).mono ?_
  rintro e w8 ⟨rfl, hb⟩
  have HB8 := Lib.hid (HB7.out.trans (hb.mono HB7.out.size))
  clear hb
  go_wp2_with fail
  refine (HKG.out w8 (HM.out.below HB8.out)).mono ?_
  rintro e w9 ⟨rfl, hb⟩
  have HB9 := Lib.hid (HB8.out.trans (hb.mono HB8.out.size))
  clear hb
  go_wp2_with fail
  refine (HKH.out w9 (HM.out.below HB9.out)).mono ?_
  rintro e w10 ⟨rfl, hb⟩
  have HB10 := Lib.hid (HB9.out.trans (hb.mono HB9.out.size))
  clear hb
  go_wp2_with fail
  refine (HKI.out w10 (HM.out.below HB10.out)).mono ?_
  rintro e w11 ⟨rfl, hb⟩
  have HB11 := Lib.hid (HB10.out.trans (hb.mono HB10.out.size))
  clear hb
  go_wp2
  go_ret
  exact ⟨rfl, HB11.out⟩
set_option maxRecDepth 100000 in
set_option maxHeartbeats 4000000 in
theorem built_111 (a0 a1 a2 a3 : Int) (w : World) (hM : ML w) (h0 : 0 ≤ a0 ∧ a0 < 256) (h1 : 0 ≤ a1 ∧ a1 < 256) (h2 : 0 ≤ a2 ∧ a2 < 256) (h3 : 0 ≤ a3 ∧ a3 < 256) :
    Calls Tryd.prog 10 #[.int .u8 a0, .int .u8 a1, .int .u8 a2, .int .u8 a3, .bool true, .bool true, .bool true] w fun e w' => e = .returned (.bool true) ∧ Below w.heap.size w w' := by
  have HM := Lib.hid hM
  have KN := Lib.hid (law9_known w hM)
  obtain ⟨L, hL, hl, KL⟩ := part_lowc a0 (2 + a0 / 26 % 2) h0 (by omega)
  obtain ⟨A, hA, ha, KA⟩ := part_upc a1 1 h1 (by omega)
  obtain ⟨B, hB, hb, KB⟩ := part_lowc (a1 / 2) 3 (by omega) (by omega)
  obtain ⟨R, hR, hr, KR⟩ := part_upc a2 2 h2 (by omega)
  obtain ⟨V, hV, hv, KV⟩ := part_lowc a3 (5 + a3 / 26 % 4) h3 (by omega)
  have hT := built_tg hL (by omega) (by omega) hA (by omega) hB (by omega) hR (by omega) hV (by omega) (by omega) true true true
  obtain ⟨n1, n2, n3⟩ := built_no hL (by omega) (by omega) hA (by omega) hB (by omega) hR (by omega) hV (by omega) (by omega)
  have KC := fun W h => canon_yes hT.canon W h
  have KI := fun W h => is_yes hT.isC W h
  have KF := fun W h => canon_no n1 W h
  have KG := fun W h => canon_no n2 W h
  have KH := fun W h => canon_no n3 W h
  obtain ⟨h00, h01⟩ := h0
  obtain ⟨h10, h11⟩ := h1
  obtain ⟨h20, h21⟩ := h2
  obtain ⟨h30, h31⟩ := h3
  obtain ⟨sl, e_sl⟩ : ∃ x, S (L) = x := ⟨_, rfl⟩
  obtain ⟨sa, e_sa⟩ : ∃ x, S (A) = x := ⟨_, rfl⟩
  obtain ⟨sb, e_sb⟩ : ∃ x, S (B) = x := ⟨_, rfl⟩
  obtain ⟨sr, e_sr⟩ : ∃ x, S (R) = x := ⟨_, rfl⟩
  obtain ⟨sv, e_sv⟩ : ∃ x, S (V) = x := ⟨_, rfl⟩
  obtain ⟨c5, e_c5⟩ : ∃ x, S (A ++ B) = x := ⟨_, rfl⟩
  obtain ⟨c6, e_c6⟩ : ∃ x, S (L ++ [45]) = x := ⟨_, rfl⟩
  obtain ⟨c7, e_c7⟩ : ∃ x, S (L ++ [45] ++ (A ++ B)) = x := ⟨_, rfl⟩
  obtain ⟨c8, e_c8⟩ : ∃ x, S (L ++ [45] ++ (A ++ B) ++ [45]) = x := ⟨_, rfl⟩
  obtain ⟨c9, e_c9⟩ : ∃ x, S (L ++ [45] ++ (A ++ B) ++ [45] ++ R) = x := ⟨_, rfl⟩
  obtain ⟨c10, e_c10⟩ : ∃ x, S (L ++ [45] ++ (A ++ B) ++ [45] ++ R ++ [45]) = x := ⟨_, rfl⟩
  obtain ⟨c11, e_c11⟩ : ∃ x, S (L ++ [45] ++ (A ++ B) ++ [45] ++ R ++ [45] ++ V) = x := ⟨_, rfl⟩
  obtain ⟨c12, e_c12⟩ : ∃ x, S (L ++ [45] ++ R) = x := ⟨_, rfl⟩
  obtain ⟨c13, e_c13⟩ : ∃ x, S (L ++ [45] ++ R ++ [45]) = x := ⟨_, rfl⟩
  obtain ⟨c14, e_c14⟩ : ∃ x, S (L ++ [45] ++ R ++ [45] ++ (A ++ B)) = x := ⟨_, rfl⟩
  obtain ⟨c15, e_c15⟩ : ∃ x, S (L ++ [45] ++ V) = x := ⟨_, rfl⟩
  obtain ⟨c16, e_c16⟩ : ∃ x, S (L ++ [45] ++ V ++ [45]) = x := ⟨_, rfl⟩
  obtain ⟨c17, e_c17⟩ : ∃ x, S (L ++ [45] ++ V ++ [45] ++ R) = x := ⟨_, rfl⟩
  obtain ⟨c18, e_c18⟩ : ∃ x, S (L ++ [45] ++ V ++ [45] ++ V) = x := ⟨_, rfl⟩
  have j0 : joinL (usB L (A ++ B) R V true true true) = L ++ [45] ++ (A ++ B) ++ [45] ++ R ++ [45] ++ V := by simp [usB, joinL]
  have j1 : joinL [L, R, A ++ B] = L ++ [45] ++ R ++ [45] ++ (A ++ B) := by simp [usB, joinL]
  have j2 : joinL [L, V, R] = L ++ [45] ++ V ++ [45] ++ R := by simp [usB, joinL]
  have j3 : joinL [L, V, V] = L ++ [45] ++ V ++ [45] ++ V := by simp [usB, joinL]
  rw [j0, e_c11] at KC KI
  rw [j1, e_c14] at KF
  rw [j2, e_c17] at KG
  rw [j3, e_c18] at KH
  have s0 : ¬ 9223372036854775807 < (sa).size + (sb).size := by rw [← e_sa, ← e_sb]; exact cat_ok _ _ (by (try simp only [List.length_append, List.length_cons, List.length_nil]); omega)
  have q0 : sa ++ sb = c5 := by rw [← e_sa, ← e_sb, ← e_c5]; rfl
  have s1 : ¬ 9223372036854775807 < (sl).size + 1 := by rw [← e_sl]; exact cat_ok1 _ (by (try simp only [List.length_append, List.length_cons, List.length_nil]); omega)
  have q1 : sl ++ ByteArray.mk #[45] = c6 := by rw [← e_sl, ← e_c6]; rfl
  have s2 : ¬ 9223372036854775807 < (c6).size + (c5).size := by rw [← e_c6, ← e_c5]; exact cat_ok _ _ (by (try simp only [List.length_append, List.length_cons, List.length_nil]); omega)
  have q2 : c6 ++ c5 = c7 := by rw [← e_c6, ← e_c5, ← e_c7]; rfl
  have s3 : ¬ 9223372036854775807 < (c7).size + 1 := by rw [← e_c7]; exact cat_ok1 _ (by (try simp only [List.length_append, List.length_cons, List.length_nil]); omega)
  have q3 : c7 ++ ByteArray.mk #[45] = c8 := by rw [← e_c7, ← e_c8]; rfl
  have s4 : ¬ 9223372036854775807 < (c8).size + (sr).size := by rw [← e_c8, ← e_sr]; exact cat_ok _ _ (by (try simp only [List.length_append, List.length_cons, List.length_nil]); omega)
  have q4 : c8 ++ sr = c9 := by rw [← e_c8, ← e_sr, ← e_c9]; rfl
  have s5 : ¬ 9223372036854775807 < (c9).size + 1 := by rw [← e_c9]; exact cat_ok1 _ (by (try simp only [List.length_append, List.length_cons, List.length_nil]); omega)
  have q5 : c9 ++ ByteArray.mk #[45] = c10 := by rw [← e_c9, ← e_c10]; rfl
  have s6 : ¬ 9223372036854775807 < (c10).size + (sv).size := by rw [← e_c10, ← e_sv]; exact cat_ok _ _ (by (try simp only [List.length_append, List.length_cons, List.length_nil]); omega)
  have q6 : c10 ++ sv = c11 := by rw [← e_c10, ← e_sv, ← e_c11]; rfl
  have s7 : ¬ 9223372036854775807 < (c6).size + (sr).size := by rw [← e_c6, ← e_sr]; exact cat_ok _ _ (by (try simp only [List.length_append, List.length_cons, List.length_nil]); omega)
  have q7 : c6 ++ sr = c12 := by rw [← e_c6, ← e_sr, ← e_c12]; rfl
  have s8 : ¬ 9223372036854775807 < (c12).size + 1 := by rw [← e_c12]; exact cat_ok1 _ (by (try simp only [List.length_append, List.length_cons, List.length_nil]); omega)
  have q8 : c12 ++ ByteArray.mk #[45] = c13 := by rw [← e_c12, ← e_c13]; rfl
  have s9 : ¬ 9223372036854775807 < (c13).size + (c5).size := by rw [← e_c13, ← e_c5]; exact cat_ok _ _ (by (try simp only [List.length_append, List.length_cons, List.length_nil]); omega)
  have q9 : c13 ++ c5 = c14 := by rw [← e_c13, ← e_c5, ← e_c14]; rfl
  have s10 : ¬ 9223372036854775807 < (c6).size + (sv).size := by rw [← e_c6, ← e_sv]; exact cat_ok _ _ (by (try simp only [List.length_append, List.length_cons, List.length_nil]); omega)
  have q10 : c6 ++ sv = c15 := by rw [← e_c6, ← e_sv, ← e_c15]; rfl
  have s11 : ¬ 9223372036854775807 < (c15).size + 1 := by rw [← e_c15]; exact cat_ok1 _ (by (try simp only [List.length_append, List.length_cons, List.length_nil]); omega)
  have q11 : c15 ++ ByteArray.mk #[45] = c16 := by rw [← e_c15, ← e_c16]; rfl
  have s12 : ¬ 9223372036854775807 < (c16).size + (sr).size := by rw [← e_c16, ← e_sr]; exact cat_ok _ _ (by (try simp only [List.length_append, List.length_cons, List.length_nil]); omega)
  have q12 : c16 ++ sr = c17 := by rw [← e_c16, ← e_sr, ← e_c17]; rfl
  have s13 : ¬ 9223372036854775807 < (c16).size + (sv).size := by rw [← e_c16, ← e_sv]; exact cat_ok _ _ (by (try simp only [List.length_append, List.length_cons, List.length_nil]); omega)
  have q13 : c16 ++ sv = c18 := by rw [← e_c16, ← e_sv, ← e_c18]; rfl
  rw [e_sl] at KL
  rw [e_sa] at KA
  rw [e_sb] at KB
  rw [e_sr] at KR
  rw [e_sv] at KV
  have HKL := Lib.hid KL
  have HKA := Lib.hid KA
  have HKB := Lib.hid KB
  have HKR := Lib.hid KR
  have HKV := Lib.hid KV
  have HKC := Lib.hid KC
  have HKI := Lib.hid KI
  have HKF := Lib.hid KF
  have HKG := Lib.hid KG
  have HKH := Lib.hid KH
  clear KL KA KB KR KV KC KI KF KG KH hM hT n1 n2 n3 j0 j1 j2 j3 hl ha hb hr hv hL hA hB hR hV e_sl e_sa e_sb e_sr e_sv e_c5 e_c6 e_c7 e_c8 e_c9 e_c10 e_c11 e_c12 e_c13 e_c14 e_c15 e_c16 e_c17 e_c18
  go_enter Tryd.func10, Tryd.ntmps10
  go_wp2_with fail
  refine KN.out.mono ?_
  rintro e w1 ⟨rfl, hb⟩
  have HB1 := Lib.hid hb
  clear hb
  go_wp2_with fail
  refine (HKL.out w1).mono ?_
  rintro e w2 ⟨rfl, hb⟩
  have HB2 := Lib.hid (HB1.out.trans (hb.mono HB1.out.size))
  clear hb
  go_wp2_with fail
  refine (HKA.out w2).mono ?_
  rintro e w3 ⟨rfl, hb⟩
  have HB3 := Lib.hid (HB2.out.trans (hb.mono HB2.out.size))
  clear hb
  go_wp2_with fail
  refine (HKB.out w3).mono ?_
  rintro e w4 ⟨rfl, hb⟩
  have HB4 := Lib.hid (HB3.out.trans (hb.mono HB3.out.size))
  clear hb
  go_wp2_with fail
  refine (HKR.out w4).mono ?_
  rintro e w5 ⟨rfl, hb⟩
  have HB5 := Lib.hid (HB4.out.trans (hb.mono HB4.out.size))
  clear hb
  go_wp2_with fail
  refine (HKV.out w5).mono ?_
  rintro e w6 ⟨rfl, hb⟩
  have HB6 := Lib.hid (HB5.out.trans (hb.mono HB5.out.size))
  clear hb
  go_wp2_with fail
  refine (HKC.out w6 (HM.out.below HB6.out)).mono ?_
  rintro e w7 ⟨rfl, hb⟩
  have HB7 := Lib.hid (HB6.out.trans (hb.mono HB6.out.size))
  clear hb
  go_wp2_with fail
  refine (HKF.out w7 (HM.out.below HB7.out)).mono ?_
  rintro e w8 ⟨rfl, hb⟩
  have HB8 := Lib.hid (HB7.out.trans (hb.mono HB7.out.size))
  clear hb
  go_wp2_with fail
  refine (HKG.out w8 (HM.out.below HB8.out)).mono ?_
  rintro e w9 ⟨rfl, hb⟩
  have HB9 := Lib.hid (HB8.out.trans (hb.mono HB8.out.size))
  clear hb
  go_wp2_with fail
  refine (HKH.out w9 (HM.out.below HB9.out)).mono ?_
  rintro e w10 ⟨rfl, hb⟩
  have HB10 := Lib.hid (HB9.out.trans (hb.mono HB9.out.size))
  clear hb
  go_wp2_with fail
  refine (HKI.out w10 (HM.out.below HB10.out)).mono ?_
  rintro e w11 ⟨rfl, hb⟩
  have HB11 := Lib.hid (HB10.out.trans (hb.mono HB10.out.size))
  clear hb
  go_wp2
  go_ret
  exact ⟨rfl, HB11.out⟩
theorem tagBuilt_walk (a0 a1 a2 a3 : Int) (a4 a5 a6 : Bool) (w : World) (hM : ML w) (h0 : 0 ≤ a0 ∧ a0 < 256) (h1 : 0 ≤ a1 ∧ a1 < 256) (h2 : 0 ≤ a2 ∧ a2 < 256) (h3 : 0 ≤ a3 ∧ a3 < 256) :
    Calls Tryd.prog 10 #[.int .u8 a0, .int .u8 a1, .int .u8 a2, .int .u8 a3, .bool a4, .bool a5, .bool a6] w fun e w' => e = .returned (.bool true) ∧ Below w.heap.size w w' := by
  cases a4 <;> cases a5 <;> cases a6
  · exact built_000 a0 a1 a2 a3 w hM h0 h1 h2 h3
  · exact built_001 a0 a1 a2 a3 w hM h0 h1 h2 h3
  · exact built_010 a0 a1 a2 a3 w hM h0 h1 h2 h3
  · exact built_011 a0 a1 a2 a3 w hM h0 h1 h2 h3
  · exact built_100 a0 a1 a2 a3 w hM h0 h1 h2 h3
  · exact built_101 a0 a1 a2 a3 w hM h0 h1 h2 h3
  · exact built_110 a0 a1 a2 a3 w hM h0 h1 h2 h3
  · exact built_111 a0 a1 a2 a3 w hM h0 h1 h2 h3
end Go.Proofs.YtaccjifhgohfpaaDoor

