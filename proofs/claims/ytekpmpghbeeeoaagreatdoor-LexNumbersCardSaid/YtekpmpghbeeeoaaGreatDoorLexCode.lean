import Derived.Test.YtekpmpghbeeeoaaGreatDoorLexKnown
/- hornbookref6.Code and Quote. -/
namespace Go.Proofs.YtekpmpghbeeeoaaGreatDoor
open Go.RowKit Go.Shelf Go.Proofs.YtekpmpghbeeeoaaGreatDoorW.PrintWords Go.Proofs.YtekpmpghbeeeoaaGreatDoorW.PrintMore

theorem digU_sub : ∀ k ∈ List.range 16, (ByteArray.extract { data := #[48, 49, 50, 51, 52, 53, 54, 55, 56, 57, 65, 66, 67, 68, 69, 70] } k (k + 1)).data = #[dgU k] := by decide +kernel
theorem digU_run {q : Nat} (h : q < 16) (W : World) : (Instr.slice 9 (.string { data := #[48, 49, 50, 51, 52, 53, 54, 55, 56, 57, 65, 66, 67, 68, 69, 70] }) (some (.int .i32 (q : Int))) (some (.int .i32 ((q : Int) + 1))) none).run Tryz.prog W = .ok (.string (S [dgU q])) W := by
  obtain ⟨D, hD⟩ : ∃ D : ByteArray, D = { data := #[48, 49, 50, 51, 52, 53, 54, 55, 56, 57, 65, 66, 67, 68, 69, 70] } := ⟨_, rfl⟩
  have hz : D.size = 16 := by rw [hD]; rfl
  have he : D.extract q (q + 1) = S [dgU q] := by
    rw [hD]
    exact ByteArray.ext (digU_sub q (List.mem_range.2 h))
  rw [← hD]
  clear hD
  have h1 : (q : Int) ≤ (q : Int) + 1 := by omega
  have h2 : (q : Int) + 1 ≤ (D.size : Int) := by omega
  have h3 : (((q : Int) + 1).toNat) = q + 1 := by omega
  go_simp
  intro hh
  have := hh (by omega)
  omega
set_option maxRecDepth 100000 in
set_option maxHeartbeats 4000000 in
theorem ref_code (n : Nat) (hn : n < 16777216) (W : World) :
    Calls Tryz.prog 16 #[.int .i32 (n : Int)] W fun e w' => e = .returned (.string (S (codeL n))) ∧ W = w' := by
  have c5 : S [39, 92, 117, 123] = { data := #[39, 92, 117, 123] } := rfl
  have c4 : S [125] = { data := #[125] } := rfl
  have HR : Hid (S (codeL n) = S ([39, 92, 117, 123] ++ (hexF 8 n ++ [125]))) := Lib.hid rfl
  have HDG := Lib.hid (fun q (h : q < 16) W => digU_run h W)
  obtain ⟨sr, hsr⟩ : ∃ s, S (codeL n) = s := ⟨_, rfl⟩
  rw [hsr] at HR ⊢
  have HC4 := Lib.hid c4
  have HC5 := Lib.hid c5
  clear c4 c5 hsr
  go_enter Tryz.func16, Tryz.ntmps16
  go_wp2_with fail
  go_loopw [0, 4] (fun rv sv wr => ∃ (f v : Nat) (bs : List UInt8), rv = .int .i32 (v : Int) ∧ sv = .string (S bs) ∧ v < 16777216 ∧ Hid (0 < f) ∧ Hid (v < 16 ^ f) ∧ Hid (hexF 8 n = hexF f v ++ bs) ∧ Hid (bs.length + f ≤ 8) ∧ Hid (wr = W)) (fun rv _ _ => (intOf rv).toNat)
  case atStart => exact ⟨8, n, [], rfl, rfl, hn, Lib.hid (by decide), Lib.hid (Nat.lt_trans hn (by decide)), Lib.hid (by rw [List.append_nil]), Lib.hid (by decide), Lib.hid rfl⟩
  case round =>
    obtain ⟨f, v, bs, rfl, rfl, hv, HF, HV, HE, HL, HWR⟩ := hrel
    have hwr := HWR.out
    subst hwr
    obtain ⟨q, hq⟩ : ∃ q, v % 16 = q := ⟨_, rfl⟩
    have hqi : (v : Int) % 16 = (q : Int) := by omega
    have hq16 : q < 16 := by omega
    have hsl := HDG.out q hq16
    obtain ⟨a1, a2⟩ := add_str [dgU q] bs (by simp) (by have := HL.out; omega)
    rw [List.singleton_append] at a1
    by_cases h16 : v < 16
    · have hvq : v = q := by omega
      have HFin : Hid (hexF 8 n = dgU q :: bs) := Lib.hid (by
        rw [HE.out]
        obtain ⟨g, hg⟩ : ∃ g, f = g + 1 := ⟨f - 1, by have := HF.out; omega⟩
        rw [hg, hexF, if_pos h16, hvq]
        rfl)
      have hz : (v : Int) / 16 = 0 := by omega
      obtain ⟨b1, b2⟩ := add_str [39, 92, 117, 123] (dgU q :: bs) (by simp) (by have := HL.out; simp; omega)
      obtain ⟨b3, b4⟩ := add_str ([39, 92, 117, 123] ++ dgU q :: bs) [125] (by have := HL.out; simp; omega) (by simp)
      rw [HC5.out] at b1 b2
      rw [HC4.out] at b3 b4
      have HSR : Hid (sr = S (([39, 92, 117, 123] ++ dgU q :: bs) ++ [125])) := Lib.hid (by rw [HR.out, HFin.out, List.append_assoc])
      clear hq hvq
      generalize S (([39, 92, 117, 123] ++ dgU q :: bs) ++ [125]) = s3 at *
      generalize S ([39, 92, 117, 123] ++ dgU q :: bs) = s2 at *
      generalize S (dgU q :: bs) = s1 at *
      generalize S bs = s0 at *
      go_wp2_with fail
      go_ret
      exact ⟨by rw [HSR.out]; rfl, rfl⟩
    · have HV2 : Hid (v / 16 < 16 ^ (f - 1)) := Lib.hid (by
        have h1 := HV.out
        obtain ⟨g, hg⟩ : ∃ g, f = g + 1 := ⟨f - 1, by have := HF.out; omega⟩
        rw [hg, Nat.pow_succ] at h1
        rw [hg, Nat.add_sub_cancel]
        omega)
      have HF2 : Hid (0 < f - 1) := Lib.hid (by
        have h1 := HV2.out
        rcases Nat.eq_zero_or_pos (f - 1) with h | h
        · rw [h] at h1; simp at h1; omega
        · exact h)
      have HE2 : Hid (hexF 8 n = hexF (f - 1) (v / 16) ++ dgU q :: bs) := Lib.hid (by
        rw [HE.out]
        obtain ⟨g, hg⟩ : ∃ g, f = g + 1 := ⟨f - 1, by have := HF.out; omega⟩
        rw [hg, hexF, if_neg h16, hq, Nat.add_sub_cancel, List.append_assoc]
        rfl)
      have HL2 : Hid ((dgU q :: bs).length + (f - 1) ≤ 8) := Lib.hid (by have := HL.out; have := HF.out; rw [List.length_cons]; omega)
      have hnz : ¬ (v : Int) / 16 = 0 := by omega
      have hv2 : ((v / 16 : Nat) : Int) = (v : Int) / 16 := by omega
      clear hq
      go_wp2_with fail
      go_round
      case rel => exact ⟨f - 1, v / 16, dgU q :: bs, by rw [hv2], rfl, by omega, HF2, HV2, HE2, HL2, Lib.hid (by first | rfl | trivial)⟩
      case measure => simp [intOf]; omega
end Go.Proofs.YtekpmpghbeeeoaaGreatDoor
