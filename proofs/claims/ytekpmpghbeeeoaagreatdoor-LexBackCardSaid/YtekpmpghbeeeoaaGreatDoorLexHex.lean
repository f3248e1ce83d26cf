import Derived.Test.YtekpmpghbeeeoaaGreatDoorLexWord
import Derived.Test.YtekpmpghbeeeoaaGreatDoorLexPrint
import Derived.Lib.Strings
import Derived.Lib.UnsafeStr
import Derived.Laws.Strings3
/- strconv.ParseUint of one to six hexadecimal digits. -/
namespace Go.Proofs.YtekpmpghbeeeoaaGreatDoor
open Go.RowKit Go.Shelf Go.Proofs.YtekpmpghbeeeoaaGreatDoorW.PrintWords Go.Proofs.YtekpmpghbeeeoaaGreatDoorW.PrintMore

theorem lower_is (c : Int) (w : World) : Calls Tryz.prog 110 #[.int .u8 c] w fun e w' => e = .returned (.int .u8 (bits .or .u8 c 32)) ∧ w' = w := by
  go_enter Tryz.func110, Tryz.ntmps110
  go_wp2
  go_ret
  exact ⟨rfl, rfl⟩
theorem bytesWorld_below' (w : World) (e : TypeId) (s : ByteArray) : Below w.heap.size w (Lib.bytesWorld w e s) := by
  unfold Lib.bytesWorld
  exact Lib.below_freeze ((Below.drew (Below.refl _ w)).alloc (Nat.le_refl _) _) (p := ⟨w.heap.size, _, none⟩) (Nat.le_refl _) 1
theorem low_facts : ∀ k ∈ List.range 103, (97 ≤ k ∨ (65 ≤ k ∧ k ≤ 70)) → bits .or .u8 (k : Int) 32 = (if k ≤ 70 then (k : Int) + 32 else (k : Int)) := by decide +kernel
theorem hexN_app (l : List UInt8) (b : UInt8) : hexN (l ++ [b]) = hexN l * 16 + hexv b := by simp [hexN]
theorem hexv_lt {b : UInt8} (h : hexd b = true) : hexv b < 16 := by
  unfold hexd dgt at h
  unfold hexv
  simp only [Bool.or_eq_true, Bool.and_eq_true, decide_eq_true_eq] at h
  split
  · omega
  · split <;> omega
theorem hexN_take_lt {l : List UInt8} (hx : ∀ b ∈ l, hexd b = true) : ∀ k, k ≤ l.length → hexN (l.take k) < 16 ^ k
  | 0, _ => by simp [hexN]
  | k + 1, h => by
    have ih := hexN_take_lt hx k (by omega)
    have hv := hexv_lt (hx l[k] (List.getElem_mem _))
    rw [List.take_succ_eq_append_getElem (by omega), hexN_app, Nat.pow_succ]
    omega
theorem hexN_take_small {l : List UInt8} (hx : ∀ b ∈ l, hexd b = true) (h6 : l.length ≤ 6) {k : Nat} (hk : k ≤ l.length) : hexN (l.take k) < 16777216 :=
  Nat.lt_of_lt_of_le (hexN_take_lt hx k hk) (Nat.le_trans (Nat.pow_le_pow_right (by decide) (show k ≤ 6 by omega)) (by decide))
set_option maxHeartbeats 32000000 in
set_option maxRecDepth 100000 in
theorem parse_hex_in (l : List UInt8) (h1 : 1 ≤ l.length) (h6 : l.length ≤ 6) (hx : ∀ b ∈ l, hexd b = true) (w : World) :
    Calls Tryz.prog 98 #[.string (S l), .int .i64 16, .int .i64 32] w fun e w' => e = .returned (.tuple #[.int .u64 (hexN l : Int), .nilIface]) ∧ w' = Lib.bytesWorld w 5 (S l) := by
  have hsz := S_size l
  have hemp : (S l).toList.isEmpty = false := by
    rw [← decide_eq_emptyBytes]
    exact decide_eq_false (fun h => by
      have h0 : (S l).size = 0 := by rw [h]; rfl
      omega)
  have hcv := kb l w
  have HB : Hid (∀ j, (h : j < l.length) → (Lib.bytesWorld w 5 (S l)).cell? ⟨w.heap.size, j, none⟩ = some (.int .u8 ((l[j].toNat : Nat) : Int))) := Lib.hid (fun j hj => by
    have := Lib.bytesWorld_cell w 5 (S l) j (by rw [hsz]; exact hj)
    rw [this, S_data, List.getD_eq_getElem?_getD, List.getElem?_eq_getElem hj]
    rfl)
  have HS := Lib.hid (fun k (hk : k ≤ l.length) => hexN_take_small hx h6 hk)
  have HX := Lib.hid hx
  clear hx
  have HLT : Hid (hexN (l.take l.length) = hexN l) := Lib.hid (by rw [List.take_length])
  generalize grownCap w l.length 0 5 = gc at hcv
  obtain ⟨W1, hW1⟩ : ∃ W1, W1 = Lib.bytesWorld w 5 (S l) := ⟨_, rfl⟩
  rw [← hW1] at hcv HB ⊢
  clear hW1
  have HLO := Lib.hid lower_is
  have hmv : IntKind.u64.wrap (IntKind.u64.wrap 4294967296 - 1) = 4294967295 := by
    rw [IntKind.wrap_u64, IntKind.wrap_u64]
    decide
  generalize S l = s at *
  go_enter Tryz.func98, Tryz.ntmps98
  go_wp2
  go_loop [12, 13, 101] (fun vu vn vi => ∃ (k : Nat) (a : Int), vu = .bool false ∧ vn = .int .u64 a ∧ vi = .int .i64 k ∧ k ≤ l.length ∧ Hid (a = (hexN (l.take k) : Int)))
    (fun _ _ vi => l.length - (intOf vi).toNat)
  case atStart => exact ⟨0, 0, rfl, rfl, rfl, by omega, Lib.hid (by simp [hexN])⟩
  case round =>
    obtain ⟨k, a, rfl, rfl, rfl, hk, HA⟩ := hrel
    have a0 : 0 ≤ a := by have := HA.out; omega
    have a1 : a < 16777216 := by have := HA.out; have := HS.out k hk; omega
    by_cases hkn : k < l.length
    · have hc := HB.out k hkn
      have HXK := Lib.hid (HX.out l[k] (List.getElem_mem _))
      have HT : Hid (hexN (l.take (k + 1)) = hexN (l.take k) * 16 + hexv l[k]) := Lib.hid (by rw [List.take_succ_eq_append_getElem hkn, hexN_app])
      have hS2 := HS.out (k + 1) hkn
      obtain ⟨c, hcc⟩ : ∃ c, l[k] = c := ⟨_, rfl⟩
      rw [hcc] at hc HXK HT
      clear hcc
      have hc256 : c.toNat < 256 := c.toNat_lt
      have hh := HXK.out
      unfold hexd dgt at hh
      simp only [Bool.or_eq_true, Bool.and_eq_true, decide_eq_true_eq] at hh
      have hv : hexv c = if c.toNat ≤ 57 then c.toNat - 48 else if c.toNat ≤ 70 then c.toNat - 55 else c.toNat - 87 := rfl
      obtain ⟨m, hm⟩ : ∃ m, c.toNat = m := ⟨_, rfl⟩
      rw [hm] at hc hh hv hc256
      clear hm
      by_cases hdig : m ≤ 57
      · rw [if_pos hdig] at hv
        have hm48 : 48 ≤ m := by omega
        have HN : Hid (a * 16 + ((m : Int) - 48) = (hexN (l.take (k + 1)) : Int)) := Lib.hid (by rw [HT.out, HA.out, hv]; omega)
        have hN2 : a * 16 + ((m : Int) - 48) < 16777216 := by rw [HN.out]; omega
        clear hh hv hS2 HA HT HXK
        go_wp2
        refine ⟨⟨k + 1, a * 16 + ((m : Int) - 48), rfl, (by first | rfl | (congr 1; omega)), (by first | rfl | (congr 1; omega)), by omega, HN⟩, by simp [intOf]; omega⟩
      · have hlo := low_facts m (List.mem_range.2 (by omega)) (by omega)
        obtain ⟨q, hq⟩ : ∃ q : Int, bits .or .u8 (m : Int) 32 = q := ⟨_, rfl⟩
        have hq1 : 97 ≤ q ∧ q ≤ 102 ∧ (hexv c : Int) = q - 97 + 10 := by
          rw [← hq, hlo, hv, if_neg hdig]
          by_cases h70 : m ≤ 70
          · rw [if_pos h70, if_pos h70]; omega
          · rw [if_neg h70, if_neg h70]; omega
        have HN : Hid (a * 16 + (q - 97 + 10) = (hexN (l.take (k + 1)) : Int)) := Lib.hid (by rw [HT.out, HA.out, Int.natCast_add, Int.natCast_mul, hq1.2.2]; rfl)
        have hN2 : a * 16 + (q - 97 + 10) < 16777216 := by rw [HN.out]; omega
        obtain ⟨q1, q2, -⟩ := hq1
        have HLQ : Hid (∀ w, Calls Tryz.prog 110 #[.int .u8 (m : Int)] w fun e w' => e = .returned (.int .u8 q) ∧ w' = w) := Lib.hid (fun w => by rw [← hq]; exact HLO.out _ w)
        have hm95 : ¬ m = 95 := by omega
        clear hh hv hS2 HA HT HXK hlo hq
        go_wp2_with fail
        refine (HLQ.out _).mono ?_
        rintro e w' ⟨he, rfl⟩
        subst he
        go_wp2_with fail
        refine (HLQ.out _).mono ?_
        rintro e w' ⟨he, rfl⟩
        subst he
        go_wp2_with fail
        refine (HLQ.out _).mono ?_
        rintro e w' ⟨he, rfl⟩
        subst he
        go_wp2
        refine ⟨⟨k + 1, a * 16 + (q - 97 + 10), rfl, (by first | rfl | (congr 1; omega)), (by first | rfl | (congr 1; omega)), by omega, HN⟩, by simp [intOf]; omega⟩
    · obtain rfl : k = l.length := by omega
      have HF : Hid (a = (hexN l : Int)) := Lib.hid (by rw [HA.out, HLT.out])
      clear HA
      go_wp2
      go_ret2
      exact ⟨by rw [HF.out]; rfl, rfl⟩
theorem parse_hex (l : List UInt8) (h1 : 1 ≤ l.length) (h6 : l.length ≤ 6) (hx : ∀ b ∈ l, hexd b = true) (w : World) :
    Calls Tryz.prog 82 #[.string (S l), .int .i64 16, .int .i64 32] w fun e w' => e = .returned (.tuple #[.int .u64 (hexN l : Int), .nilIface]) ∧ Below w.heap.size w w' := by
  have HP := Lib.hid (parse_hex_in l h1 h6 hx w)
  have HBW := Lib.hid (bytesWorld_below' w 5 (S l))
  generalize S l = s at *
  clear hx
  go_enter Tryz.func82, Tryz.ntmps82
  go_wp2_with fail
  refine HP.out.mono ?_
  rintro e w1 ⟨he, rfl⟩
  subst he
  go_wp2
  go_ret2
  exact ⟨rfl, HBW.out⟩
end Go.Proofs.YtekpmpghbeeeoaaGreatDoor
