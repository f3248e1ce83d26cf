import Derived.Test.YtaccjifhgohfpaaDoorTagPlain
/- The law's known. -/
namespace Go.Proofs.YtaccjifhgohfpaaDoor
open Go.RowKit Go.Shelf Go.Proofs.YtaccjifhgohfpaaDoorW.PrintWords Go.Proofs.YtaccjifhgohfpaaDoorW.PrintMore

theorem canon_yes {l c : List UInt8} (h : canonL l = some c) (w : World) (hM : ML w) : Calls Tryd.prog 22 #[.string (S l)] w fun e w' => e = .returned (.tuple #[.string (S c), .int .i64 0]) ∧ Below w.heap.size w w' := by
  have := tag_canon l w hM
  rw [h] at this
  exact this
theorem canon_no {l : List UInt8} (h : canonL l = none) (w : World) (hM : ML w) : Calls Tryd.prog 22 #[.string (S l)] w fun e w' => e = .returned (.tuple #[.string (S []), .int .i64 100]) ∧ Below w.heap.size w w' := by
  have := tag_canon l w hM
  rw [h] at this
  exact this
theorem parent_to {l c : List UInt8} (h : parentL l = c) (hl : l.length ≤ 140737488351232) (w : World) (hM : ML w) : Calls Tryd.prog 26 #[.string (S l)] w fun e w' => e = .returned (.string (S c)) ∧ Below w.heap.size w w' := h ▸ tag_parent l hl w hM
theorem parts_len {l : List UInt8} {n : Nat} (h : (partsL l).length = n) (w : World) (hM : ML w) : Calls Tryd.prog 28 #[.string (S l)] w fun e w' => ∃ A cap, e = .returned (.slice A n cap) ∧ Below w.heap.size w w' := by
  refine (tag_parts l w hM).mono ?_
  rintro e w' ⟨v, rfl, ⟨A, cap, rfl, _, _⟩, hb⟩
  exact ⟨A, cap, by rw [h], hb⟩
theorem S_nil : (S []).toList = [] := by first | rfl | decide +kernel

set_option maxHeartbeats 1000000 in
theorem law9_known (w : World) (hM : ML w) : Calls Tryd.prog 21 #[] w fun e w' => e = .returned (.bool true) ∧ Below w.heap.size w w' := by
  have HM := Lib.hid hM
  have K1 := Lib.hid (fun W h => canon_yes (l := [69, 78, 95, 108, 97, 116, 110, 45, 117, 115]) (c := [101, 110, 45, 76, 97, 116, 110, 45, 85, 83]) (by decide +kernel) W h)
  have K2 := Lib.hid (fun W h => canon_no (l := [101]) (by decide +kernel) W h)
  have K3 := Lib.hid (fun W h => parent_to (l := [101, 110, 45, 76, 97, 116, 110, 45, 85, 83]) (c := [101, 110, 45, 76, 97, 116, 110]) (by decide +kernel) (by decide) W h)
  have K4 := Lib.hid (fun W h => parent_to (l := [101, 110]) (c := [114, 111, 111, 116]) (by decide +kernel) (by decide) W h)
  have K5 := Lib.hid (fun W h => parent_to (l := [114, 111, 111, 116]) (c := []) (by decide +kernel) (by decide) W h)
  have K6 := Lib.hid (fun W h => parts_len (l := [101, 110, 45, 76, 97, 116, 110, 45, 85, 83]) (n := 3) (by decide +kernel) W h)
  have q1 : ((S [101, 110, 45, 76, 97, 116, 110, 45, 85, 83]).toList == [101, 110, 45, 76, 97, 116, 110, 45, 85, 83]) = true := by decide +kernel
  have q2 : ((S [101, 110, 45, 76, 97, 116, 110]).toList == [101, 110, 45, 76, 97, 116, 110]) = true := by decide +kernel
  have q3 : ((S [114, 111, 111, 116]).toList == [114, 111, 111, 116]) = true := by decide +kernel
  have q4 := S_nil
  clear hM
  go_enter Tryd.func21, Tryd.ntmps21
  go_wp2_with fail
  refine (K1.out w HM.out).mono ?_
  rintro e w1 ⟨rfl, hb⟩
  have HB1 := Lib.hid hb
  clear hb
  go_wp2_with fail
  refine (K2.out w1 (HM.out.below HB1.out)).mono ?_
  rintro e w2 ⟨rfl, hb⟩
  have HB2 := Lib.hid (HB1.out.trans (hb.mono HB1.out.size))
  clear hb
  go_wp2_with fail
  refine (K3.out w2 (HM.out.below HB2.out)).mono ?_
  rintro e w3 ⟨rfl, hb⟩
  have HB3 := Lib.hid (HB2.out.trans (hb.mono HB2.out.size))
  clear hb
  go_wp2_with fail
  refine (K4.out w3 (HM.out.below HB3.out)).mono ?_
  rintro e w4 ⟨rfl, hb⟩
  have HB4 := Lib.hid (HB3.out.trans (hb.mono HB3.out.size))
  clear hb
  go_wp2_with fail
  refine (K5.out w4 (HM.out.below HB4.out)).mono ?_
  rintro e w5 ⟨rfl, hb⟩
  have HB5 := Lib.hid (HB4.out.trans (hb.mono HB4.out.size))
  clear hb
  go_wp2_with fail
  refine (K6.out w5 (HM.out.below HB5.out)).mono ?_
  rintro e w6 ⟨A, cap, rfl, hb⟩
  have HB6 := Lib.hid (HB5.out.trans (hb.mono HB5.out.size))
  clear hb
  go_wp2
  go_ret
  exact ⟨rfl, HB6.out⟩
end Go.Proofs.YtaccjifhgohfpaaDoor
