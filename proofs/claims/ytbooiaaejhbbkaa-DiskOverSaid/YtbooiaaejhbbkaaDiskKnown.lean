import Derived.Test.YtbooiaaejhbbkaaDiskPlain
/- hornbooklaw20: known. -/
namespace Go.Proofs.Ytbooiaaejhbbkaa
open Go.RowKit Go.Maps Go.Proofs.YtbooiaaejhbbkaaW.PrintWords Go.Proofs.YtbooiaaejhbbkaaW.PrintMore

def kd1 : Int × DS := (newD 100).create [97]
def kd2 : Int × DS := kd1.2.append [97] [120, 121]
def kd3 : Int × DS := kd2.2.append [98] []
def kd4 : DS := kd3.2.crash []
theorem kd_facts : kd1.1 = 0 ∧ kd2.1 = 0 ∧ kd3.1 = 200 ∧ kd3.2.usedOut = 2 ∧ kd3.2.steps = 3 ∧ kd4.list = [] ∧ (kd4.create [97, 47, 98]).1 = 200 := by decide +kernel
theorem kd_steps : kd1.2.steps = 1 ∧ kd2.2.steps = 2 ∧ kd4.steps = 3 := by decide +kernel
theorem kd_quota : kd1.2.quota = 100 ∧ kd2.2.quota = 100 := by decide +kernel

set_option maxHeartbeats 1000000 in
theorem law20_known (w : World) : Calls Try.prog 11 #[] w fun e w' => e = .returned (.bool true) ∧ Below w.heap.size w w' := by
  obtain ⟨f1, f2, f3, f4, f5, f6, f7⟩ := kd_facts
  obtain ⟨s1, s2, s4⟩ := kd_steps
  obtain ⟨q1, q2⟩ := kd_quota
  have kc := conv_const
  have K0 := Lib.hid (k_new w 100)
  go_enter Try.func11, Try.ntmps11
  go_wp2_with fail
  refine K0.out.mono ?_
  rintro e w1 ⟨p, G0, rfl, hp, hk⟩
  have HK := Lib.hid hk
  clear hk K0
  have KC := Lib.hid (k_create HK.out (by show (0 : Int) < 1000000000; omega) [97] (by decide))
  go_wp2_with fail
  refine KC.out.mono ?_
  rintro e w2 ⟨he, G1, hk, -⟩
  obtain rfl := he.trans (congrArg (fun z => Ending.returned (.int .i64 z)) f1)
  have HK1 : Hid (Dk w.heap.size p w G1 kd1.2 w2) := Lib.hid hk
  clear hk KC HK he
  have hB := (Below.refl w2.heap.size w2).alloc (Nat.le_refl _) (.cells (nums .u8 [120, 121]).toArray 5 (2, 3))
  have KA := Lib.hid (k_append (HK1.out.below hB) (by rw [s1]; omega) [97] (by decide) [120, 121] (by decide) _ (rd_lit w2 [120, 121] (2, 3) (by decide)) (Far.new HK1.out.at_) (by rw [q1]; omega))
  clear hB
  go_wp2_with fail
  refine KA.out.mono ?_
  rintro e w3 ⟨he, G2, hk, -⟩
  obtain rfl := he.trans (congrArg (fun z => Ending.returned (.int .i64 z)) f2)
  have HK2 : Hid (Dk w.heap.size p w G2 kd2.2 w3) := Lib.hid hk
  clear hk KA HK1 he
  have KA := Lib.hid (k_append HK2.out (by rw [s2]; omega) [98] (by decide) [] (by decide) (.slice none 0 0) ⟨none, 0, rfl, Nat.le_refl _, rfl, by simp, fun h => absurd h (by simp)⟩ (Far.nil _) (by rw [q2]; omega))
  go_wp2_with fail
  refine KA.out.mono ?_
  rintro e w4 ⟨he, G3, hk, -⟩
  obtain rfl := he.trans (congrArg (fun z => Ending.returned (.int .i64 z)) f3)
  have HK3 : Hid (Dk w.heap.size p w G3 kd3.2 w4) := Lib.hid hk
  clear hk KA HK2 he
  have KU := Lib.hid (k_used HK3.out)
  rw [f4] at KU
  go_wp2_with fail
  refine KU.out.mono ?_
  rintro e w5 ⟨rfl, hk, -⟩
  have HK4 := Lib.hid hk
  clear hk KU HK3
  have KS := Lib.hid (k_steps HK4.out)
  rw [f5] at KS
  go_wp2_with fail
  refine KS.out.mono ?_
  rintro e w6 ⟨rfl, rfl⟩
  have KR := Lib.hid (k_crash HK4.out (.slice none 0 0) [] ⟨none, 0, rfl, Nat.le_refl _, rfl, by simp, fun h => absurd h (by simp)⟩ (by decide) (Far.nil _))
  clear KS
  go_wp2_with fail
  refine KR.out.mono ?_
  rintro e w7 ⟨⟨u, rfl⟩, G4, hk, -⟩
  have HK5 : Hid (Dk w.heap.size p w G4 kd4 w7) := Lib.hid hk
  clear hk KR HK4
  have KL := Lib.hid (k_list HK5.out)
  rw [f6] at KL
  go_wp2_with fail
  refine KL.out.mono ?_
  rintro e w8 ⟨v8, rfl, ho, hk, -⟩
  obtain ⟨A8, c8, rfl, -⟩ := own_shape ho
  have HK6 := Lib.hid hk
  clear hk KL HK5 ho
  have KC := Lib.hid (k_create HK6.out (by rw [s4]; omega) [97, 47, 98] (by decide))
  rw [f7] at KC
  go_wp2_with fail
  refine KC.out.mono ?_
  rintro e w9 ⟨rfl, G5, hk, -⟩
  have HB := Lib.hid hk.bel
  clear hk KC HK6
  go_wp2_with fail
  go_ret
  exact ⟨rfl, HB.out⟩
end Go.Proofs.Ytbooiaaejhbbkaa
