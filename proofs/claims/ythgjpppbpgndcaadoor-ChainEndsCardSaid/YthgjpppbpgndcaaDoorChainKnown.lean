import Derived.Test.YthgjpppbpgndcaaDoorChainUnder
/- hornbooklaw11: known, texts. -/
namespace Go.Proofs.YthgjpppbpgndcaaDoor
open Go.RowKit Go.Maps Go.Shelf Go.Proofs.YthgjpppbpgndcaaDoorW.PrintWords Go.Proofs.YthgjpppbpgndcaaDoorW.PrintMore
variable {B p : Nat} {w0 w w' : World} {F : FM}

def ke : Nm := [101, 110, 45, 71, 66]
def kf1 : Int × FM := setF [] ke []
def kf2 : Int × FM := setF kf1.2 rootL []
def kf3 : Int × FM := setF kf2.2 [120] []
def kf4 : Int × FM := setF kf3.2 rootL ke
theorem kf_facts : kf1.1 = 0 ∧ kf2.1 = 0 ∧ kf3.1 = 100 ∧ chainF kf3.2 ke = ([ke, rootL], 0) ∧ (chainF kf4.2 ke).2 = 111 ∧ checkF kf4.2 = (ke, 111) ∧ (dropF kf4.2 [100, 101]).1 = 240 := by decide +kernel
theorem kf_len : kf1.2.length < 100000 ∧ kf2.2.length < 100000 ∧ kf3.2.length < 100000 := by decide +kernel
theorem set_to (h : Ft B p w0 F w) (t q : Nm) (hn : F.length < 100000) (hl : t.length ≤ 100000 ∧ q.length ≤ 100000) {r : Int × FM} (hr : setF F t q = r) {e0 : Int} (he : r.1 = e0) :
    Calls Tryd.prog 9 #[pv p, .string (S t), .string (S q)] w fun e w' => e = .returned (.int .i64 e0) ∧ Ft B p w0 r.2 w' ∧ CellsKept w w' := by
  subst hr
  subst he
  exact chain_set h t q (by omega) (by omega) hn
theorem chain_to (h : Ft B p w0 F w) (t : Nm) (ht : t.length ≤ 1000000) {l : List Nm} {er : Int} (hr : chainF F t = (l, er)) :
    Calls Tryd.prog 13 #[pv p, .string (S t)] w fun e w' => ∃ A c, e = .returned (.tuple #[.slice A l.length c, .int .i64 er]) ∧ OwnS w' w.heap.size (.slice A l.length c) l ∧ Below w.heap.size w w' := by
  refine (chain_chain h t ht).mono ?_
  rintro e w' ⟨v, rfl, ho, hb⟩
  rw [hr] at ho ⊢
  obtain ⟨A, c, rfl, -⟩ := ho.sl
  exact ⟨A, c, rfl, ho, hb⟩
theorem drop_to (h : Ft B p w0 F w) (t : Nm) (hl : t.length ≤ 100000) {r : Int × FM} (hr : dropF F t = r) {e0 : Int} (he : r.1 = e0) :
    Calls Tryd.prog 11 #[pv p, .string (S t)] w fun e w' => e = .returned (.int .i64 e0) ∧ Ft B p w0 r.2 w' ∧ CellsKept w w' := by
  subst hr
  subst he
  exact chain_drop h t (by omega)
theorem check_to (h : Ft B p w0 F w) {t : Nm} {er : Int} (hr : checkF F = (t, er)) :
    Calls Tryd.prog 10 #[pv p] w fun e w' => e = .returned (.tuple #[.string (S t), .int .i64 er]) ∧ Below w.heap.size w w' := by
  have := chain_check h
  rwa [hr] at this
set_option maxRecDepth 100000 in
set_option maxHeartbeats 4000000 in
theorem law11_known (w : World) (hM : ML w) : Calls Tryd.prog 7 #[] w fun e w' => e = .returned (.bool true) ∧ Below w.heap.size w w' := by
  obtain ⟨f1, f2, f3, f4, f5, f6, f7⟩ := kf_facts
  obtain ⟨l1, l2, l3⟩ := kf_len
  have q1 : ((S ke).toList == [101, 110, 45, 71, 66]) = true := by decide +kernel
  have q2 : ((S rootL).toList == [114, 111, 111, 116]) = true := by decide +kernel
  have K0 := Lib.hid (chain_new w hM)
  clear hM
  have F1 := Lib.hid f1
  have F2 := Lib.hid f2
  have F3 := Lib.hid f3
  have F4 := Lib.hid f4
  have F5 := Lib.hid f5
  have F6 := Lib.hid f6
  have F7 := Lib.hid f7
  have L1 := Lib.hid l1
  have L2 := Lib.hid l2
  have L3 := Lib.hid l3
  clear f1 f2 f3 f4 f5 f6 f7 l1 l2 l3
  go_enter Tryd.func7, Tryd.ntmps7
  go_wp2_with fail
  refine K0.out.mono ?_
  rintro e w1 ⟨p, rfl, hf⟩
  have HF0 := Lib.hid hf
  have KC := Lib.hid (set_to HF0.out [101, 110, 45, 71, 66] [] (by decide) (by decide) (r := kf1) rfl F1.out)
  clear hf K0
  go_wp2_with fail
  refine KC.out.mono ?_
  rintro e w2 ⟨rfl, hf, -⟩
  have HF1 := Lib.hid hf
  have KC := Lib.hid (set_to HF1.out [114, 111, 111, 116] [] L1.out (by decide) (r := kf2) rfl F2.out)
  clear hf
  go_wp2_with fail
  refine KC.out.mono ?_
  rintro e w3 ⟨rfl, hf, -⟩
  have HF2 := Lib.hid hf
  have KC := Lib.hid (set_to HF2.out [120] [] L2.out (by decide) (r := kf3) rfl F3.out)
  clear hf
  go_wp2_with fail
  refine KC.out.mono ?_
  rintro e w4 ⟨rfl, hf, -⟩
  have HF3 := Lib.hid hf
  have KC := Lib.hid (chain_to HF3.out [101, 110, 45, 71, 66] (by decide) F4.out)
  clear hf
  go_wp2_with fail
  refine KC.out.mono ?_
  rintro e w5 ⟨A, c, rfl, ho, hb⟩
  have HO := Lib.hid ho
  have HF4 := Lib.hid (HF3.out.below hb)
  have KC := Lib.hid (set_to HF4.out [114, 111, 111, 116] [101, 110, 45, 71, 66] L3.out (by decide) (r := kf4) rfl (e0 := 0) (by decide +kernel))
  clear ho hb
  go_wp2_with fail
  refine KC.out.mono ?_
  rintro e w6 ⟨rfl, hf, hk⟩
  have HF6 := Lib.hid hf
  have HO6 : Hid (OwnS w6 w4.heap.size (.slice A 2 c) [ke, rootL]) := Lib.hid (hk.row HO.out)
  have KC := Lib.hid (chain_to HF6.out [101, 110, 45, 71, 66] (by decide) (l := (chainF kf4.2 ke).1) (er := 111) (by rw [← F5.out]; rfl))
  clear hf hk HO
  go_wp2_with fail
  refine KC.out.mono ?_
  rintro e w7 ⟨A7, c7, rfl, -, hb⟩
  have HF7 := Lib.hid (HF6.out.below hb)
  have HO7 := Lib.hid (HO6.out.below hb)
  have KC := Lib.hid (check_to HF7.out F6.out)
  clear hb HO6
  go_wp2_with fail
  refine KC.out.mono ?_
  rintro e w8 ⟨rfl, hb⟩
  have HF8 := Lib.hid (HF7.out.below hb)
  have HO8 := Lib.hid (HO7.out.below hb)
  have KC := Lib.hid (drop_to HF8.out [100, 101] (by decide) rfl F7.out)
  obtain ⟨g, rfl, hx, hcell⟩ := OwnS.at_ HO8.out (i := 1) (by decide)
  have hc : w8.cell? ⟨g, 1, none⟩ = some (.string (S rootL)) := hcell _ (Below.refl _ _)
  replace hx : ∀ W, (Instr.indexAt 33 (.slice (some ⟨g, 0, none⟩) 2 c) (.int .i64 1)).run Tryd.prog W = .ok (.pointer (some ⟨g, 1, none⟩)) W := hx
  clear hb HO7 hcell
  go_wp2_with fail
  refine KC.out.mono ?_
  rintro e w9 ⟨rfl, hf, -⟩
  have HB9 := Lib.hid hf.bel
  clear hf
  go_wp2_with fail
  go_ret
  exact ⟨rfl, HB9.out⟩
end Go.Proofs.YthgjpppbpgndcaaDoor
