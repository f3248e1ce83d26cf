import Derived.Test.YteebojnabifccaaCrcRef
/- The contracts of the document's numbers and texts that are read. -/
namespace Go.Proofs.Yteebojnabifccaa
open Go.RowKit Go.Proofs.YteebojnabifccaaW.PrintWords Go.Proofs.YteebojnabifccaaW.PrintMore

def getOk (xs : List Int) (k : Int) : Bool := decide (crcW k ≤ (xs.length : Int))
def RGetP (xs : List Int) (k : Int) (w : World) (e : Ending) (w' : World) : Prop :=
  ∃ u, e = .returned (.tuple #[.int .u64 (getN xs k).1, u, .bool (getOk xs k)]) ∧ RdB w' u (getN xs k).2.1 ∧ Below w.heap.size w w'

def RGetT (v : Value) (xs : List Int) (k : Int) (w : World) (e : Ending) (w' : World) : Prop :=
  ∃ u, e = .returned (.tuple #[.int .u64 (getN xs k).1, u, .bool (getOk xs k)]) ∧ RdB w' u (getN xs k).2.1 ∧ Below w.heap.size w w' ∧ Tr v xs u (getN xs k).2.1

set_option maxHeartbeats 400000 in
theorem ref_getT (v : Value) (xs : List Int) (k : Int) (w : World) (hr : RdB w v xs) (hby : By xs) :
    Calls Try.prog 16 #[v, .int .i64 k] w (RGetT v xs k w) := by
  have hbd := crcW_bd k
  have hr0 := hr
  obtain ⟨A, c, rfl, hcap, hread⟩ := hr
  have hml := hread.2.1
  have Hr := Lib.hid hread
  clear hread
  obtain ⟨r, hr⟩ : ∃ r, (if 8 < k then 8 else k) = r := ⟨_, rfl⟩
  have hq : (if 0 < r then r else 0) = crcW k := by rw [← hr]; unfold crcW; repeat' split
                                                    all_goals omega
  have hmn := fun ats ty => min_is (k := .i64) (k' := .i64) hr ats ty
  have hmx := fun ats ty => max_is (k := .i64) (k' := .i64) hq ats ty
  clear hr hq
  by_cases hlt : (xs.length : Int) < crcW k
  · have hg : getN xs k = (0, xs, 10) := if_pos hlt
    have hg2 : getOk xs k = false := by unfold getOk; simp; omega
    unfold RGetT
    rw [hg, hg2]
    clear hg hg2
    go_enter Try.func16, Try.ntmps16
    go_wp2
    go_ret3
    exact ⟨_, rfl, hr0, Below.refl _ _, fun _ h => h⟩
  · have hg : getN xs k = (val (xs.take (crcW k).toNat), xs.drop (crcW k).toNat, 0) := if_neg hlt
    have hg2 : getOk xs k = true := by unfold getOk; simp; omega
    unfold RGetT
    rw [hg, hg2]
    clear hg hg2
    obtain ⟨m, hm⟩ := Int.eq_ofNat_of_zero_le hbd.1
    generalize crcW k = q at hbd hlt hm hmx ⊢
    subst hm
    have hm8 : m ≤ 8 := by omega
    have hml2 : m ≤ xs.length := by omega
    obtain ⟨i8, hi8, hz8, hs8, hb8⟩ := info_parts info8
    obtain ⟨A2, hd1, hd2, hd3⟩ := print_cut_int (k := .u8) (P := Try.prog) 22 5 Try.underlying22 hi8 hs8 A c xs (m : Int) (by omega) (by omega) hcap
    have hd4 := hd2 w Hr.out
    clear hz8 hs8 hb8 hi8
    simp only [Int.toNat_natCast] at hd1 hd2 hd3 hd4 ⊢
    generalize hzs : xs.drop m = zs at hd1 hd2 hd3 hd4 ⊢
    have HT : Hid (Tr (.slice A xs.length c) xs (.slice A2 zs.length (c - m)) zs) := Lib.hid (fun W h => by
      obtain ⟨A', c', e, _, h'⟩ := h
      cases e
      exact ⟨A2, c - m, rfl, hd3, hd2 W h'⟩)
    clear hd2
    have Hzs := Lib.hid hzs
    have Hd4 := Lib.hid hd4
    have hrd := Hr.out.2.2
    clear hd4 hzs
    go_enter Try.func16, Try.ntmps16
    go_wp2
    go_loop [8, 9] (fun r i => ∃ j : Nat, ∃ x : Int, j ≤ m ∧ x = val (xs.take j) ∧ i = .int .i64 j ∧ r = .int .u64 x) (fun _ i => m - (intOf i).toNat)
    case atStart => exact ⟨0, 0, Nat.zero_le _, rfl, rfl, rfl⟩
    case round =>
      obtain ⟨j, x, hj, hx, rfl, rfl⟩ := hrel
      have hbx := val_bd (xs.take j) (fun x hx => hby x (List.mem_of_mem_take hx))
      have hjl : (xs.take j).length = j := by rw [List.length_take]; omega
      rw [← hx, hjl] at hbx
      have Hx := Lib.hid hx
      have Hbx := Lib.hid hbx
      clear hx hbx
      by_cases hlt2 : j < m
      · obtain ⟨ad, rfl, hc2⟩ := hrd (by omega)
        have hcell := hc2 j (by omega)
        have hb := hby.at_ (k := j) (by omega)
        have Hs := Lib.hid (take_snoc_getD (xs := xs) (k := j) (by omega))
        have hjx : (j : Int) < xs.length := by omega
        generalize xs.getD j 0 = b at hcell hb Hs
        obtain ⟨hb1, hb2⟩ := hb
        have Hjl := Lib.hid hjl
        clear hrd hc2 hjl
        go_wp2
        go_round
        case rel => exact ⟨j + 1, _, by omega, by rw [Hs.out, val_snoc, Hjl.out, ← Hx.out], by go_num, val_u64 (or_high x b j (by omega) Hbx.out.1 Hbx.out.2 hb1 hb2)⟩
        case measure => simp [intOf]; omega
      · go_wp2
        go_quiet (fail)
        all_goals go_wp2
        go_ret3
        obtain rfl : x = val (xs.take m) := by rw [Hx.out, show j = m from by omega]
        exact ⟨_, rfl, ⟨A2, c - m, rfl, hd3, Hd4.out.below (pw_below_drewN (Below.refl _ _) _)⟩, pw_below_drewN (Below.refl _ _) _, HT.out⟩

theorem ref_get (v : Value) (xs : List Int) (k : Int) (w : World) (hr : RdB w v xs) (hby : By xs) :
    Calls Try.prog 16 #[v, .int .i64 k] w (RGetP xs k w) :=
  (ref_getT v xs k w hr hby).mono (fun _ _ ⟨u, he, hu, hb, _⟩ => ⟨u, he, hu, hb⟩)
end Go.Proofs.Yteebojnabifccaa
