import Derived.Test.YthgjpppbpgndcaaGreatDoorChainChain
/- chain.Check. -/
namespace Go.Proofs.YthgjpppbpgndcaaGreatDoor
open Go.RowKit Go.Maps Go.Shelf Go.Proofs.YthgjpppbpgndcaaGreatDoorW.PrintWords Go.Proofs.YthgjpppbpgndcaaGreatDoorW.PrintMore
variable {B p : Nat} {w0 w w' : World} {F : FM}

theorem idxSt (g n cap i : Nat) (hi : i < n) (W : World) : (Instr.indexAt 30 (.slice (some ⟨g, 0, none⟩) n cap) (.int .i64 (i : Int))).run Tryz.prog W = .ok (.pointer (some ⟨g, i, none⟩)) W := by
  have h : (i : Int) < (n : Int) := by omega
  go_simp
/-- A row's cell. -/
theorem OwnS.at_ {base : Nat} {A : Option Addr} {c : Nat} {ss : List Nm} (h : OwnS w base (.slice A ss.length c) ss) {i : Nat} (hi : i < ss.length) :
    ∃ g, A = some ⟨g, 0, none⟩ ∧ (∀ W, (Instr.indexAt 30 (.slice A ss.length c) (.int .i64 (i : Int))).run Tryz.prog W = .ok (.pointer (some ⟨g, i, none⟩)) W) ∧ ∀ w', Below w.heap.size w w' → w'.cell? ⟨g, i, none⟩ = some (.string (S ss[i])) := by
  obtain ⟨g, cap, he, -, -, -, hcell⟩ := h.shape (by rintro rfl; simp at hi)
  injection he with e1
  subst e1
  exact ⟨g, rfl, idxSt g ss.length c i hi, fun w' hb => pw_cell_below hb (hcell i _ (List.getElem?_eq_getElem hi))⟩
theorem OwnS.sl {base : Nat} {v : Value} {ss : List Nm} (h : OwnS w base v ss) : ∃ A c, v = .slice A ss.length c ∧ ss.length ≤ c := owns_slice h
theorem find_none_take {P : Nm → Bool} {ks : List Nm} (h : ∀ (i : Nat) (hi : i < ks.length), P ks[i] = false) : ks.find? P = none := List.find?_eq_none.2 (fun x hx => by
  obtain ⟨i, hi, rfl⟩ := List.getElem_of_mem hx
  rw [h i hi]; decide)
theorem find_some_at {P : Nm → Bool} {ks : List Nm} {i : Nat} (hi : i < ks.length) (h : ∀ (j : Nat) (hj : j < i), P (ks[j]'(by omega)) = false) (hp : P ks[i] = true) : ks.find? P = some ks[i] := by
  have e : ks = ks.take i ++ ks[i] :: ks.drop (i + 1) := by rw [← List.drop_eq_getElem_cons hi, List.take_append_drop]
  have hn : (ks.take i).find? P = none := find_none_take (fun j hj => by
    rw [List.length_take] at hj
    rw [List.getElem_take]
    exact h j (by omega))
  have h2 : (ks.take i ++ ks[i] :: ks.drop (i + 1)).find? P = some ks[i] := by
    rw [List.find?_append, hn, Option.none_or, List.find?_cons_of_pos hp]
  rwa [← e] at h2
set_option maxRecDepth 100000 in
set_option maxHeartbeats 4000000 in
theorem chain_check (h : Ft B p w0 F w) :
    Calls Tryz.prog 17 #[pv p] w fun e w' => e = .returned (.tuple #[.string (S (checkF F).1), .int .i64 (checkF F).2]) ∧ Below w.heap.size w w' := by
  have HH := Lib.hid h
  have HA := Lib.hid (chain_all h)
  have hkl : (F.map (·.1)).length ≤ 100000 := by rw [List.length_map]; exact h.many
  have HKL : Hid (∀ x ∈ F.map (·.1), x.length ≤ 100) := Lib.hid (fun x hx => by
    obtain ⟨y, hy, rfl⟩ := List.mem_map.1 hx
    exact (h.small y hy).1)
  clear h
  have HR : Hid (∀ r, ((F.map (·.1)).find? fun t => decide ((chainF F t).2 ≠ 0)) = r → checkF F = match (generalizing := false) r with | some t => (t, (chainF F t).2) | none => ([], 0)) := Lib.hid (fun r hr => by rw [← hr]; rfl)
  generalize checkF F = out at *
  generalize F.map (·.1) = ks at *
  go_enter Tryz.func17, Tryz.ntmps17
  go_wp2_with fail
  refine HA.out.mono ?_
  rintro e w1 ⟨v, rfl, ho, hb⟩
  obtain ⟨A, c, rfl, -⟩ := ho.sl
  have HO := Lib.hid ho
  have HB := Lib.hid hb
  clear ho hb HA
  go_wp2_with fail
  go_loopw [11] (fun i wr => ∃ k : Nat, k ≤ ks.length ∧ i = .int .i64 (k : Int) ∧ Below w1.heap.size w1 wr ∧ ∀ (j : Nat) (hj : j < ks.length), j < k → (chainF F ks[j]).2 = 0) (fun i _ => ks.length - (intOf i).toNat)
  case atStart => exact ⟨0, Nat.zero_le _, rfl, Below.refl _ _, fun j _ h => absurd h (Nat.not_lt_zero _)⟩
  case round =>
    obtain ⟨k, hk, rfl, hb, hall⟩ := hrel
    have HBk := Lib.hid hb
    have HAL := Lib.hid hall
    clear hb hall
    by_cases hlt : k < ks.length
    · have hlt' : (k : Int) < (ks.length : Int) := by omega
      obtain ⟨g, rfl, hx, hcell⟩ := HO.out.at_ hlt
      have hc := hcell _ HBk.out
      have hxl : ks[k].length ≤ 1000000 := by have := HKL.out _ (List.getElem_mem hlt); omega
      have HC := Lib.hid (chain_chain (HH.out.below (HB.out.trans (HBk.out.mono HB.out.size))) ks[k] hxl)
      obtain ⟨y, hy⟩ : ∃ y, ks[k] = y := ⟨_, rfl⟩
      rw [hy] at hc HC
      obtain ⟨⟨l, er⟩, hr⟩ : ∃ r, chainF F y = r := ⟨_, rfl⟩
      rw [hr] at HC
      have HY := Lib.hid hy
      have HRY := Lib.hid hr
      dsimp only at HC
      clear hcell hy hr
      by_cases her : er = 0
      · subst her
        go_wp2_with fail
        refine HC.out.mono ?_
        rintro e w2 ⟨u, rfl, hou, hb⟩
        have HB2 := Lib.hid (HBk.out.trans (hb.mono HBk.out.size))
        clear hou hb HC
        go_wp2_with fail
        go_roundw
        case rel => exact ⟨k + 1, hlt, by go_num, HB2.out, fun j hj hjk => by
            rcases Nat.lt_succ_iff_lt_or_eq.1 hjk with h1 | h1
            · exact HAL.out j hj h1
            · subst h1; rw [HY.out, HRY.out]⟩
        case measure => first | (simp [intOf]; done) | (simp [intOf]; omega)
      · have her' : (er == 0) = false := by rw [beq_eq_false_iff_ne]; exact her
        have HE := Lib.hid (HR.out _ (find_some_at (P := fun t => decide ((chainF F t).2 ≠ 0)) hlt (fun j hj => by rw [HAL.out j (by omega) hj]; rfl) (by rw [HY.out, HRY.out]; exact decide_eq_true her)))
        rw [HY.out] at HE
        dsimp only at HE
        rw [HRY.out] at HE
        clear her HR HAL
        go_wp2_with fail
        refine HC.out.mono ?_
        rintro e w2 ⟨u, rfl, hou, hb⟩
        have HB2 := Lib.hid (HBk.out.trans (hb.mono HBk.out.size))
        clear hou hb HC
        go_wp2_with fail
        go_ret2
        rw [HE.out]
        exact ⟨rfl, HB.out.trans (HB2.out.mono HB.out.size)⟩
    · have hge : ¬ (k : Int) < (ks.length : Int) := by omega
      have HE := Lib.hid (HR.out _ (find_none_take (fun i hi => by rw [HAL.out i hi (by omega)]; rfl)))
      clear HAL
      go_wp2
      go_ret2
      rw [HE.out]
      exact ⟨rfl, HB.out.trans (HBk.out.mono HB.out.size)⟩
end Go.Proofs.YthgjpppbpgndcaaGreatDoor
