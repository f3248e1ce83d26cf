import Derived.Test.YthgjpppbpgndcaaDoorOpenSt
import Derived.Test.YthgjpppbpgndcaaDoorChainRoad
/- hornbooklaw11.ChainEnds. -/
namespace Go.Proofs.YthgjpppbpgndcaaDoor
open Go.RowKit Go.Maps Go.Shelf Go.Proofs.YthgjpppbpgndcaaDoorW.PrintWords Go.Proofs.YthgjpppbpgndcaaDoorW.PrintMore
variable {B p : Nat} {w0 w w' : World} {F : FM}

theorem add_field (a : Addr) (m k : Nat) : a.add (m + (k + 1)) = ⟨(a.add m).block, (a.add m).off + (k + 1), none⟩ := by
  unfold Addr.add
  rw [if_neg (by omega)]
  by_cases h : m = 0
  · subst h; simp
  · rw [if_neg h]; simp [Nat.add_assoc]
/-- A step's two strings, in every world that keeps what lay. -/
theorem RdSt.at_ {v : Value} {xs : List (Bool × Nm × Nm)} (h : RdSt w v xs) {j : Nat} (hj : j < xs.length) :
    ∃ a c ad b t q, v = .slice (some a) xs.length c ∧ xs[j] = (b, t, q) ∧ t.length ≤ 140737488351232 ∧ q.length ≤ 140737488351232 ∧
      (∀ W, (Instr.indexAt 22 (.slice (some a) xs.length c) (.int .i64 (j : Int))).run Tryd.prog W = .ok (.pointer (some ad)) W) ∧
      w.cell? ad = some (.bool b) ∧ w.cell? ⟨ad.block, ad.off + 1, none⟩ = some (.string (S t)) ∧ w.cell? ⟨ad.block, ad.off + 2, none⟩ = some (.string (S q)) := by
  obtain ⟨A, c, rfl, hc, hr⟩ := h
  obtain ⟨a, rfl, hx⟩ := hr (by omega)
  obtain ⟨h1, h2, h3, h4, h5⟩ := hx j _ (List.getElem?_eq_getElem hj)
  refine ⟨a, c, a.add (j * 3), xs[j].1, xs[j].2.1, xs[j].2.2, rfl, rfl, h4, h5, fun W => ?_, h1, ?_, ?_⟩
  · have h6 : 0 ≤ (j : Int) ∧ (j : Int) < (xs.length : Int) := ⟨by omega, by omega⟩
    go_simp
  · rw [← add_field a (j * 3) 0]; exact h2
  · rw [← add_field a (j * 3) 1]; exact h3
theorem road_key {c : List Nm} (h : RoadAt F 0 c) {x : Nm} (hx : x ∈ c) : x ∈ F.map (·.1) := by
  obtain ⟨k, hk⟩ := List.getElem?_of_mem hx
  obtain ⟨h1, -⟩ := h k x (Nat.zero_le _) hk
  unfold nextF at h1
  cases hf : flk F x with
  | none => rw [hf] at h1; cases h1
  | some v => exact List.mem_map.2 ⟨_, flk_mem hf, rfl⟩
set_option maxRecDepth 100000 in
set_option maxHeartbeats 4000000 in
theorem chainEnds_walk (v : Value) (xs : List (Bool × Nm × Nm)) (w : World) (hM : ML w) (hl : RdSt w v xs) :
    Calls Tryd.prog 3 #[v] w fun e w' => e = .returned (.bool true) ∧ Below w.heap.size w w' := by
  have K0 := Lib.hid (law11_known w hM)
  have HM := Lib.hid hM
  have HL := Lib.hid hl
  obtain ⟨A, c, rfl, -, -⟩ := hl
  clear hM
  by_cases h30 : 30 < xs.length
  · have h30' : (30 : Int) < (xs.length : Int) := by omega
    go_enter Tryd.func3, Tryd.ntmps3
    go_wp2_with fail
    refine K0.out.mono ?_
    rintro e w1 ⟨rfl, hb1⟩
    have HB1 := Lib.hid hb1
    clear hb1 K0
    go_wp2_with fail
    go_ret
    exact ⟨rfl, HB1.out⟩
  have h30' : ¬ (30 : Int) < (xs.length : Int) := by omega
  go_enter Tryd.func3, Tryd.ntmps3
  go_wp2_with fail
  refine K0.out.mono ?_
  rintro e w1 ⟨rfl, hb1⟩
  have HB1 := Lib.hid hb1
  have K1 := Lib.hid (chain_new w1 (HM.out.below hb1))
  have HL1 := Lib.hid (HL.out.below hb1)
  clear hb1 K0 HL
  go_wp2_with fail
  refine K1.out.mono ?_
  rintro e w2 ⟨p, rfl, hf⟩
  have HF0 := Lib.hid hf
  clear hf K1
  go_wp2_with fail
  go_loopw [4] (fun i wr => ∃ (j : Nat) (F : FM), i = .int .i64 (j : Int) ∧ j ≤ xs.length ∧ F.length ≤ j ∧ Ft w1.heap.size p w1 F wr) (fun i _ => xs.length - (intOf i).toNat)
  case atStart => exact ⟨0, [], rfl, Nat.zero_le _, Nat.le_refl _, HF0.out⟩
  case round =>
    obtain ⟨j, F, rfl, hj, hFj, hf⟩ := hrel
    have HF := Lib.hid hf
    clear hf
    by_cases hlt : j < xs.length
    · have hlt' : (j : Int) < (xs.length : Int) := by omega
      have HFd := Lib.hid (HF.out.below (Below.refl _ wr).drew)
      obtain ⟨a, c', ad, b, t, q, hv, hbtq, ht, hq, hx, hc0, hc1, hc2⟩ := HL1.out.at_ hlt
      injection hv with hv1 _ hv2
      subst hv1 hv2
      have HS := Lib.hid (chain_set HFd.out t q ht hq (by omega))
      obtain ⟨r, hr⟩ : ∃ r, setF F t q = r := ⟨_, rfl⟩
      have hFS := setF_len F t q
      rw [hr] at HS hFS
      have HFS := Lib.hid hFS
      have HCW := Lib.hid (fun W (hk : Below w1.heap.size w1 W) => (⟨pw_cell_below hk hc1, pw_cell_below hk hc2⟩ : W.cell? ⟨ad.block, ad.off + 1, none⟩ = some (.string (S t)) ∧ W.cell? ⟨ad.block, ad.off + 2, none⟩ = some (.string (S q))))
      clear hc0 hc1 hc2 hr HF hbtq hFS
      go_wp2_with fail
      refine wp_region_noPanic ?_
      refine wp_region_held_drew (S := fun W => W.cell? ⟨ad.block, ad.off + 1, none⟩ = some (.string (S t)) ∧ W.cell? ⟨ad.block, ad.off + 2, none⟩ = some (.string (S q))) (by kernel_rfl) (HCW.out _ HFd.out.bel) (fun hHeld => ?_)
      generalize wr.drew = Y5 at *
      refine held_take (i := 0) (v := ?_) rfl (by kernel_rfl) (by kernel_rfl) (by kernel_rfl) (fun _ _ _ h => h) (by rfl) hHeld ?y9_0 ?_
      case y9_0 => (intro w hSw; (try dsimp only at hSw); go_simp; try with_reducible rfl)
      try simp only [Act.put, List.setIfInBounds_toArray, List.set_cons_zero, List.set_cons_succ]
      refine held_take (i := 1) (v := ?_) rfl (by kernel_rfl) (by kernel_rfl) (by kernel_rfl) (fun _ _ _ h => h) (by rfl) hHeld ?y9_1 ?_
      case y9_1 => (intro w hSw; (try dsimp only at hSw); go_simp; try with_reducible rfl)
      try simp only [Act.put, List.setIfInBounds_toArray, List.set_cons_zero, List.set_cons_succ]
      refine held_take (i := 2) (v := ?_) rfl (by kernel_rfl) (by kernel_rfl) (by kernel_rfl) (fun _ _ _ h => h) (by rfl) hHeld ?y9_2 ?_
      case y9_2 => (intro w hSw; (try dsimp only at hSw); go_simp; try with_reducible rfl)
      try simp only [Act.put, List.setIfInBounds_toArray, List.set_cons_zero, List.set_cons_succ]
      refine held_take (i := 3) (v := ?_) rfl (by kernel_rfl) (by kernel_rfl) (by kernel_rfl) (fun _ _ _ h => h) (by rfl) hHeld ?y9_3 ?_
      case y9_3 => (intro w hSw; (try dsimp only at hSw); go_simp; try with_reducible rfl)
      try simp only [Act.put, List.setIfInBounds_toArray, List.set_cons_zero, List.set_cons_succ]
      refine held_take (i := 4) (v := ?_) rfl (by kernel_rfl) (by kernel_rfl) (by kernel_rfl) (fun _ _ _ h => h) (by rfl) hHeld ?y9_4 ?_
      case y9_4 => (intro w hSw; (try dsimp only at hSw); go_simp; try with_reducible rfl)
      try simp only [Act.put, List.setIfInBounds_toArray, List.set_cons_zero, List.set_cons_succ]
      refine held_take (i := 5) (v := ?_) rfl (by kernel_rfl) (by kernel_rfl) (by kernel_rfl) (fun _ _ _ h => h) (by rfl) hHeld ?y9_5 ?_
      case y9_5 => (intro w hSw; (try dsimp only at hSw); go_simp; try with_reducible rfl)
      try simp only [Act.put, List.setIfInBounds_toArray, List.set_cons_zero, List.set_cons_succ]
      refine held_take (i := 6) (v := ?_) rfl (by kernel_rfl) (by kernel_rfl) (by kernel_rfl) (fun _ _ _ h => h) (by rfl) hHeld ?y9_6 ?_
      case y9_6 => (intro w hSw; (try dsimp only at hSw); go_simp; try with_reducible rfl)
      try simp only [Act.put, List.setIfInBounds_toArray, List.set_cons_zero, List.set_cons_succ]
      refine held_take (i := 7) (v := ?_) rfl (by kernel_rfl) (by kernel_rfl) (by kernel_rfl) (fun _ _ _ h => h) (by rfl) hHeld ?y9_7 ?_
      case y9_7 => (intro w hSw; (try dsimp only at hSw); go_simp; try with_reducible rfl)
      try simp only [Act.put, List.setIfInBounds_toArray, List.set_cons_zero, List.set_cons_succ]
      refine held_take (i := 8) (v := ?_) rfl (by kernel_rfl) (by kernel_rfl) (by kernel_rfl) (fun _ _ _ h => h) (by rfl) hHeld ?y9_8 ?_
      case y9_8 => (intro w hSw; (try dsimp only at hSw); go_simp; try with_reducible rfl)
      try simp only [Act.put, List.setIfInBounds_toArray, List.set_cons_zero, List.set_cons_succ]
      refine held_take (i := 9) (v := ?_) rfl (by kernel_rfl) (by kernel_rfl) (by kernel_rfl) (fun _ _ _ h => h) (by rfl) hHeld ?y9_9 ?_
      case y9_9 => (intro w hSw; (try dsimp only at hSw); go_simp; try with_reducible rfl)
      try simp only [Act.put, List.setIfInBounds_toArray, List.set_cons_zero, List.set_cons_succ]
      refine held_take (i := 10) (v := ?_) rfl (by kernel_rfl) (by kernel_rfl) (by kernel_rfl) (fun _ _ _ h => h) (by rfl) hHeld ?y9_10 ?_
      case y9_10 => (intro w hSw; (try dsimp only at hSw); go_simp; try with_reducible rfl)
      try simp only [Act.put, List.setIfInBounds_toArray, List.set_cons_zero, List.set_cons_succ]
      refine held_one (i := 11) (by kernel_rfl) rfl (fun K hK => ?_)
      (refine step_call (by rfl) _ _ (by rfl) Tryd.func9 (by kernel_rfl) (by kernel_rfl) (by simp only [List.map_toArray, List.map_cons, List.map_nil]; rfl) (HS.out.mono ?_); rintro e w5 ⟨rfl, hf, -⟩; have hS11 := HCW.out _ hf.bel; refine ⟨_, rfl, ?_⟩)
      refine hK.out _ _ ?_ (fun hHeld => ?_)
      · exact hS11
      clear hK K
      try simp only [Act.put, List.setIfInBounds_toArray, List.set_cons_zero, List.set_cons_succ]
      refine wpAnyH_done (by kernel_rfl) ?_ _
      refine NoPanic.normal ?_

      have HF5 := Lib.hid hf
      have KC := Lib.hid (chain_check HF5.out)
      obtain ⟨cr, hcr⟩ : ∃ cr, checkF r.2 = cr := ⟨_, rfl⟩
      rw [hcr] at KC
      clear HFd HS hS11 hHeld hf hcr
      go_wp2_with fail
      refine KC.out.mono ?_
      rintro e w6 ⟨rfl, hb⟩
      have HF6 := Lib.hid (HF5.out.below hb)
      clear hb KC HF5
      obtain ⟨tc, er⟩ := cr
      by_cases he : er = 0
      · subst he
        go_wp2_with fail
        go_roundw
        case rel => exact ⟨j + 1, r.2, by go_num, by omega, Nat.le_trans HFS.out (by omega), HF6.out⟩
        case measure => simp [intOf]; omega
      · have he' : (er == 0) = false := by rw [beq_eq_false_iff_ne]; exact he
        have KD := Lib.hid (chain_drop HF6.out t ht)
        obtain ⟨hc1, hc2⟩ := HCW.out _ HF6.out.bel
        obtain ⟨r2, hr2⟩ : ∃ r2, dropF r.2 t = r2 := ⟨_, rfl⟩
        have hdl := dropF_len r.2 t
        rw [hr2] at KD hdl
        have HDL := Lib.hid (Nat.le_trans hdl HFS.out)
        clear he hr2 hdl hc2
        go_wp2_with fail
        refine KD.out.mono ?_
        rintro e w7 ⟨rfl, hf, -⟩
        have HF7 := Lib.hid hf
        clear hf KD hc1
        go_wp2_with fail
        go_roundw
        case rel => exact ⟨j + 1, r2.2, by go_num, by omega, Nat.le_trans HDL.out (by omega), HF7.out⟩
        case measure => simp [intOf]; omega
    · have hge : ¬ (j : Int) < (xs.length : Int) := by omega
      have KC := Lib.hid (chain_check HF.out)
      obtain ⟨cr, hcr⟩ : ∃ cr, checkF F = cr := ⟨_, rfl⟩
      have HCR := Lib.hid hcr
      have HFJ := Lib.hid hFj
      rw [hcr] at KC
      clear hcr hFj
      go_wp2_with fail
      refine KC.out.mono ?_
      rintro e w3 ⟨rfl, hb⟩
      have HF3 := Lib.hid (HF.out.below hb)
      have KA := Lib.hid (chain_all HF3.out)
      clear hb KC HF
      go_wp2_with fail
      refine KA.out.mono ?_
      rintro e w4 ⟨va, rfl, ho, hb⟩
      have HF4 := Lib.hid (HF3.out.below hb)
      have HO4 := Lib.hid ho
      have HKS : Hid (∀ x ∈ F.map (·.1), x.length ≤ 100) := Lib.hid (fun x hx => by
        obtain ⟨y, hy, rfl⟩ := List.mem_map.1 hx
        exact (HF3.out.small y hy).1)
      have HFL : Hid ((F.map (·.1)).length ≤ 30) := Lib.hid (by have := HFJ.out; rw [List.length_map]; omega)
      obtain ⟨tc, er⟩ := cr
      by_cases he : er = 0
      · subst he
        have HALL := Lib.hid (checkF_all HCR.out)
        obtain ⟨ks, hks⟩ : ∃ ks, F.map (·.1) = ks := ⟨_, rfl⟩
        have HKM := Lib.hid hks
        rw [hks] at HO4 HKS HFL HALL
        clear hks ho hb KA HF3
        obtain ⟨A4, c4, rfl, -⟩ := HO4.out.sl
        have hks30 := HFL.out
        go_wp2_with fail
        go_loopw [10] (fun i wr => ∃ m : Nat, i = .int .i64 (m : Int) ∧ m ≤ ks.length ∧ OwnS wr w3.heap.size (.slice A4 ks.length c4) ks ∧ Ft w1.heap.size p w1 F wr) (fun i _ => ks.length - (intOf i).toNat)
        case atStart => exact ⟨0, rfl, Nat.zero_le _, HO4.out, HF4.out⟩
        case round =>
          obtain ⟨m, rfl, hm, ho, hf⟩ := hrel
          have HF5 := Lib.hid hf
          have HO5 := Lib.hid ho
          clear ho hf
          by_cases hlm : m < ks.length
          · have hlm' : (m : Int) < (ks.length : Int) := by omega
            obtain ⟨g, rfl, hx, hcell⟩ := HO5.out.at_ hlm
            have hcx := hcell _ (Below.refl _ _)
            obtain ⟨o, ho⟩ : ∃ o, ks[m] = o := ⟨_, rfl⟩
            have hol : o.length ≤ 100 := by rw [← ho]; exact HKS.out _ (List.getElem_mem hlm)
            have hoe : (chainF F o).2 = 0 := by rw [← ho]; exact HALL.out _ (List.getElem_mem hlm)
            rw [ho] at hcx hcell
            obtain ⟨cl, hcl⟩ : ∃ cl, (chainF F o).1 = cl := ⟨_, rfl⟩
            have hce : chainF F o = (cl, 0) := Prod.ext hcl hoe
            have KC := Lib.hid (chain_to HF5.out o (by omega) hce)
            obtain ⟨hr0, hr6, hrn, hrd⟩ := chainF_road hce
            have hr0' : 0 < cl.length := (List.getElem?_eq_some_iff.1 hr0).1
            have h6 : ¬ (6 : Int) < (cl.length : Int) := by omega
            have HCELL := Lib.hid hcell
            have HR0 := Lib.hid hr0
            have HRN := Lib.hid hrn
            have HRD := Lib.hid hrd
            clear ho hol hoe hcl hce hr0 hrn hrd hcell
            go_wp2_with fail
            refine KC.out.mono ?_
            rintro e w6 ⟨A6, c6, rfl, ho6, hb6⟩
            obtain ⟨g6, rfl, hx6, hcell6⟩ := ho6.at_ hr0'
            have HF6 := Lib.hid (HF5.out.below hb6)
            have HO6 := Lib.hid (HO5.out.below hb6)
            have HC6 := Lib.hid ho6
            have hc6 := HCELL.out _ hb6
            have hd6 := hcell6 _ (Below.refl _ _)
            have h00 : cl[0] = o := by
              have := HR0.out
              rw [List.getElem?_eq_getElem hr0'] at this
              injection this
            rw [h00] at hd6
            have hs := S_eq o o
            rw [decide_eq_true rfl] at hs
            replace hx6 : ∀ W, (Instr.indexAt 33 (.slice (some ⟨g6, 0, none⟩) cl.length c6) (.int .i64 0)).run Tryd.prog W = .ok (.pointer (some ⟨g6, 0, none⟩)) W := hx6
            clear ho6 hb6 KC hcell6 hcx h00
            go_wp2_with fail
            go_quiet (fail)
            all_goals go_wp2_with fail
            obtain ⟨bs, hbs⟩ : ∃ bs, wr.heap.size = bs := ⟨_, rfl⟩
            rw [hbs] at HC6
            clear hx hx6 hc6 hd6 hs hbs
            go_loopw [13] (fun i wi => ∃ k : Nat, i = .int .i64 (k : Int) ∧ k ≤ cl.length ∧ OwnS wi bs (.slice (some ⟨g6, 0, none⟩) cl.length c6) cl ∧ OwnS wi w3.heap.size (.slice (some ⟨g, 0, none⟩) ks.length c4) ks ∧ Ft w1.heap.size p w1 F wi) (fun i _ => cl.length - (intOf i).toNat)
            case atStart => exact ⟨0, rfl, Nat.zero_le _, HC6.out.below (pw_below_drewN (Below.refl _ _) _), HO6.out.below (pw_below_drewN (Below.refl _ _) _), HF6.out.below (pw_below_drewN (Below.refl _ _) _)⟩
            case round =>
              obtain ⟨k, rfl, hk, hc, ho, hf⟩ := hrel
              have HC7 := Lib.hid hc
              have HO7 := Lib.hid ho
              have HF7 := Lib.hid hf
              clear hc ho hf
              by_cases hlk : k < cl.length
              · have hlk' : (k : Int) < (cl.length : Int) := by omega
                obtain ⟨g', hg', hx, hcell⟩ := HC7.out.at_ hlk
                injection hg' with hg'
                injection hg' with hg'
                subst hg'
                have hck := hcell _ (Below.refl _ _)
                obtain ⟨y, hy⟩ : ∃ y, cl[k] = y := ⟨_, rfl⟩
                have hyk : cl[k]? = some y := by rw [List.getElem?_eq_getElem hlk, hy]
                rw [hy] at hck hcell
                have hyl : y.length ≤ 1000000 := by
                  have := road_key HRD.out (List.mem_of_getElem? hyk)
                  obtain ⟨z, hz, rfl⟩ := List.mem_map.1 this
                  have := (HF7.out.small z hz).1
                  omega
                obtain ⟨n1, n2, n3⟩ := HRD.out k y (Nat.zero_le _) hyk
                have KN := Lib.hid (chain_next HF7.out y hyl)
                obtain ⟨⟨nx, okb, er⟩, hnx⟩ : ∃ r, nextF F y = r := ⟨_, rfl⟩
                rw [hnx] at KN n1 n2 n3
                dsimp only at n1 n2 n3
                subst n1
                have HYK := Lib.hid hyk
                have HCL := Lib.hid hcell
                clear hy hyl hnx hcell hyk
                by_cases h1 : k + 1 < cl.length
                · rw [decide_eq_true h1] at n2
                  subst n2
                  have hnx := n3 h1
                  obtain ⟨k1, hk1⟩ : ∃ k1, k + 1 = k1 := ⟨_, rfl⟩
                  rw [hk1] at h1 hnx
                  have hkk : (k : Int) + 1 = (k1 : Int) := by omega
                  have hkl : (k1 : Int) < (cl.length : Int) := by omega
                  have HNX := Lib.hid hnx
                  have HK1 := Lib.hid hk1
                  clear n3 hnx hk1
                  go_wp2_with fail
                  refine KN.out.mono ?_
                  rintro e w8 ⟨rfl, hb8⟩
                  have HF8 := Lib.hid (HF7.out.below hb8)
                  have HC8 := Lib.hid (HC7.out.below hb8)
                  have HO8 := Lib.hid (HO7.out.below hb8)
                  obtain ⟨g', hg', hx1, hcell1⟩ := HC8.out.at_ h1
                  injection hg' with hg'
                  injection hg' with hg'
                  subst hg'
                  have hc1 := hcell1 _ (Below.refl _ _)
                  have hce : cl[k1] = nx := by
                    have := HNX.out
                    rw [List.getElem?_eq_getElem h1] at this
                    injection this
                  rw [hce] at hc1
                  have hs := S_eq nx nx
                  rw [decide_eq_true rfl] at hs
                  clear hb8 KN hcell1 hce hck
                  go_wp2_with fail
                  clear hx1 hx hc1 hs
                  go_loopw [17] (fun i wj => ∃ j : Nat, i = .int .i64 (j : Int) ∧ j ≤ k ∧ OwnS wj bs (.slice (some ⟨g6, 0, none⟩) cl.length c6) cl ∧ OwnS wj w3.heap.size (.slice (some ⟨g, 0, none⟩) ks.length c4) ks ∧ Ft w1.heap.size p w1 F wj) (fun i _ => k - (intOf i).toNat)
                  case atStart => first | exact ⟨0, rfl, Nat.zero_le _, HC8.out, HO8.out, HF8.out⟩ | exact ⟨0, rfl, Nat.zero_le _, HC8.out.below (pw_below_drewN (Below.refl _ _) _), HO8.out.below (pw_below_drewN (Below.refl _ _) _), HF8.out.below (pw_below_drewN (Below.refl _ _) _)⟩
                  case round =>
                    obtain ⟨j, rfl, hj, hc, ho, hf⟩ := hrel
                    have HC9 := Lib.hid hc
                    have HO9 := Lib.hid ho
                    have HF9 := Lib.hid hf
                    clear hc ho hf
                    by_cases hjk : j < k
                    · have hjk' : (j : Int) < (k : Int) := by omega
                      obtain ⟨g', hg', hx, hcell⟩ := HC9.out.at_ (i := j) (by omega)
                      injection hg' with hg'
                      injection hg' with hg'
                      subst hg'
                      obtain ⟨g', hg', hx2, hcell2⟩ := HC9.out.at_ (i := k) hlk
                      injection hg' with hg'
                      injection hg' with hg'
                      subst hg'
                      have hcj := hcell _ (Below.refl _ _)
                      have hck := hcell2 _ (Below.refl _ _)
                      obtain ⟨yj, hyj⟩ : ∃ y, cl[j]'(by omega) = y := ⟨_, rfl⟩
                      obtain ⟨yk, hyk⟩ : ∃ y, cl[k] = y := ⟨_, rfl⟩
                      rw [hyj] at hcj
                      rw [hyk] at hck
                      have hs := S_eq yj yk
                      rw [decide_eq_false (nodup_ne HRN.out (by rw [List.getElem?_eq_getElem (by omega), hyj]) (by rw [List.getElem?_eq_getElem hlk, hyk]) hjk)] at hs
                      clear hcell hcell2 hyj hyk
                      go_wp2_with fail
                      go_quiet (fail)
                      all_goals go_wp2_with fail
                      go_roundw
                      case rel => exact ⟨j + 1, by go_num, hjk, HC9.out.below (pw_below_drewN (Below.refl _ _) _), HO9.out.below (pw_below_drewN (Below.refl _ _) _), HF9.out.below (pw_below_drewN (Below.refl _ _) _)⟩
                      case measure => simp [intOf]; omega
                    · have hge : ¬ (j : Int) < (k : Int) := by omega
                      go_wp2_with fail
                      go_roundw
                      case rel => exact ⟨k + 1, by go_num, by omega, HC9.out, HO9.out, HF9.out⟩
                      case measure => simp [intOf]; omega
                · have h1' : ¬ (k : Int) + 1 < (cl.length : Int) := by omega
                  rw [decide_eq_false h1] at n2
                  subst n2
                  clear n3
                  go_wp2_with fail
                  refine KN.out.mono ?_
                  rintro e w8 ⟨rfl, hb8⟩
                  have HF8 := Lib.hid (HF7.out.below hb8)
                  have HC8 := Lib.hid (HC7.out.below hb8)
                  have HO8 := Lib.hid (HO7.out.below hb8)
                  clear hb8 KN hck hx
                  go_wp2_with fail
                  go_loopw [17] (fun i wj => ∃ j : Nat, i = .int .i64 (j : Int) ∧ j ≤ k ∧ OwnS wj bs (.slice (some ⟨g6, 0, none⟩) cl.length c6) cl ∧ OwnS wj w3.heap.size (.slice (some ⟨g, 0, none⟩) ks.length c4) ks ∧ Ft w1.heap.size p w1 F wj) (fun i _ => k - (intOf i).toNat)
                  case atStart => first | exact ⟨0, rfl, Nat.zero_le _, HC8.out, HO8.out, HF8.out⟩ | exact ⟨0, rfl, Nat.zero_le _, HC8.out.below (pw_below_drewN (Below.refl _ _) _), HO8.out.below (pw_below_drewN (Below.refl _ _) _), HF8.out.below (pw_below_drewN (Below.refl _ _) _)⟩
                  case round =>
                    obtain ⟨j, rfl, hj, hc, ho, hf⟩ := hrel
                    have HC9 := Lib.hid hc
                    have HO9 := Lib.hid ho
                    have HF9 := Lib.hid hf
                    clear hc ho hf
                    by_cases hjk : j < k
                    · have hjk' : (j : Int) < (k : Int) := by omega
                      obtain ⟨g', hg', hx, hcell⟩ := HC9.out.at_ (i := j) (by omega)
                      injection hg' with hg'
                      injection hg' with hg'
                      subst hg'
                      obtain ⟨g', hg', hx2, hcell2⟩ := HC9.out.at_ (i := k) hlk
                      injection hg' with hg'
                      injection hg' with hg'
                      subst hg'
                      have hcj := hcell _ (Below.refl _ _)
                      have hck := hcell2 _ (Below.refl _ _)
                      obtain ⟨yj, hyj⟩ : ∃ y, cl[j]'(by omega) = y := ⟨_, rfl⟩
                      obtain ⟨yk, hyk⟩ : ∃ y, cl[k] = y := ⟨_, rfl⟩
                      rw [hyj] at hcj
                      rw [hyk] at hck
                      have hs := S_eq yj yk
                      rw [decide_eq_false (nodup_ne HRN.out (by rw [List.getElem?_eq_getElem (by omega), hyj]) (by rw [List.getElem?_eq_getElem hlk, hyk]) hjk)] at hs
                      clear hcell hcell2 hyj hyk
                      go_wp2_with fail
                      go_quiet (fail)
                      all_goals go_wp2_with fail
                      go_roundw
                      case rel => exact ⟨j + 1, by go_num, hjk, HC9.out.below (pw_below_drewN (Below.refl _ _) _), HO9.out.below (pw_below_drewN (Below.refl _ _) _), HF9.out.below (pw_below_drewN (Below.refl _ _) _)⟩
                      case measure => simp [intOf]; omega
                    · have hge : ¬ (j : Int) < (k : Int) := by omega
                      go_wp2_with fail
                      go_roundw
                      case rel => exact ⟨k + 1, by go_num, by omega, HC9.out, HO9.out, HF9.out⟩
                      case measure => simp [intOf]; omega
              · have hge : ¬ (k : Int) < (cl.length : Int) := by omega
                go_wp2_with fail
                go_roundw
                case rel => exact ⟨m + 1, by go_num, hlm, HO7.out, HF7.out⟩
                case measure => simp [intOf]; omega
          · have hge : ¬ (m : Int) < (ks.length : Int) := by omega
            have HB9 := Lib.hid HF5.out.bel
            go_wp2
            go_ret
            exact ⟨rfl, HB1.out.trans (HB9.out.mono HB1.out.size)⟩
      · have he' : (er == 0) = false := by rw [beq_eq_false_iff_ne]; exact he
        have HB9 := Lib.hid HF4.out.bel
        clear ho hb KA HF3
        obtain ⟨ks, hks⟩ : ∃ ks, F.map (·.1) = ks := ⟨_, rfl⟩
        rw [hks] at HO4
        obtain ⟨A4, c4, rfl, -⟩ := HO4.out.sl
        clear hks he
        go_wp2_with fail
        go_loopw [10] (fun i wr => i = .int .i64 0 ∧ Below w1.heap.size w1 wr) (fun _ _ => 0)
        case atStart => exact ⟨rfl, HB9.out⟩
        case round =>
          obtain ⟨rfl, hbr⟩ := hrel
          have HBR := Lib.hid hbr
          clear hbr
          go_wp2_with fail
          go_ret
          exact ⟨rfl, HB1.out.trans (HBR.out.mono HB1.out.size)⟩
end Go.Proofs.YthgjpppbpgndcaaDoor
