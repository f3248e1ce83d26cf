import Derived.Test.YthgjpppbpgndcaaGreatDoorOpenSt
import Derived.Test.YthgjpppbpgndcaaGreatDoorChainUMath2
import Derived.Test.YthgjpppbpgndcaaGreatDoorChainCloneLay
/- hornbooklaw11.ChainUnder. -/
namespace Go.Proofs.YthgjpppbpgndcaaGreatDoor
open Go.RowKit Go.Maps Go.Shelf Go.Proofs.YthgjpppbpgndcaaGreatDoorW.PrintWords Go.Proofs.YthgjpppbpgndcaaGreatDoorW.PrintMore
variable {B p : Nat} {w0 w w' : World} {F : FM}

theorem add_field (a : Addr) (m k : Nat) : a.add (m + (k + 1)) = ⟨(a.add m).block, (a.add m).off + (k + 1), none⟩ := by
  unfold Addr.add
  rw [if_neg (by omega)]
  by_cases h : m = 0
  · subst h; simp
  · rw [if_neg h]; simp [Nat.add_assoc]
/-- A step's two strings, in every world that keeps what lay. -/
theorem RdSt.at_ {v : Value} {xs : List (Bool × Nm × Nm)} (h : RdSt w v xs) {j : Nat} (hj : j < xs.length) :
    ∃ a c ad b t q, v = .slice (some a) xs.length c ∧ xs[j] = (b, t, q) ∧ t.length ≤ 140737488351232 ∧ q.length ≤ 140737488351232 ∧
      (∀ W, (Instr.indexAt 22 (.slice (some a) xs.length c) (.int .i64 (j : Int))).run Tryz.prog W = .ok (.pointer (some ad)) W) ∧
      w.cell? ad = some (.bool b) ∧ w.cell? ⟨ad.block, ad.off + 1, none⟩ = some (.string (S t)) ∧ w.cell? ⟨ad.block, ad.off + 2, none⟩ = some (.string (S q)) := by
  obtain ⟨A, c, rfl, hc, hr⟩ := h
  obtain ⟨a, rfl, hx⟩ := hr (by omega)
  obtain ⟨h1, h2, h3, h4, h5⟩ := hx j _ (List.getElem?_eq_getElem hj)
  refine ⟨a, c, a.add (j * 3), xs[j].1, xs[j].2.1, xs[j].2.2, rfl, rfl, h4, h5, fun W => ?_, h1, ?_, ?_⟩
  · have h6 : 0 ≤ (j : Int) ∧ (j : Int) < (xs.length : Int) := ⟨by omega, by omega⟩
    go_simp
  · rw [← add_field a (j * 3) 0]; exact h2
  · rw [← add_field a (j * 3) 1]; exact h3
theorem no_between (t : Nm) (cl : List Nm) : false = true ↔ ∃ j, 1 ≤ j ∧ j < 1 ∧ cl[j]? = some t := by
  constructor
  · intro h; cases h
  · rintro ⟨j, h1, h2, _⟩; omega
theorem all_len (h : Ft B p w0 F w) {n : Nat} (hn : F.length = n) : Calls Tryz.prog 8 #[pv p] w fun e w' => ∃ A c, e = .returned (.slice A n c) ∧ Below w.heap.size w w' := by
  refine (chain_all h).mono ?_
  rintro e w' ⟨v, rfl, ho, hb⟩
  obtain ⟨A, c, rfl, -⟩ := ho.sl
  exact ⟨A, c, by rw [List.length_map, hn], hb⟩
theorem drop_as (h : Ft B p w0 F w) (t : Nm) (ht : t.length ≤ 140737488351232) {r : Int × FM} (hr : dropF F t = r) {e0 : Int} (he : r.1 = e0) :
    Calls Tryz.prog 12 #[pv p, .string (S t)] w fun e w' => e = .returned (.int .i64 e0) ∧ Ft B p w0 r.2 w' := by
  subst hr
  subst he
  exact (chain_drop h t ht).mono fun _ _ h => ⟨h.1, h.2.1⟩
theorem has_as (h : Ft B p w0 F w) (t : Nm) (ht : t.length ≤ 140737488351232) {b : Bool} (hb : (flk F t).isSome = b) :
    Calls Tryz.prog 13 #[pv p, .string (S t)] w fun e w' => e = .returned (.bool b) ∧ Below w.heap.size w w' := by
  subst hb
  exact chain_has h t ht
theorem underF_und (F : FM) (t : Nm) : underF F t = (F.map (·.1)).filter (undB F t) := rfl
theorem Ft.rising (h : Ft B p w0 F w) : F.Pairwise fun p q => bytesBefore p.1 q.1 = true := by
  obtain ⟨mb, -, hm, -⟩ := h.at_
  exact hm.rising
set_option maxRecDepth 100000 in
set_option maxHeartbeats 4000000 in
theorem chainUnder_walk (v : Value) (xs : List (Bool × Nm × Nm)) (ia : Int) (w : World) (hM : ML w) (hl : RdSt w v xs) (ha : 0 ≤ ia ∧ ia < 256) :
    Calls Tryz.prog 3 #[v, .int .u8 ia] w fun e w' => e = .returned (.bool true) ∧ Below w.heap.size w w' := by
  have K0 := Lib.hid (law11_known w hM)
  have HM := Lib.hid hM
  have HL := Lib.hid hl
  obtain ⟨A, c, rfl, -, -⟩ := hl
  clear hM
  by_cases h20 : 20 < xs.length
  · have h20' : (20 : Int) < (xs.length : Int) := by omega
    go_enter Tryz.func3, Tryz.ntmps3
    go_wp2_with fail
    refine K0.out.mono ?_
    rintro e w1 ⟨rfl, hb1⟩
    have HB1 := Lib.hid hb1
    clear hb1 K0
    go_wp2_with fail
    go_ret
    exact ⟨rfl, HB1.out⟩
  have h20' : ¬ (20 : Int) < (xs.length : Int) := by omega
  go_enter Tryz.func3, Tryz.ntmps3
  go_wp2_with fail
  refine K0.out.mono ?_
  rintro e w1 ⟨rfl, hb1⟩
  have HB1 := Lib.hid hb1
  have K1 := Lib.hid (chain_new w1 (HM.out.below hb1))
  have HL1 := Lib.hid (HL.out.below hb1)
  clear hb1 K0 HL
  go_wp2_with fail
  refine K1.out.mono ?_
  rintro e w2 ⟨p, rfl, hf⟩
  have HF0 := Lib.hid hf
  clear hf K1
  go_wp2_with fail
  go_loopw [6] (fun i wr => ∃ (j : Nat) (F : FM), i = .int .i64 (j : Int) ∧ j ≤ xs.length ∧ F.length ≤ j ∧ Ft w1.heap.size p w1 F wr) (fun i _ => xs.length - (intOf i).toNat)
  case atStart => exact ⟨0, [], rfl, Nat.zero_le _, Nat.le_refl _, HF0.out⟩
  case round =>
    obtain ⟨j, F, rfl, hj, hFj, hf⟩ := hrel
    have HF := Lib.hid hf
    clear hf
    by_cases hlt : j < xs.length
    · have hlt' : (j : Int) < (xs.length : Int) := by omega
      have HFd := Lib.hid (HF.out.below (Below.refl _ wr).drew)
      obtain ⟨a, c', ad, b, t, q, hv, hbtq, ht, hq, hx, hc0, hc1, hc2⟩ := HL1.out.at_ hlt
      injection hv with hv1 _ hv2
      subst hv1 hv2
      have HS := Lib.hid (chain_set HFd.out t q ht hq (by omega))
      obtain ⟨r, hr⟩ : ∃ r, setF F t q = r := ⟨_, rfl⟩
      have hFS := setF_len F t q
      rw [hr] at HS hFS
      have HFS := Lib.hid hFS
      have HCW := Lib.hid (fun W (hk : Below w1.heap.size w1 W) => (⟨pw_cell_below hk hc1, pw_cell_below hk hc2⟩ : W.cell? ⟨ad.block, ad.off + 1, none⟩ = some (.string (S t)) ∧ W.cell? ⟨ad.block, ad.off + 2, none⟩ = some (.string (S q))))
      clear hc0 hc1 hc2 hr HF hbtq hFS
      go_wp2_with fail
      refine wp_region_noPanic ?_
      refine wp_region_held_drew (S := fun W => W.cell? ⟨ad.block, ad.off + 1, none⟩ = some (.string (S t)) ∧ W.cell? ⟨ad.block, ad.off + 2, none⟩ = some (.string (S q))) (by kernel_rfl) (HCW.out _ HFd.out.bel) (fun hHeld => ?_)
      generalize wr.drew = Y5 at *
      refine held_take (i := 0) (v := ?_) rfl (by kernel_rfl) (by kernel_rfl) (by kernel_rfl) (fun _ _ _ h => h) (by rfl) hHeld ?y9_0 ?_
      case y9_0 => (intro w hSw; (try dsimp only at hSw); go_simp; try with_reducible rfl)
      try simp only [Act.put, List.setIfInBounds_toArray, List.set_cons_zero, List.set_cons_succ]
      refine held_take (i := 1) (v := ?_) rfl (by kernel_rfl) (by kernel_rfl) (by kernel_rfl) (fun _ _ _ h => h) (by rfl) hHeld ?y9_1 ?_
      case y9_1 => (intro w hSw; (try dsimp only at hSw); go_simp; try with_reducible rfl)
      try simp only [Act.put, List.setIfInBounds_toArray, List.set_cons_zero, List.set_cons_succ]
      refine held_take (i := 2) (v := ?_) rfl (by kernel_rfl) (by kernel_rfl) (by kernel_rfl) (fun _ _ _ h => h) (by rfl) hHeld ?y9_2 ?_
      case y9_2 => (intro w hSw; (try dsimp only at hSw); go_simp; try with_reducible rfl)
      try simp only [Act.put, List.setIfInBounds_toArray, List.set_cons_zero, List.set_cons_succ]
      refine held_take (i := 3) (v := ?_) rfl (by kernel_rfl) (by kernel_rfl) (by kernel_rfl) (fun _ _ _ h => h) (by rfl) hHeld ?y9_3 ?_
      case y9_3 => (intro w hSw; (try dsimp only at hSw); go_simp; try with_reducible rfl)
      try simp only [Act.put, List.setIfInBounds_toArray, List.set_cons_zero, List.set_cons_succ]
      refine held_take (i := 4) (v := ?_) rfl (by kernel_rfl) (by kernel_rfl) (by kernel_rfl) (fun _ _ _ h => h) (by rfl) hHeld ?y9_4 ?_
      case y9_4 => (intro w hSw; (try dsimp only at hSw); go_simp; try with_reducible rfl)
      try simp only [Act.put, List.setIfInBounds_toArray, List.set_cons_zero, List.set_cons_succ]
      refine held_take (i := 5) (v := ?_) rfl (by kernel_rfl) (by kernel_rfl) (by kernel_rfl) (fun _ _ _ h => h) (by rfl) hHeld ?y9_5 ?_
      case y9_5 => (intro w hSw; (try dsimp only at hSw); go_simp; try with_reducible rfl)
      try simp only [Act.put, List.setIfInBounds_toArray, List.set_cons_zero, List.set_cons_succ]
      refine held_take (i := 6) (v := ?_) rfl (by kernel_rfl) (by kernel_rfl) (by kernel_rfl) (fun _ _ _ h => h) (by rfl) hHeld ?y9_6 ?_
      case y9_6 => (intro w hSw; (try dsimp only at hSw); go_simp; try with_reducible rfl)
      try simp only [Act.put, List.setIfInBounds_toArray, List.set_cons_zero, List.set_cons_succ]
      refine held_take (i := 7) (v := ?_) rfl (by kernel_rfl) (by kernel_rfl) (by kernel_rfl) (fun _ _ _ h => h) (by rfl) hHeld ?y9_7 ?_
      case y9_7 => (intro w hSw; (try dsimp only at hSw); go_simp; try with_reducible rfl)
      try simp only [Act.put, List.setIfInBounds_toArray, List.set_cons_zero, List.set_cons_succ]
      refine held_take (i := 8) (v := ?_) rfl (by kernel_rfl) (by kernel_rfl) (by kernel_rfl) (fun _ _ _ h => h) (by rfl) hHeld ?y9_8 ?_
      case y9_8 => (intro w hSw; (try dsimp only at hSw); go_simp; try with_reducible rfl)
      try simp only [Act.put, List.setIfInBounds_toArray, List.set_cons_zero, List.set_cons_succ]
      refine held_take (i := 9) (v := ?_) rfl (by kernel_rfl) (by kernel_rfl) (by kernel_rfl) (fun _ _ _ h => h) (by rfl) hHeld ?y9_9 ?_
      case y9_9 => (intro w hSw; (try dsimp only at hSw); go_simp; try with_reducible rfl)
      try simp only [Act.put, List.setIfInBounds_toArray, List.set_cons_zero, List.set_cons_succ]
      refine held_take (i := 10) (v := ?_) rfl (by kernel_rfl) (by kernel_rfl) (by kernel_rfl) (fun _ _ _ h => h) (by rfl) hHeld ?y9_10 ?_
      case y9_10 => (intro w hSw; (try dsimp only at hSw); go_simp; try with_reducible rfl)
      try simp only [Act.put, List.setIfInBounds_toArray, List.set_cons_zero, List.set_cons_succ]
      refine held_one (i := 11) (by kernel_rfl) rfl (fun K hK => ?_)
      (refine step_call (by rfl) _ _ (by rfl) Tryz.func7 (by kernel_rfl) (by kernel_rfl) (by simp only [List.map_toArray, List.map_cons, List.map_nil]; rfl) (HS.out.mono ?_); rintro e w5 ⟨rfl, hf, -⟩; have hS11 := HCW.out _ hf.bel; refine ⟨_, rfl, ?_⟩)
      refine hK.out _ _ ?_ (fun hHeld => ?_)
      · exact hS11
      clear hK K
      try simp only [Act.put, List.setIfInBounds_toArray, List.set_cons_zero, List.set_cons_succ]
      refine wpAnyH_done (by kernel_rfl) ?_ _
      refine NoPanic.normal ?_

      have HF5 := Lib.hid hf
      clear HFd HS hS11 hHeld hf
      go_wp2_with fail
      go_roundw
      case rel => exact ⟨j + 1, r.2, by go_num, by omega, Nat.le_trans HFS.out (by omega), HF5.out⟩
      case measure => simp [intOf]; omega
    · have hge : ¬ (j : Int) < (xs.length : Int) := by omega
      have KA := Lib.hid (chain_all HF.out)
      have HRS := Lib.hid HF.out.rising
      have HKS : Hid (∀ x ∈ F.map (·.1), x.length ≤ 100) := Lib.hid (fun x hx => by
        obtain ⟨y, hy, rfl⟩ := List.mem_map.1 hx
        exact (HF.out.small y hy).1)
      have hfl : (F.map (·.1)).length ≤ 20 := by rw [List.length_map]; omega
      have hfm : F.length = (F.map (·.1)).length := by rw [List.length_map]
      have HFM := Lib.hid hfm
      clear hfm hFj
      go_wp2_with fail
      refine KA.out.mono ?_
      rintro e w4 ⟨va, rfl, ho, hb⟩
      have HF4 := Lib.hid (HF.out.below hb)
      obtain ⟨bk, hbk⟩ : ∃ bk, wr.heap.size = bk := ⟨_, rfl⟩
      rw [hbk] at ho
      have HO4 := Lib.hid ho
      clear ho hb KA HF hbk
      obtain ⟨ks, hks⟩ : ∃ ks, F.map (·.1) = ks := ⟨_, rfl⟩
      have HKM := Lib.hid hks
      rw [hks] at HO4 HKS hfl HFM
      clear hks
      obtain ⟨A4, c4, rfl, -⟩ := HO4.out.sl
      by_cases hk0 : ks.length = 0
      · have hk0' : ((ks.length : Int) == 0) = true := by rw [hk0]; rfl
        have HB9 := Lib.hid HF4.out.bel
        have hk0i : (ks.length : Int) = 0 := by omega
        go_wp2_with fail
        go_ret
        exact ⟨rfl, HB1.out.trans (HB9.out.mono HB1.out.size)⟩
      have hk0' : ((ks.length : Int) == 0) = false := by rw [beq_eq_false_iff_ne]; omega
      have hk0i : ¬ (ks.length : Int) = 0 := by omega
      obtain ⟨d, hd⟩ : ∃ d : Nat, ia % (ks.length : Int) = (d : Int) := ⟨(ia % (ks.length : Int)).toNat, by have := Int.emod_nonneg ia (b := (ks.length : Int)) (by omega); omega⟩
      have hdk : d < ks.length := by have := Int.emod_lt_of_pos ia (b := (ks.length : Int)) (by omega); omega
      obtain ⟨g, rfl, hx, hcell⟩ := HO4.out.at_ hdk
      have hcd := hcell _ (Below.refl _ _)
      obtain ⟨t, ht⟩ : ∃ t, ks[d] = t := ⟨_, rfl⟩
      rw [ht] at hcd
      have htl : t.length ≤ 100 := by rw [← ht]; exact HKS.out _ (List.getElem_mem hdk)
      have HTK : Hid (t ∈ F.map (·.1)) := Lib.hid (by rw [HKM.out, ← ht]; exact List.getElem_mem hdk)
      have KU := Lib.hid (chain_under HF4.out t)
      rw [underF_und, HKM.out] at KU
      have HTL := Lib.hid htl
      clear ht hcell htl hk0
      go_wp2_with fail
      refine KU.out.mono ?_
      rintro e w5 ⟨vu, rfl, ho, hb⟩
      obtain ⟨bu, hbu⟩ : ∃ bu, w4.heap.size = bu := ⟨_, rfl⟩
      have HF5 := Lib.hid (HF4.out.below hb)
      have HO5 := Lib.hid (HO4.out.below hb)
      rw [hbu] at ho
      have HU5 := Lib.hid ho
      clear ho hb hcd hx hd hdk KU HF4 HO4 hbu
      obtain ⟨us, hus⟩ : ∃ us, ks.filter (undB F t) = us := ⟨_, rfl⟩
      have HUS := Lib.hid hus
      have hul : us.length ≤ 20 := by have := List.length_filter_le (undB F t) ks; rw [hus] at this; omega
      rw [hus] at HU5
      clear hus
      obtain ⟨Au, cu, rfl, -⟩ := HU5.out.sl
      go_wp2_with fail
      go_loopw [10, 11] (fun n i wi => ∃ m n' : Nat, i = .int .i64 (m : Int) ∧ n = .int .i64 (n' : Int) ∧ m ≤ ks.length ∧ n' = ((ks.take m).filter (undB F t)).length ∧ OwnS wi bk (.slice (some ⟨g, 0, none⟩) ks.length c4) ks ∧ OwnS wi bu (.slice Au us.length cu) us ∧ Ft w1.heap.size p w1 F wi) (fun _ i _ => ks.length - (intOf i).toNat)
      case atStart => exact ⟨0, 0, rfl, rfl, Nat.zero_le _, rfl, HO5.out, HU5.out, HF5.out⟩
      case round =>
        obtain ⟨m, n', rfl, rfl, hm, hn', ho, hu, hf⟩ := hrel
        have HF6 := Lib.hid hf
        have HO6 := Lib.hid ho
        have HU6 := Lib.hid hu
        have HN := Lib.hid hn'
        have hnb : n' ≤ us.length := by rw [← HUS.out, hn']; exact filter_in _ _
        clear ho hf hu hn'
        by_cases hlm : m < ks.length
        · have hlm' : (m : Int) < (ks.length : Int) := by omega
          obtain ⟨g', hg', hx, hcell⟩ := HO6.out.at_ hlm
          injection hg' with hg'
          injection hg' with hg'
          subst hg'
          have hcx := hcell _ (Below.refl _ _)
          obtain ⟨o, ho⟩ : ∃ o, ks[m] = o := ⟨_, rfl⟩
          have HOK : Hid (ks[m]? = some o) := Lib.hid (by rw [List.getElem?_eq_getElem hlm, ho])
          have hol : o.length ≤ 100 := by rw [← ho]; exact HKS.out _ (List.getElem_mem hlm)
          rw [ho] at hcx
          obtain ⟨⟨cl, er⟩, hce⟩ : ∃ r, chainF F o = r := ⟨_, rfl⟩
          have KC := Lib.hid (chain_to HF6.out o (by omega) hce)
          have HCE := Lib.hid hce
          clear ho hol hce hcell
          obtain ⟨bc, hbc⟩ : ∃ bc, wr.heap.size = bc := ⟨_, rfl⟩
          by_cases he : er = 0
          · subst he
            obtain ⟨hr0, hr6, -, -⟩ := chainF_road HCE.out
            have hr0' : 0 < cl.length := (List.getElem?_eq_some_iff.1 hr0).1
            clear hr0
            go_wp2_with fail
            refine KC.out.mono ?_
            rintro e w7 ⟨A7, c7, rfl, ho, hb⟩
            have HF7 := Lib.hid (HF6.out.below hb)
            have HO7 := Lib.hid (HO6.out.below hb)
            have HU7 := Lib.hid (HU6.out.below hb)
            rw [hbc] at ho
            have HC7 := Lib.hid ho
            obtain ⟨g7, rfl, -, -⟩ := ho.at_ hr0'
            clear ho hb KC hcx hx
            go_wp2_with fail
            go_loopw [14, 15] (fun hs k wk => ∃ (k' : Nat) (b : Bool), k = .int .i64 (k' : Int) ∧ hs = .bool b ∧ 1 ≤ k' ∧ k' ≤ cl.length ∧ Hid (b = true ↔ ∃ j, 1 ≤ j ∧ j < k' ∧ cl[j]? = some t) ∧ OwnS wk bk (.slice (some ⟨g, 0, none⟩) ks.length c4) ks ∧ OwnS wk bu (.slice Au us.length cu) us ∧ OwnS wk bc (.slice (some ⟨g7, 0, none⟩) cl.length c7) cl ∧ Ft w1.heap.size p w1 F wk) (fun _ k _ => cl.length - (intOf k).toNat)
            case atStart => exact ⟨1, false, rfl, rfl, Nat.le_refl _, hr0', Lib.hid (no_between t cl), HO7.out, HU7.out, HC7.out, HF7.out⟩
            case round =>
              obtain ⟨k, b, rfl, rfl, hk1, hk, HB, ho, hu, hc, hf⟩ := hrel
              have HF8 := Lib.hid hf
              have HO8 := Lib.hid ho
              have HU8 := Lib.hid hu
              have HC8 := Lib.hid hc
              clear ho hf hu hc
              by_cases hlk : k < cl.length
              · have hlk' : (k : Int) < (cl.length : Int) := by omega
                obtain ⟨g', hg', hx, hcell⟩ := HC8.out.at_ hlk
                injection hg' with hg'
                injection hg' with hg'
                subst hg'
                have hck := hcell _ (Below.refl _ _)
                obtain ⟨y, hy⟩ : ∃ y, cl[k] = y := ⟨_, rfl⟩
                rw [hy] at hck
                have HY : Hid (cl[k]? = some y) := Lib.hid (by rw [List.getElem?_eq_getElem hlk, hy])
                have hs := S_eq y t
                obtain ⟨q, hq⟩ : ∃ q, decide (y = t) = q := ⟨_, rfl⟩
                rw [hq] at hs
                have HQ := Lib.hid hq
                clear hcell hy hq
                have HNX : Hid (∀ b2 : Bool, b2 = (b || q) → (b2 = true ↔ ∃ j, 1 ≤ j ∧ j < k + 1 ∧ cl[j]? = some t)) := Lib.hid (fun b2 hb2 => by
                  subst hb2
                  rw [Bool.or_eq_true, HB.out, ← HQ.out, decide_eq_true_eq]
                  constructor
                  · rintro (⟨j, h1, h2, h3⟩ | h)
                    · exact ⟨j, h1, by omega, h3⟩
                    · exact ⟨k, hk1, by omega, by rw [HY.out, h]⟩
                  · rintro ⟨j, h1, h2, h3⟩
                    by_cases hjk : j < k
                    · exact .inl ⟨j, h1, hjk, h3⟩
                    · obtain rfl : j = k := by omega
                      rw [HY.out] at h3
                      injection h3 with h3
                      exact .inr h3)
                cases b with
                | true =>
                  clear hck hs hx
                  go_wp2_with fail
                  go_roundw
                  case rel => exact ⟨k + 1, true, by go_num, rfl, by omega, by omega, Lib.hid (HNX.out true rfl), HO8.out, HU8.out, HC8.out, HF8.out⟩
                  case measure => simp [intOf]; omega
                | false =>
                  go_wp2_with fail
                  go_roundw
                  case rel => exact ⟨k + 1, q, by go_num, rfl, by omega, by omega, Lib.hid (HNX.out q rfl), HO8.out, HU8.out, HC8.out, HF8.out⟩
                  case measure => simp [intOf]; omega
              · have hge : ¬ (k : Int) < (cl.length : Int) := by omega
                have HUB : Hid (undB F t o = b) := Lib.hid (undB_has HCE.out (HB.out.trans ⟨fun ⟨j, h1, _, h3⟩ => ⟨j, h1, h3⟩, fun ⟨j, h1, h3⟩ => ⟨j, h1, by have := (List.getElem?_eq_some_iff.1 h3).1; omega, h3⟩⟩))
                cases b with
                | false =>
                  have hn3 := filter_skip HOK.out HUB.out
                  rw [← HN.out] at hn3
                  have HN3 := Lib.hid hn3
                  clear hn3
                  go_wp2_with fail
                  go_roundw
                  case rel => exact ⟨m + 1, n', by go_num, rfl, hlm, HN3.out.symm, HO8.out, HU8.out, HF8.out⟩
                  case measure => simp [intOf]; omega
                | true =>
                  obtain ⟨hf1, hf2⟩ := filter_at HOK.out HUB.out
                  rw [← HN.out, HUS.out] at hf1
                  rw [← HN.out] at hf2
                  have hnu : n' < us.length := (List.getElem?_eq_some_iff.1 hf1).1
                  have HN3 := Lib.hid hf2
                  obtain ⟨gu, rfl, hxu, hcellu⟩ := HU8.out.at_ hnu
                  have hcu := hcellu _ (Below.refl _ _)
                  obtain ⟨g', hg', hx, hcell⟩ := HO8.out.at_ hlm
                  injection hg' with hg'
                  injection hg' with hg'
                  subst hg'
                  have hco := hcell _ (Below.refl _ _)
                  have e1 : us[n'] = o := by
                    rw [List.getElem?_eq_getElem hnu] at hf1
                    injection hf1
                  have e2 : ks[m] = o := by
                    have := HOK.out
                    rw [List.getElem?_eq_getElem hlm] at this
                    injection this
                  rw [e1] at hcu
                  rw [e2] at hco
                  have hs := S_eq o o
                  rw [decide_eq_true rfl] at hs
                  have hnu' : ¬ (us.length : Int) ≤ (n' : Int) := by omega
                  clear hf1 hf2 hcell hcellu e1 e2
                  go_wp2_with fail
                  go_quiet (fail)
                  all_goals go_wp2_with fail
                  go_roundw
                  case rel => exact ⟨m + 1, n' + 1, by go_num, by go_num, hlm, HN3.out.symm, HO8.out.below (pw_below_drewN (Below.refl _ _) _), HU8.out.below (pw_below_drewN (Below.refl _ _) _), HF8.out.below (pw_below_drewN (Below.refl _ _) _)⟩
                  case measure => simp [intOf]; omega
          · have he' : (er == 0) = false := by rw [beq_eq_false_iff_ne]; exact he
            have HN3 : Hid (n' = ((ks.take (m + 1)).filter (undB F t)).length) := Lib.hid (by
              rw [HN.out]
              exact (filter_skip HOK.out (undB_err (by rw [HCE.out]; exact he))).symm)
            clear he
            go_wp2_with fail
            refine KC.out.mono ?_
            rintro e w7 ⟨A7, c7, rfl, ho, hb⟩
            have HF7 := Lib.hid (HF6.out.below hb)
            have HO7 := Lib.hid (HO6.out.below hb)
            have HU7 := Lib.hid (HU6.out.below hb)
            clear ho hb KC hcx hx
            go_wp2_with fail
            go_loopw [14, 15] (fun hs k wk => hs = .bool false ∧ k = .int .i64 1 ∧ OwnS wk bk (.slice (some ⟨g, 0, none⟩) ks.length c4) ks ∧ OwnS wk bu (.slice Au us.length cu) us ∧ Ft w1.heap.size p w1 F wk) (fun _ _ _ => 0)
            case atStart => exact ⟨rfl, rfl, HO7.out, HU7.out, HF7.out⟩
            case round =>
              obtain ⟨rfl, rfl, ho, hu, hf⟩ := hrel
              have HF8 := Lib.hid hf
              have HO8 := Lib.hid ho
              have HU8 := Lib.hid hu
              clear ho hf hu
              go_wp2_with fail
              go_roundw
              case rel => exact ⟨m + 1, n', by go_num, rfl, hlm, HN3.out, HO8.out, HU8.out, HF8.out⟩
              case measure => simp [intOf]; omega
        · have hge : ¬ (m : Int) < (ks.length : Int) := by omega
          obtain rfl : m = ks.length := by omega
          have hn2 : n' = us.length := by rw [HN.out, ← HUS.out, List.take_length]
          subst hn2
          have KY := Lib.hid (chain_copy HF6.out)
          have HDR : Hid (dropF F t = (0, fdel F t)) := Lib.hid (if_pos (key_in HTK.out))
          have HDR2 : Hid (dropF (fdel F t) t = (240, fdel F t)) := Lib.hid (if_neg (by rw [flk_del]; decide))
          have HB9 := Lib.hid HF6.out.bel
          clear hge
          go_wp2_with fail
          refine KY.out.mono ?_
          rintro e w7 ⟨q, rfl, hfq⟩
          have HF7 := Lib.hid (HF6.out.below hfq.bel)
          have KD := Lib.hid (drop_as hfq t (by have := HTL.out; omega) HDR.out rfl)
          have HBI := Lib.hid (HF6.out.base)
          have HBQ := Lib.hid (fun W (hb : Below wr.heap.size wr W) => HF6.out.below hb)
          clear hfq KY
          go_wp2_with fail
          refine KD.out.mono ?_
          rintro e w8 ⟨rfl, hfq⟩
          have HQ8 := Lib.hid hfq
          have HF8 := Lib.hid (HBQ.out _ hfq.bel)
          have KH := Lib.hid (has_as HF8.out t (by have := HTL.out; omega) (key_in HTK.out))
          clear hfq KD
          go_wp2_with fail
          refine KH.out.mono ?_
          rintro e w9 ⟨rfl, hb⟩
          have HQ9 := Lib.hid (HQ8.out.below hb)
          have HF9 := Lib.hid (HF8.out.below hb)
          have KH2 := Lib.hid (has_as HQ9.out t (by have := HTL.out; omega) (b := false) (by rw [flk_del]; rfl))
          clear hb KH
          go_wp2_with fail
          refine KH2.out.mono ?_
          rintro e w10 ⟨rfl, hb⟩
          have HQ10 := Lib.hid (HQ9.out.below hb)
          have HF10 := Lib.hid (HF9.out.below hb)
          obtain ⟨n0, hn0⟩ : ∃ n0, F.length = n0 := ⟨_, rfl⟩
          obtain ⟨n1, hn1⟩ : ∃ n1, (fdel F t).length = n1 := ⟨_, rfl⟩
          have h01 : (n0 : Int) = (n1 : Int) + 1 := by
            have := fdel_one HRS.out HTK.out
            omega
          have h01' : ((n0 : Int) == (n1 : Int) + 1) = true := by rw [h01]; simp
          have hn1b : n1 ≤ 20 := by have := fdel_one HRS.out HTK.out; have := HFM.out; omega
          have KA1 := Lib.hid (all_len HF10.out hn0)
          have KA2 := Lib.hid (fun W (h : Ft wr.heap.size q wr (fdel F t) W) => all_len h hn1)
          clear hb KH2 hn0 hn1
          go_wp2_with fail
          refine KA1.out.mono ?_
          rintro e w11 ⟨A11, c11, rfl, hb⟩
          have HQ11 := Lib.hid (HQ10.out.below hb)
          have HF11 := Lib.hid (HF10.out.below hb)
          clear hb KA1
          go_wp2_with fail
          refine (KA2.out _ HQ11.out).mono ?_
          rintro e w12 ⟨A12, c12, rfl, hb⟩
          have HQ12 := Lib.hid (HQ11.out.below hb)
          have KD2 := Lib.hid (drop_as HQ12.out t (by have := HTL.out; omega) HDR2.out rfl)
          clear hb KA2
          go_wp2_with fail
          refine KD2.out.mono ?_
          rintro e w13 ⟨rfl, hfq⟩
          have HBZ := Lib.hid (HB9.out.trans (hfq.bel.mono HBI.out |> fun h => h.mono (Nat.le_refl _)))
          clear hfq KD2
          go_wp2_with fail
          go_ret
          exact ⟨rfl, HB1.out.trans (HBZ.out.mono HB1.out.size)⟩
end Go.Proofs.YthgjpppbpgndcaaGreatDoor
