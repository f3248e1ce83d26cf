import Derived.Test.YtmdecbockpgagaaWalTorn
/- hornbooklaw22.WalTorn. -/
namespace Go.Proofs.Ytmdecbockpgagaa
open Go.RowKit Go.Maps Go.Proofs.YtmdecbockpgagaaW.PrintWords Go.Proofs.YtmdecbockpgagaaW.PrintMore
variable {B p lb : Nat} {w0 : World} {G : DG} {d : DS} {w w' : World} {nm : Nm} {ng : Int} {br : Bool}

theorem Far.rdr {G : DG} {d : DS} {w w0 : World} {v : Value} {rs : List Rc} (h : At w0.heap.size G d w) (hv : RdR w0 v rs) : Far G v := fun a n c2 he hh => by
  obtain ⟨A, c, rfl, hc, hm, hr⟩ := hv
  injection he with e1 e2 e3
  obtain ⟨a', e4, hx⟩ := hr (by omega)
  rw [e1] at e4
  cases e4
  obtain ⟨h1, -, -⟩ := hx 0 _ (List.getElem?_eq_getElem (by omega))
  have h2 := World.block_lt_of_cell? w0 _ h1
  rw [add_block] at h2
  have := (h.has_lt hh).1
  omega
/-- A file of whatever bytes, under the log's name. -/
theorem torn_made (q : Int) (b : List Int) (hq : (b.length : Int) ≤ q) (hm : b.length ≤ 400000) : ∃ d1 d2 d3 d4 : DS, (newD q).create lgN = (0, d1) ∧ d1.append lgN b = (0, d2) ∧ d2.sync lgN = (0, d3) ∧ d3.syncDir = (0, d4) ∧ IsLog q 4 b d4 ∧
    d1.steps = 1 ∧ d2.steps = 2 ∧ d3.steps = 3 ∧ d1.quota = q := by
  have h1 : (newD q).create lgN = (0, ld q 1 0 0 0 [⟨[], 0⟩] [] [⟨some 0, [], lgN⟩]) := rfl
  have h2 := ld_append (q := q) (st := 1) (fa := 0) (oa := 0) (i := 0) (fs := [⟨[], 0⟩]) (k := 0) (b := []) (kp := []) (si := [⟨some 0, [], lgN⟩]) b rfl (by simp; omega) (by simp; omega)
  rw [if_pos (cd_zero _)] at h2
  have h3 := ld_sync (q := q) (st := 2) (fa := 0) (oa := 0) (i := 0) (fs := [⟨b, 0⟩]) (k := 0) (b := b) (kp := []) (si := [⟨some 0, [], lgN⟩]) rfl
  rw [if_pos (cd_zero _)] at h3
  have h4 := ld_syncDir (q := q) (st := 3) (fa := 0) (oa := 0) (i := 0) (fs := [⟨b, b.length⟩]) (kp := []) (si := [⟨some 0, [], lgN⟩])
  rw [if_pos (cd_zero _)] at h4
  exact ⟨_, _, _, _, h1, h2, h3, h4, ⟨0, _, rfl, rfl⟩, rfl, rfl, rfl, rfl⟩
set_option maxRecDepth 100000 in
set_option maxHeartbeats 8000000 in
theorem walTorn_walk (v1 : Value) (bs : List Int) (v2 : Value) (g : List Rc) (v3 : Value) (cs : List Int) (w : World) (hv1 : RdB w v1 bs) (hby : By bs) (_hz1 : bs.length ≤ 140737488351232) (hv2 : RdR w v2 g) (hfit : Fits g) (hv3 : RdB w v3 cs) (hcs : By cs) (_hz3 : cs.length ≤ 140737488351232) :
    Calls Try.prog 4 #[v1, v2, v3] w fun e w' => e = .returned (.bool true) ∧ Below w.heap.size w w' := by
  have K0 := Lib.hid (law22_known w)
  have HV1 := Lib.hid hv1
  have HV2 := Lib.hid hv2
  have HV3' := Lib.hid hv3
  have HBY := Lib.hid hby
  have HFI := Lib.hid hfit
  have HCS := Lib.hid hcs
  obtain ⟨A1, c1, rfl, -, -⟩ := hv1
  obtain ⟨A2, c2, rfl, -, -, -⟩ := hv2
  obtain ⟨A3, c3, rfl, -, -⟩ := hv3
  clear hby hfit hcs
  by_cases h2000 : 2000 < bs.length
  · have h2000' : (2000 : Int) < (bs.length : Int) := by omega
    go_enter Try.func4, Try.ntmps4
    go_wp2_with fail
    refine K0.out.mono ?_
    rintro e w1 ⟨rfl, hb1⟩
    have HB1 := Lib.hid hb1
    clear hb1 K0
    go_wp2_with fail
    go_ret
    exact ⟨rfl, HB1.out⟩
  have h2000' : ¬ (2000 : Int) < (bs.length : Int) := by omega
  go_enter Try.func4, Try.ntmps4
  go_wp2_with fail
  refine K0.out.mono ?_
  rintro e w0 ⟨rfl, hb0⟩
  have HB0 := Lib.hid hb0
  have KF := Lib.hid (law22_few _ g w0 (HV2.out.below hb0) HFI.out)
  clear hb0 K0
  go_wp2_with fail
  refine KF.out.mono ?_
  rintro e w1 ⟨rfl, hb1⟩
  have HB1 := Lib.hid (HB0.out.trans (hb1.mono HB0.out.size))
  clear hb1 KF HB0
  cases hfe : fewB g with
  | false =>
    go_wp2_with fail
    go_ret
    exact ⟨rfl, HB1.out⟩
  | true =>
    by_cases h10 : 10 < cs.length
    · have h10' : (10 : Int) < (cs.length : Int) := by omega
      go_wp2_with fail
      go_ret
      exact ⟨rfl, HB1.out⟩
    have h10' : ¬ (10 : Int) < (cs.length : Int) := by omega
    have HV11 := Lib.hid (RdB.below HV1.out HB1.out)
    have HV21 := Lib.hid (HV2.out.below HB1.out)
    have HV3 := Lib.hid (RdB.below HV3'.out HB1.out)
    have K1 := Lib.hid (k_new w1 100000)
    obtain ⟨d1, d2, d3, d4, m1, m2, m3, m4, mil, s1, s2, s3, q1⟩ := torn_made 100000 bs (by omega) (by omega)
    have M1 := Lib.hid m1
    have M2 := Lib.hid m2
    have M3 := Lib.hid m3
    have M4 := Lib.hid m4
    have HIL4 := Lib.hid mil
    have S1 := Lib.hid s1
    have S2 := Lib.hid s2
    have S3 := Lib.hid s3
    have Q1 := Lib.hid q1
    clear m1 m2 m3 m4 mil s1 s2 s3 q1 HV1 HV2 HV3' hfe
    go_wp2_with fail
    refine K1.out.mono ?_
    rintro e w2 ⟨p, G0, rfl, hp, hk⟩
    have KA := k_create hk (by show (0 : Int) < 1000000000; omega) lgN (by decide)
    rw [M1.out] at KA
    have HKA := Lib.hid KA
    clear KA hk hp K1
    go_wp2_with fail
    refine HKA.out.mono ?_
    rintro e w3 ⟨rfl, G3, hk3, -⟩
    have KA := k_append hk3 (by rw [S1.out]; omega) lgN (by decide) bs HBY.out (.slice A1 bs.length c1) (RdB.below HV11.out hk3.bel) (Far.old hk3.at_ HV11.out) (by rw [Q1.out]; omega)
    rw [M2.out] at KA
    have HKB := Lib.hid KA
    clear KA hk3 HKA
    go_wp2_with fail
    refine HKB.out.mono ?_
    rintro e w4 ⟨rfl, G4, hk4, -⟩
    have KA := k_sync hk4 (by rw [S2.out]; omega) lgN (by decide)
    rw [M3.out] at KA
    have HKC := Lib.hid KA
    clear KA hk4 HKB
    go_wp2_with fail
    refine HKC.out.mono ?_
    rintro e w5 ⟨rfl, G5, hk5, -⟩
    have KA := k_syncDir hk5 (by rw [S3.out]; omega)
    rw [M4.out] at KA
    have HKD := Lib.hid KA
    clear KA hk5 HKC
    go_wp2_with fail
    refine HKD.out.mono ?_
    rintro e w6 ⟨rfl, G6, hk6, -⟩
    have HD6 : Hid (Dk w1.heap.size p w1 G6 d4 w6) := Lib.hid hk6
    obtain ⟨hte, hga, hle⟩ := take_end HBY.out
    have KG := wal_groups (.slice A1 bs.length c1) bs w6 (RdB.below HV11.out hk6.bel) HBY.out (by omega)
    unfold GrpP at KG
    obtain ⟨ge, hge⟩ : ∃ ge, endOf bs = ge := ⟨_, rfl⟩
    obtain ⟨gs, hgs⟩ : ∃ gs, gsOf bs = gs := ⟨_, rfl⟩
    rw [hgs] at KG hte hga
    have hgl : gs.length ≤ 2000 := by
      have := gB_many bs
      rw [← hgs]
      unfold gsOf
      rw [List.length_map]
      omega
    have hcl : (catG gs).length ≤ 2000 := by rw [← hte, List.length_take]; omega
    obtain ⟨d7, st7, hst7, h7, hil7⟩ := HIL4.out.loose.opens (by omega) (by omega) hle
    rw [hte] at hil7
    have KO := fun (w' : World) (G' : DG) (hd : Dk w1.heap.size p w1 G' d4 w') => wal_openF hd (by rw [HIL4.out.steps.1]; omega) (nm := lgN) (by decide) (by decide) (by rw [HIL4.out.steps.2]; omega)
    rw [h7, HIL4.out.read] at KO
    dsimp only at KO
    rw [hgs] at KO
    rw [hge] at KG
    have HKG := Lib.hid KG
    have HKO := Lib.hid KO
    have HIL7 := Lib.hid hil7
    have HGS := Lib.hid hga
    have HGL := Lib.hid hgl
    have HCL := Lib.hid hcl
    have HST7 := Lib.hid hst7
    clear KG KO hk6 HKD hte hga hle hge hgs hgl hcl h7 hil7 hst7 M1 M2 M3 M4 S1 S2 S3 Q1
    go_wp2_with fail
    refine HKG.out.mono ?_
    rintro e w7 ⟨v7, rfl, hg7, hb7⟩
    have HO7 := Lib.hid (OwnA.new HD6.out.at_ (Nat.le_refl _) hg7)
    obtain ⟨A7, c7, rfl⟩ := HO7.out.sl
    have K8 := Lib.hid (HKO.out w7 G6 (HD6.out.below hb7))
    clear hg7 hb7 HKG HKO
    go_wp2_with fail
    refine K8.out.mono ?_
    rintro e w8 (⟨-, v8, lb, G8, rfl, -, hls, hag, ht⟩ | ⟨hno, -⟩)
    case inr => exact absurd rfl hno
    have HL8 : Hid (Ls w1.heap.size p lb w1 G8 d7 lgN (gs.length : Int) false w8) := Lib.hid hls
    have HO8 := Lib.hid (HO7.out.tr ht)
    have HRA : Hid (∀ g ∈ gs, g.length ≤ 9223372036854775807) := Lib.hid (fun g hg => by have := groupB_len (HGS.out g hg); omega)
    have KG := Lib.hid (law22_groups _ _ gs gs w8 (hag.rdG HRA.out) (HO8.out.rdG HRA.out) (by have := HGL.out; omega))
    rw [decide_eq_true rfl] at KG
    obtain ⟨A8, c8, rfl⟩ := hag.sl
    clear hls hag ht K8 HO7 HD6
    go_wp2_with fail
    refine KG.out.mono ?_
    rintro e w9 ⟨rfl, hb9⟩
    have HL9 := Lib.hid (HL8.out.below hb9)
    have HO9 := Lib.hid (HO8.out.tr (Tr.of_below hb9 G8))
    have KB := Lib.hid (wal_broken lb lgN (gs.length : Int) false w9 HL9.out.lg)
    clear hb9 KG HL8 HO8
    go_wp2_with fail
    refine KB.out.mono ?_
    rintro e w10 ⟨rfl, rfl⟩
    clear KB
    have HR10 := Lib.hid (HV21.out.below HL9.out.dk.bel)
    have HFG : Hid (∀ G' W', At w1.heap.size G' d7 W' → True) := Lib.hid (fun _ _ _ => trivial)
    clear HFG
    cases hgg : groupB g with
    | true =>
      have hmx := enc_max' g
      obtain ⟨d11, h11, hil11⟩ := HIL7.out.append g (by have := HCL.out; omega) (by have := HCL.out; omega)
      obtain ⟨hs, hhs⟩ : ∃ hs, gs ++ [g] = hs := ⟨_, rfl⟩
      have hcs' : catG gs ++ encG g = catG hs := by rw [← hhs]; exact (catG_snoc gs g).symm
      rw [hcs'] at hil11
      have KA := wal_append HL9.out (by rw [HIL7.out.steps.1]; have := HST7.out; omega) (by decide) HR10.out (Far.rdr HL9.out.dk.at_ HV21.out) hgg (by rw [HIL7.out.steps.2]; omega) (by have := HGL.out; omega)
      rw [h11] at KA
      have HKA := Lib.hid KA
      have HIL : Hid (IsLog 100000 (st7 + 2) (catG hs) d11) := Lib.hid hil11
      have HGA : Hid (∀ x ∈ hs, groupB x = true) := Lib.hid (fun x hx => by
        rw [← hhs] at hx
        rcases List.mem_append.1 hx with h | h
        · exact HGS.out x h
        · rw [List.mem_singleton] at h; rw [h]; exact hgg)
      have HLN : Hid ((catG hs).length ≤ 43070) := Lib.hid (by rw [← hhs, catG_snoc, List.length_append]; have := HCL.out; omega)
      have HLM : Hid (hs.length ≤ 2001) := Lib.hid (by rw [← hhs, List.length_append]; have := HGL.out; simp; omega)
      have HST : Hid (((st7 + 2 : Nat) : Int) + 30 < 1000000000) := Lib.hid (by have := HST7.out; omega)
      clear hmx hil11 hcs' KA h11
      go_wp2_with fail
      refine HKA.out.mono ?_
      rintro e w11 ⟨rfl, G11, hls, hlt⟩
      have HD11 : Hid (Dk w1.heap.size p w1 G11 d11 w11) := Lib.hid hls.dk
      have HO11 := Lib.hid (HO9.out.lt HL9.out.lg hlt)
      obtain ⟨us, hsl1, hsl2, -⟩ := HO11.out
      have hcap : gs.length ≤ c7 := by
        rcases hsl2.2 with ⟨he, h0⟩ | ⟨g', cap, cur, he, _, _, hc, _⟩
        · injection he with _ e2 e3
          omega
        · injection he with _ e2 e3
          omega
      have hsf := slice_full A7 gs.length c7 hcap
      have HRF : Hid (RdF G11 w11 (.slice A7 gs.length gs.length) gs) := Lib.hid (HO11.out.rdF HRA.out).cap
      have hap := full_append (y := .slice A2 g.length c2) HRF.out HD11.out.at_ (HV21.out.below HD11.out.bel) (Far.rdr HD11.out.at_ HV21.out) (by have := HGL.out; omega)
      rw [hhs] at hap
      have HAP := Lib.hid hap
      clear hls hlt hsl1 hsl2 HKA HL9 HO9 HR10 HO11 hcap hap hhs hgg
      go_wp2_with (at_builtin; (obtain ⟨va, wa, hrun, hrfa, hba⟩ := HAP.out 27); refine wpList_append_run rfl _ _ 27 rfl _ _ va rfl rfl hrun ?_; have HRFA := Lib.hid hrfa; have HBA := Lib.hid hba; obtain ⟨Aa, ca, hva⟩ := hrfa.sl; subst hva; clear hrun hrfa hba)
      have HWc : Hid (RdF G11 wa _ hs) := HRFA
      have HDc := Lib.hid (HD11.out.below HBA.out)
      clear HRFA HAP HRF HD11 HBA hsf
      have KC := Lib.hid (k_crash HDc.out (.slice A3 cs.length c3) cs (RdB.below HV3.out HDc.out.bel) HCS.out (Far.old HDc.out.at_ HV3.out))
      refine KC.out.mono ?_
      rintro e wx ⟨⟨uc, rfl⟩, Gx, hd, ht⟩
      rw [HIL.out.crash cs] at hd
      have HWx := Lib.hid (HWc.out.tr ht)
      obtain ⟨c1, c2, c3'⟩ := take_end (catG_by hs)
      obtain ⟨d9, st9, -, h9, -⟩ := HIL.out.loose.opens (by have := HLN.out; omega) (by have := HLN.out; omega) c3'
      have KO := wal_openF hd (by rw [HIL.out.steps.1]; have := HST.out; omega) (nm := lgN) (by decide) (by decide) (by rw [HIL.out.steps.2]; omega)
      rw [h9, HIL.out.read] at KO
      dsimp only at KO
      rw [(gB_cat hs HGA.out).1] at KO
      have HKO := Lib.hid KO
      clear KO hd ht KC HDc c1 c2 c3' h9
      go_wp2_with fail
      refine HKO.out.mono ?_
      rintro e w9 (⟨-, v9, lb9, G9, rfl, -, hls9, hag9, ht9⟩ | ⟨hno, -⟩)
      case inr => exact absurd rfl hno
      have HWy := Lib.hid (HWx.out.tr ht9)
      have hm9 : ∀ g ∈ hs, g.length ≤ 9223372036854775807 := fun g hg => by have := groupB_len (HGA.out g hg); omega
      have hrf := hag9.rdF hm9
      have HBL9 := Lib.hid hls9.dk.bel
      have KG := Lib.hid (law22_groups _ _ hs hs w9 hrf.rdG HWy.out.rdG (by have := HLM.out; omega))
      rw [decide_eq_true rfl] at KG
      obtain ⟨Ay, cy, rfl⟩ := hag9.sl
      obtain ⟨Az, cz, hz⟩ := HWy.out.sl
      (try subst hz)
      clear hls9 hag9 ht9 HKO hrf hm9
      go_wp2_with fail
      refine KG.out.mono ?_
      rintro e wz ⟨rfl, hbz⟩
      have HBZ := Lib.hid hbz
      clear hbz KG
      go_wp2_with fail
      go_ret
      exact ⟨rfl, HB1.out.trans ((HBL9.out.trans (HBZ.out.mono HBL9.out.size)).mono HB1.out.size)⟩
    | false =>
      have KA := Lib.hid (wal_append_no HL9.out HR10.out hgg)
      go_wp2_with fail
      refine KA.out.mono ?_
      rintro e w11 ⟨rfl, hb11⟩
      have HDc := Lib.hid (HL9.out.below hb11).dk
      have HWc := Lib.hid ((HO9.out.tr (Tr.of_below hb11 G8)).rdF HRA.out)
      have HIL := Lib.hid HIL7.out
      have HGA := Lib.hid HGS.out
      have HLN : Hid ((catG gs).length ≤ 43070) := Lib.hid (by have := HCL.out; omega)
      have HLM : Hid (gs.length ≤ 2001) := Lib.hid (by have := HGL.out; omega)
      have HST : Hid ((st7 : Int) + 30 < 1000000000) := Lib.hid (by have := HST7.out; omega)
      clear hb11 KA HL9 HO9 HR10
      have KC := Lib.hid (k_crash HDc.out (.slice A3 cs.length c3) cs (RdB.below HV3.out HDc.out.bel) HCS.out (Far.old HDc.out.at_ HV3.out))
      go_wp2_with fail
      refine KC.out.mono ?_
      rintro e wx ⟨⟨uc, rfl⟩, Gx, hd, ht⟩
      rw [HIL.out.crash cs] at hd
      have HWx := Lib.hid (HWc.out.tr ht)
      obtain ⟨c1, c2, c3'⟩ := take_end (catG_by gs)
      obtain ⟨d9, st9, -, h9, -⟩ := HIL.out.loose.opens (by have := HLN.out; omega) (by have := HLN.out; omega) c3'
      have KO := wal_openF hd (by rw [HIL.out.steps.1]; have := HST.out; omega) (nm := lgN) (by decide) (by decide) (by rw [HIL.out.steps.2]; omega)
      rw [h9, HIL.out.read] at KO
      dsimp only at KO
      rw [(gB_cat gs HGA.out).1] at KO
      have HKO := Lib.hid KO
      clear KO hd ht KC HDc c1 c2 c3' h9
      go_wp2_with fail
      refine HKO.out.mono ?_
      rintro e w9 (⟨-, v9, lb9, G9, rfl, -, hls9, hag9, ht9⟩ | ⟨hno, -⟩)
      case inr => exact absurd rfl hno
      have HWy := Lib.hid (HWx.out.tr ht9)
      have hm9 : ∀ g ∈ gs, g.length ≤ 9223372036854775807 := fun g hg => by have := groupB_len (HGA.out g hg); omega
      have hrf := hag9.rdF hm9
      have HBL9 := Lib.hid hls9.dk.bel
      have KG := Lib.hid (law22_groups _ _ gs gs w9 hrf.rdG HWy.out.rdG (by have := HLM.out; omega))
      rw [decide_eq_true rfl] at KG
      obtain ⟨Ay, cy, rfl⟩ := hag9.sl
      obtain ⟨Az, cz, hz⟩ := HWy.out.sl
      (try subst hz)
      clear hls9 hag9 ht9 HKO hrf hm9
      go_wp2_with fail
      refine KG.out.mono ?_
      rintro e wz ⟨rfl, hbz⟩
      have HBZ := Lib.hid hbz
      clear hbz KG
      go_wp2_with fail
      go_ret
      exact ⟨rfl, HB1.out.trans ((HBL9.out.trans (HBZ.out.mono HBL9.out.size)).mono HB1.out.size)⟩
end Go.Proofs.Ytmdecbockpgagaa
