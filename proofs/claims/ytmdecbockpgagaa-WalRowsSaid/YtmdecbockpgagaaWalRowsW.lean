import Derived.Test.YtmdecbockpgagaaWalRows
/- hornbooklaw22.WalRows. -/
namespace Go.Proofs.Ytmdecbockpgagaa
open Go.RowKit Go.Maps Go.Proofs.YtmdecbockpgagaaW.PrintWords Go.Proofs.YtmdecbockpgagaaW.PrintMore
variable {w w' : World}

theorem info64w : (Try.prog.info? 3).map (fun i => (i.zero, i.size, i.bytes)) = some (some (.int .i64 0), 1, 8) := by kernel_rfl
theorem rd_oneI (W : World) (x : Int) (t : TypeId) : ReadsInt (W.alloc (.cells #[.int .i64 x] t)) .i64 (some ⟨W.heap.size, 0, none⟩) 1 [x] :=
  ⟨rfl, by decide, fun _ => ⟨_, rfl, fun j hj => by
    obtain rfl : j = 0 := by simpa using hj
    exact cell_one_new W _ t 0 _ rfl⟩⟩
/-- The rows that WalRows lays. -/
structure WR (w1 : World) (gs : List (List Rc)) (k : Nat) (vb ve vw : Value) (W : World) : Prop where
  b : W.ownsRow w1.heap.size 5 1 vb (catG (okG (gs.take k))).length (nums .u8 (catG (okG (gs.take k))))
  e : W.ownsRow w1.heap.size 3 1 ve (endsL (okG (gs.take k))).length (nums .i64 (endsL (okG (gs.take k))))
  v : OwnV w1 W w1.heap.size vw (okG (gs.take k))
  bel : Below w1.heap.size w1 W
variable {w1 : World} {gs : List (List Rc)} {k : Nat} {vb ve vw : Value} {W : World}
theorem WR.below (h : WR w1 gs k vb ve vw W) {W2 : World} (hb : Below W.heap.size W W2) : WR w1 gs k vb ve vw W2 :=
  ⟨pw_own_below h.b hb, pw_own_below h.e hb, h.v.below hb, h.bel.trans (hb.mono h.bel.size)⟩
theorem WR.skip (h : WR w1 gs k vb ve vw W) (he : okG (gs.take (k + 1)) = okG (gs.take k)) : WR w1 gs (k + 1) vb ve vw W := by
  obtain ⟨h1, h2, h3, h4⟩ := h
  rw [← he] at h1 h2 h3
  exact ⟨h1, h2, h3, h4⟩
theorem okt_len (gs : List (List Rc)) (k : Nat) : (okG (gs.take k)).length ≤ gs.length := by
  have := okG_len (gs.take k)
  rw [List.length_take] at this
  omega
set_option maxRecDepth 100000 in
set_option maxHeartbeats 4000000 in
theorem walRows_walk (v : Value) (gs : List (List Rc)) (a : Int) (w : World) (hv : RdGs w v gs) (hfit : ∀ g ∈ gs, Fits g) (ha : 0 ≤ a ∧ a < 65536) :
    Calls Try.prog 5 #[v, .int .u16 a] w fun e w' => e = .returned (.bool true) ∧ Below w.heap.size w w' := by
  obtain ⟨i0, hi, hz0, hz1, hz2⟩ := info_parts infoRs
  have K0 := Lib.hid (law22_known w)
  have HV := Lib.hid hv
  have HFI := Lib.hid hfit
  obtain ⟨A, c, rfl, hc, hm, -⟩ := hv
  clear hfit
  by_cases h10 : 10 < gs.length
  · have h10' : (10 : Int) < (gs.length : Int) := by omega
    go_enter Try.func5, Try.ntmps5
    go_wp2_with fail
    refine K0.out.mono ?_
    rintro e w1 ⟨rfl, hb1⟩
    have HB1 := Lib.hid hb1
    clear hb1 K0
    go_wp2_with fail
    go_ret
    exact ⟨rfl, HB1.out⟩
  have h10' : ¬ (10 : Int) < (gs.length : Int) := by omega
  go_enter Try.func5, Try.ntmps5
  go_wp2_with fail
  refine K0.out.mono ?_
  rintro e w1 ⟨rfl, hb1⟩
  have HB1 := Lib.hid hb1
  have HV1 := Lib.hid (HV.out.below hb1)
  have HR0 : Hid (WR w1 gs 0 (.slice none 0 0) (.slice none 0 0) (.slice none 0 0) w1) := Lib.hid ⟨World.ownsRow_nil _ _ _ _, World.ownsRow_nil _ _ _ _, ⟨[], rfl, World.ownsRow_nil _ _ _ _, fun i y g hy => by simp at hy⟩, Below.refl _ _⟩
  clear hb1 K0 HV
  go_wp2_with fail
  go_loopw [5, 6, 7, 8] (fun vb ve vw i wr => ∃ k : Nat, i = .int .i64 (k : Int) ∧ k ≤ gs.length ∧ WR w1 gs k vb ve vw wr) (fun _ _ _ i _ => gs.length - (intOf i).toNat)
  case atStart => exact ⟨0, rfl, Nat.zero_le _, HR0.out⟩
  case round =>
    obtain ⟨k, rfl, hk, hr⟩ := hrel
    have HR := Lib.hid hr
    clear hr HR0
    obtain ⟨m, hmm⟩ : ∃ m, (okG (gs.take k)).length = m := ⟨_, rfl⟩
    by_cases hlt : k < gs.length
    · have hlt' : (k : Int) < (gs.length : Int) := by omega
      obtain ⟨ad, c', u, hv, hx, hcu, hru⟩ := HV1.out.at_ hlt
      injection hv with hv1 _ hv2
      subst hv1 hv2
      obtain ⟨g, hg⟩ : ∃ g, gs[k] = g := ⟨_, rfl⟩
      rw [hg] at hru
      have HG := Lib.hid hg
      have hfg := HFI.out g (by rw [← hg]; exact List.getElem_mem hlt)
      have HRU := Lib.hid hru
      have HCU := Lib.hid hcu
      obtain ⟨Au, cu, rfl, -, hgm, -⟩ := hru
      have hcr := pw_cell_below HR.out.bel hcu
      have KF := Lib.hid (law22_few _ g wr (HRU.out.below HR.out.bel) hfg)
      clear hg hfg hcu hmm
      go_wp2_with fail
      refine KF.out.mono ?_
      rintro e w2 ⟨rfl, hb2⟩
      have HR2 := Lib.hid (HR.out.below hb2)
      have hcr2 := pw_cell_below HR2.out.bel HCU.out
      clear KF hb2 HR hcr
      cases hfe : fewB g with
      | false =>
        go_wp2_with fail
        go_ret
        exact ⟨rfl, HB1.out.trans (HR2.out.bel.mono HB1.out.size)⟩
      | true =>
        have KE := Lib.hid (wal_encode _ g w2 (HRU.out.below HR2.out.bel))
        obtain ⟨bs, hbs⟩ : ∃ bs, encG g = bs := ⟨_, rfl⟩
        rw [hbs] at KE
        have HBS := Lib.hid hbs
        clear hbs
        go_wp2_with fail
        refine KE.out.mono ?_
        rintro e w3 ⟨x3, rfl, ho3, hb3⟩
        obtain ⟨A3, c3, rfl, -, hr3⟩ := ho3.rd
        have HRD3 := Lib.hid hr3
        have HR3 := Lib.hid (HR2.out.below hb3)
        have hcr3 := pw_cell_below HR3.out.bel HCU.out
        have HO3 := Lib.hid ho3
        clear KE ho3 hb3 HR2 hcr2 hr3
        cases hgb : groupB g with
        | false =>
          obtain rfl : bs = [] := by rw [← HBS.out]; exact if_neg (by rw [hgb]; decide)
          have HRN := Lib.hid (HR3.out.skip (okG_no hlt (by rw [HG.out]; exact hgb)))
          clear hgb
          go_wp2_with fail
          go_roundw
          case rel => exact ⟨k + 1, by go_num, hlt, HRN.out⟩
          case measure => simp [intOf]; omega
        | true =>
          have hpos := enc_pos hgb
          have hmax := enc_max' g
          rw [HBS.out] at hpos hmax
          have hne : ((bs.length : Int) == 0) = false := by rw [beq_eq_false_iff_ne]; omega
          have hok : okG (gs.take (k + 1)) = okG (gs.take k) ++ [g] := by rw [okG_yes hlt (by rw [HG.out]; exact hgb), HG.out]
          have HD : Hid (catG (okG (gs.take (k + 1))) = catG (okG (gs.take k)) ++ bs) := Lib.hid (by rw [hok, catG_snoc, HBS.out])
          have HE : Hid (endsL (okG (gs.take (k + 1))) = endsL (okG (gs.take k)) ++ [((catG (okG (gs.take k)) ++ bs).length : Int)]) := Lib.hid (by rw [hok, endsL_snoc, catG_snoc, HBS.out])
          have HOK := Lib.hid hok
          have hcm := catG_max (okG (gs.take k))
          have hkl := okt_len gs k
          have hel := endsL_len (okG (gs.take k))
          have HCM : Hid (((catG (okG (gs.take k))).length + bs.length) * 1 ≤ 140737488355328) := Lib.hid (by omega)
          have HEL : Hid (((endsL (okG (gs.take k))).length + 1) * 8 ≤ 140737488355328) := Lib.hid (by omega)
          have HVL : Hid ((okG (gs.take k)).length ≤ 10) := Lib.hid (by omega)
          have KEY : Hid (∀ (v4 : Value) (w4 : World), w4.ownsRow w1.heap.size 5 1 v4 (catG (okG (gs.take k)) ++ bs).length (nums .u8 (catG (okG (gs.take k)) ++ bs)) → Below w1.heap.size w1 w4 → w3.grownBy w4 u5.ownBlock →
              ∃ (D : List Int) (A4 : Option Addr) (c4 : Nat), v4 = .slice A4 D.length c4 ∧ D.length ≤ 1000000 ∧ Hid (catG (okG (gs.take (k + 1))) = D) ∧ Hid (endsL (okG (gs.take (k + 1))) = endsL (okG (gs.take k)) ++ [(D.length : Int)]) ∧ Hid (w4.ownsRow w1.heap.size 5 1 (.slice A4 D.length c4) D.length (nums .u8 D)) ∧
                Hid (w4.ownsRow w1.heap.size 3 1 u6 (endsL (okG (gs.take k))).length (nums .i64 (endsL (okG (gs.take k))))) ∧ Hid (OwnV w1 w4 w1.heap.size u7 (okG (gs.take k))) ∧ Hid (Below w1.heap.size w1 w4)) := Lib.hid (fun v4 w4 ho4 hb4 hg4 => by
            have hDl : (catG (okG (gs.take k)) ++ bs).length ≤ 1000000 := by rw [List.length_append]; omega
            obtain ⟨A4, c4, hv4, -, -⟩ := (show OwnB w4 w1.heap.size v4 (catG (okG (gs.take k)) ++ bs) from ho4).rd
            subst hv4
            exact ⟨_, A4, c4, rfl, hDl, HD, HE, Lib.hid ho4, Lib.hid (own_apart HR3.out.e HR3.out.b (by decide) hg4), Lib.hid (HR3.out.v.apart HR3.out.b (by decide) hg4), Lib.hid hb4⟩)
          clear hpos hmax hok hcm hkl hel hgb HD HE
          have KEY2 : Hid (∀ (D : List Int) (A4 : Option Addr) (c4 : Nat) (w4 : World), Hid (endsL (okG (gs.take (k + 1))) = endsL (okG (gs.take k)) ++ [(D.length : Int)]) → Hid (w4.ownsRow w1.heap.size 5 1 (.slice A4 D.length c4) D.length (nums .u8 D)) →
              Hid (w4.ownsRow w1.heap.size 3 1 u6 (endsL (okG (gs.take k))).length (nums .i64 (endsL (okG (gs.take k))))) → Hid (OwnV w1 w4 w1.heap.size u7 (okG (gs.take k))) → ∀ (v6 : Value) (w6 : World), w6.ownsRow w1.heap.size 3 1 v6 (endsL (okG (gs.take k)) ++ [(D.length : Int)]).length (nums .i64 (endsL (okG (gs.take k)) ++ [(D.length : Int)])) → Below w1.heap.size w1 w6 → (w4.alloc (.cells #[.int .i64 (D.length : Int)] 3)).grownBy w6 u6.ownBlock →
              w6.cell? (ad.add k) = some (.slice Au g.length cu) ∧ Hid (w6.ownsRow w1.heap.size 3 1 v6 (endsL (okG (gs.take (k + 1)))).length (nums .i64 (endsL (okG (gs.take (k + 1)))))) ∧ Hid (w6.ownsRow w1.heap.size 5 1 (.slice A4 D.length c4) D.length (nums .u8 D)) ∧ Hid (Below w1.heap.size w1 w6) ∧
                ∃ us : List Value, Hid (us.length = (okG (gs.take k)).length) ∧ Hid (w6.ownsRow w1.heap.size 32 1 u7 us.length us) ∧ Hid (∀ (z1 : World) (v' : Value), z1.ownsRow w1.heap.size 32 1 v' (us.length + 1) (us ++ [.slice Au g.length cu]) → OwnV w1 z1 w1.heap.size v' (okG (gs.take k) ++ [g]))) := Lib.hid (fun D A4 c4 w4 HE HO4 HE4 HV4 v6 w6 ho6 hb6 hg6 => by
            have he5 := World.ownsRow.alloc HE4.out (.cells #[.int .i64 (D.length : Int)] 3)
            have hv6 := (HV4.out.below ((Below.refl w4.heap.size w4).alloc (Nat.le_refl _) (.cells #[.int .i64 (D.length : Int)] 3))).apart he5 (by decide) hg6
            obtain ⟨us, hul, hus, hup⟩ := hv6.push HRU.out
            rw [← HE.out] at ho6
            exact ⟨pw_cell_below hb6 HCU.out, Lib.hid ho6, Lib.hid (own_apart (World.ownsRow.alloc HO4.out _) he5 (by decide) hg6), Lib.hid hb6, us, Lib.hid hul, Lib.hid hus, Lib.hid hup⟩)
          go_wp2_with (first
            | (at_builtin; refine print_append_row (w0 := w1) w1.heap.size rfl _ _ _ _ .u8 1 rfl Try.underlying22 info8 (by omega) _ (catG (okG (gs.take k))) bs A3 bs.length c3 rfl rfl HR3.out.b HRD3.out HR3.out.bel HR3.out.bel.size HCM.out ?_; intro v4 w4 ho4 hb4 hg4 hat4; obtain ⟨D, A4, c4, rfl, hDl, HD, HE, HO4, HE4, HV4, HB4⟩ := KEY.out v4 w4 ho4 hb4 hg4; clear ho4 hb4 hg4 hat4)
            | (at_builtin; refine print_append_row (w0 := w1) w1.heap.size rfl _ _ _ _ .i64 8 rfl Try.underlying46 info64w (by omega) _ (endsL (okG (gs.take k))) [(D.length : Int)] (some ⟨w4.heap.size, 0, none⟩) 1 1 rfl rfl (World.ownsRow.alloc HE4.out _) (rd_oneI w4 _ _) (HB4.out.alloc HB4.out.size _) (Nat.le_trans HB4.out.size (by simp)) HEL.out ?_; intro v6 w6 ho6 hb6 hg6 hat6; obtain ⟨hcr6, HE6, HO6, HB6, us, HUL, HUS, HUP⟩ := KEY2.out D A4 c4 w4 HE HO4 HE4 HV4 v6 w6 ho6 hb6 hg6; clear ho6 hb6 hg6 hat6)
            | (at_builtin; refine wpList_append_own_at _ rfl _ _ 27 rfl w1.heap.size 32 i0 (.slice none 0 0) 1 24 Try.underlying27 hi hz0 hz1 hz2 rfl (by decide) _ _ _ rfl (World.ownsRow.alloc HUS.out _) ⟨_, 0, none⟩ 1 1 [.slice Au g.length cu] rfl rfl (cell_one_new _ _ _) (by simp [Value.oneCell']) (by have : maxLen = 9223372036854775807 := rfl; have := HVL.out; have := HUL.out; omega) (by have := HVL.out; have := HUL.out; omega) (by have := HB6.out.size; simp; omega) ?_; intro v' z1 hown' hgrow _ hat; have HW := Lib.hid hown'; have HGR := Lib.hid hgrow; clear hown' hgrow hat))
          have HRN : Hid (WR w1 gs (k + 1) (.slice A4 D.length c4) v6 v' z1) := Lib.hid (by
            have hal := HUS.out.alloc (.cells #[.slice Au g.length cu] 32)
            refine ⟨?_, ?_, ?_, ?_⟩
            · rw [HD.out]
              exact own_apart (World.ownsRow.alloc HO6.out _) hal (by decide) HGR.out
            · exact own_apart (World.ownsRow.alloc HE6.out _) hal (by decide) HGR.out
            · rw [HOK.out]
              exact HUP.out z1 v' HW.out
            · exact (HB6.out.alloc HB6.out.size _).grown HGR.out (by have := HB6.out.size; simp; omega) (fun k' hk' => (World.ownsRow.lt HUS.out k' hk').1))
          clear HW HGR HUS HUP HUL HO6 HE6 HB6 hcr6 KEY KEY2
          go_roundw
          case rel => exact ⟨k + 1, by go_num, hlt, HRN.out⟩
          case measure => simp [intOf]; omega
    · have hge : ¬ (k : Int) < (gs.length : Int) := by omega
      obtain rfl : k = gs.length := by omega
      obtain ⟨rs, hrs⟩ : ∃ rs, okG (gs.take gs.length) = rs := ⟨_, rfl⟩
      have hrall : ∀ g ∈ rs, groupB g = true := by rw [← hrs]; exact okG_all _
      have hrl := okt_len gs gs.length
      obtain ⟨hb5, he6, hv7, hbel⟩ := HR.out
      rw [hrs] at hb5 he6 hv7 hrl
      have hby := catG_by rs
      obtain ⟨g1, g2⟩ := gB_cat rs hrall
      have hmx := catG_max rs
      have hel := endsL_len rs
      obtain ⟨m, hm'⟩ : ∃ m, rs.length = m := ⟨_, rfl⟩
      rw [hel, hm'] at he6
      rw [hm'] at hrl hmx
      have hcut := fun q hq => gB_cut rs q hrall hq
      have HEA := Lib.hid (fun i hi => endsL_at (gs := rs) (i := i) hi)
      have HRA : Hid (∀ g ∈ rs, g.length ≤ 9223372036854775807) := Lib.hid (fun g hg => by have := groupB_len (hrall g hg); omega)
      obtain ⟨D, hD⟩ : ∃ D, catG rs = D := ⟨_, rfl⟩
      rw [hD] at hb5 hby g1 g2 hmx hcut
      have HD := Lib.hid hD
      have HM := Lib.hid hm'
      have HCUT := Lib.hid hcut
      have hD1 : D.length ≤ 410700 := by omega
      obtain ⟨A5, c5, rfl, hc5, hr5⟩ := (show OwnB wr w1.heap.size u5 D from hb5).rd
      obtain ⟨A6, c6, rfl⟩ : ∃ A c, u6 = .slice A m c := by
        rcases he6.2 with ⟨rfl, h0⟩ | ⟨g, cap, cur, rfl, _⟩
        · exact ⟨none, 0, by rw [h0]⟩
        · exact ⟨_, _, rfl⟩
      obtain ⟨A7, c7, rfl, hc7⟩ := hv7.sl
      rw [hm'] at hv7 hc7
      have KG := wal_groups (.slice A5 D.length c5) D wr ⟨A5, c5, rfl, hc5, hr5⟩ hby (by omega)
      unfold GrpP at KG
      rw [g1, g2] at KG
      have HKG := Lib.hid KG
      have HR5 : Hid (RdB wr (.slice A5 D.length c5) D) := Lib.hid ⟨A5, c5, rfl, hc5, hr5⟩
      have HE6 := Lib.hid he6
      have HV7 := Lib.hid hv7
      have HBEL := Lib.hid hbel
      have HBY := Lib.hid hby
      rw [hm']
      obtain ⟨q, hq⟩ : ∃ q : Nat, a % ((D.length : Int) + 1) = (q : Int) := ⟨(a % ((D.length : Int) + 1)).toNat, by have := Int.emod_nonneg a (show (D.length : Int) + 1 ≠ 0 by omega); omega⟩
      have hqD : q ≤ D.length := by have := Int.emod_lt_of_pos a (show (0 : Int) < (D.length : Int) + 1 by omega); omega
      have hqt : a.tmod ((D.length : Int) + 1) = (q : Int) := by rw [Int.tmod_eq_emod_of_nonneg (by omega)]; exact hq
      have HQ : Hid (Hid True) := Lib.hid (Lib.hid trivial)
      clear KG hb5 he6 hv7 hbel hby g1 g2 hmx hel hcut hD hrs hrall HR hq HQ hr5 hm'
      go_wp2_with fail
      refine HKG.out.mono ?_
      rintro e w2 ⟨v2, rfl, hg2, hb2⟩
      have hrg2 := hg2.rdG HRA.out
      obtain ⟨A2, c2, rfl⟩ := hg2.sl
      have hv2 := ((HV7.out.below hb2).rdG (HBEL.out.trans (hb2.mono HBEL.out.size)) m (by rw [HM.out]; omega))
      rw [List.take_of_length_le (by rw [HM.out]; omega)] at hv2
      have KL := Lib.hid (law22_groups _ _ rs rs w2 hrg2 hv2 (by rw [HM.out]; omega))
      rw [decide_eq_true rfl] at KL
      have HB2 := Lib.hid hb2
      rw [HM.out] at KL
      rw [HM.out]
      clear hg2 hb2 hrg2 hv2 HKG
      go_wp2_with fail
      refine KL.out.mono ?_
      rintro e w3 ⟨rfl, hb3⟩
      have HB3 := Lib.hid (HB2.out.trans (hb3.mono HB2.out.size))
      clear hb3 KL HB2
      have HR53 : Hid (RdB w3 (.slice A5 D.length c5) D) := Lib.hid (RdB.below HR5.out HB3.out)
      have HE63 := Lib.hid (pw_own_below HE6.out HB3.out)
      have HV73 := Lib.hid (HV7.out.below HB3.out)
      have HBL3 := Lib.hid (HBEL.out.trans (HB3.out.mono HBEL.out.size))
      clear HR5 HE6 HV7
      go_upto_block 2 with fail
      go_cut [13, 14] (fun s13 s14 wx => ∃ i : Nat, s13 = .int .i64 (i : Int) ∧ i ≤ m ∧ s14 = .int .i64 ((catG (rs.take i)).length : Int) ∧ (catG (rs.take i)).length ≤ q ∧ (i < m → q < (catG (rs.take (i + 1))).length) ∧ wx = w3)
      case first =>
        have H0 : Hid ((catG (rs.take 0)).length = 0) := Lib.hid (by simp [catG])
        go_wp2_with fail
        go_loopw [13, 14] (fun n en wi => ∃ i : Nat, n = .int .i64 (i : Int) ∧ i ≤ m ∧ en = .int .i64 ((catG (rs.take i)).length : Int) ∧ (catG (rs.take i)).length ≤ q ∧ wi = w3) (fun n _ _ => m - (intOf n).toNat)
        case atStart => exact ⟨0, rfl, Nat.zero_le _, by rw [H0.out]; rfl, by rw [H0.out]; omega, rfl⟩
        case round =>
          obtain ⟨i, rfl, him, rfl, hle, rfl⟩ := hrel
          obtain ⟨z0, hz0'⟩ : ∃ z, (catG (rs.take i)).length = z := ⟨_, rfl⟩
          rw [hz0'] at hle
          simp only [hz0']
          have HZ0 := Lib.hid hz0'
          clear hz0'
          by_cases hi' : i < m
          · have hiI : (i : Int) < (m : Int) := by omega
            obtain ⟨z, hz⟩ : ∃ z, (catG (rs.take (i + 1))).length = z := ⟨_, rfl⟩
            have hea := HEA.out i (by rw [HM.out]; exact hi')
            rw [hz] at hea
            have HZ := Lib.hid hz
            obtain ⟨g6, hg6⟩ : ∃ g6, A6 = some (⟨g6, 0, none⟩ : Addr) := by
              rcases HE63.out.2 with ⟨he, -⟩ | ⟨g, cap, cur, he, -⟩
              · exfalso
                injection he with _ he _
                omega
              · injection he with he
                exact ⟨g, he⟩
            subst hg6
            have hce := World.ownsRow.cells HE63.out rfl i (.int .i64 (z : Int)) (by simp [nums, hea])
            rw [add_plain] at hce
            have hix : ∀ W, (Instr.indexAt 46 (.slice (some ⟨g6, 0, none⟩) m c6) (.int .i64 (i : Int))).run Try.prog W = .ok (.pointer (some ⟨g6, i, none⟩)) W := fun W => by
              have h2 : 0 ≤ (i : Int) ∧ (i : Int) < (m : Int) := ⟨by omega, by omega⟩
              have h3 : ({ block := g6, off := 0, spot := none } : Addr).add i = ⟨g6, i, none⟩ := by
                unfold Addr.add; split <;> simp_all
              go_simp
            clear hz hea
            by_cases hzq : z ≤ q
            · have hzq' : (z : Int) ≤ (q : Int) := by omega
              go_wp2_with fail
              go_roundw
              case rel => exact ⟨i + 1, by go_num, by omega, by rw [HZ.out], by rw [HZ.out]; exact hzq, by first | rfl | trivial⟩
              case measure => simp [intOf]; omega
            · have hzq' : ¬ (z : Int) ≤ (q : Int) := by omega
              go_wp2_with fail
              go_meet
              exact ⟨i, rfl, him, by rw [HZ0.out], by rw [HZ0.out]; exact hle, fun _ => by rw [HZ.out]; omega, by first | rfl | trivial⟩
          · have hiI : ¬ (i : Int) < (m : Int) := by omega
            go_wp2_with fail
            go_meet
            exact ⟨i, rfl, him, by rw [HZ0.out], by rw [HZ0.out]; exact hle, fun h => absurd h hi', by first | rfl | trivial⟩
      case rest =>
        obtain ⟨i, rfl, him, rfl, hle, hgt, rfl⟩ := hcut
        obtain ⟨n', n1, n2, n3, n4, n5⟩ := HCUT.out q hqD
        have hni : n' = i := whole_one n1 (by rw [HM.out]; exact him) n4 n5 hle (fun h => hgt (by rwa [HM.out] at h))
        rw [hni] at n2 n3
        obtain ⟨z0, hz0'⟩ : ∃ z, (catG (rs.take i)).length = z := ⟨_, rfl⟩
        rw [hz0'] at n3
        simp only [hz0']
        obtain ⟨T, hT⟩ : ∃ T, D.take q = T := ⟨_, rfl⟩
        rw [hT] at n2 n3
        have hTl : T.length ≤ 410700 := by rw [← hT, List.length_take]; omega
        have hTby : By T := by rw [← hT]; exact HBY.out.take _
        obtain ⟨A5', c5', he5, hcc5, hr53⟩ := HR53.out
        injection he5 with e1 _ e3
        subst e1 e3
        obtain ⟨i8, hi8, hz8, hs8, hb8⟩ := info_parts info8
        obtain ⟨ht1, ht2, ht3⟩ := print_take_of (P := Try.prog) (Value.int .u8) (0 : Int) 22 5 .i64 Try.underlying22 hi8 hs8 A5 c5 D (q : Int) (by omega) (by omega) hcc5
        rw [Int.toNat_natCast, hT] at ht1 ht2 ht3
        have KG := wal_groups (.slice A5 T.length c5) T wc ⟨A5, c5, rfl, ht3, ht2 wc hr53⟩ hTby (by omega)
        unfold GrpP at KG
        rw [n2, n3] at KG
        have HKG := Lib.hid KG
        have hsl := (print_take_of (P := Try.prog) (fun _ : List Rc => Value.slice none 0 0) [] 27 32 .i64 Try.underlying27 hi hz1 A7 c7 rs (i : Int) (by omega) (by rw [HM.out]; omega) (by rw [HM.out]; exact hc7)).1
        rw [Int.toNat_natCast, HM.out, List.length_take, HM.out, Nat.min_eq_left him] at hsl
        have HTL : Hid ((rs.take i).length = i) := Lib.hid (by rw [List.length_take, HM.out]; omega)
        clear KG n1 n2 n3 n4 n5 hni hle hgt hz0' hT hr53 ht2 hi8 hz8 hs8 hb8 hTby
        go_wp2_with fail
        refine HKG.out.mono ?_
        rintro e w4 ⟨v4, rfl, hg4, hb4⟩
        have hrg4 := hg4.rdG (fun g hg => HRA.out g (List.mem_of_mem_take hg))
        obtain ⟨A4, c4, rfl⟩ := hg4.sl
        have hv4 := ((HV73.out.below hb4).rdG (HBL3.out.trans (hb4.mono HBL3.out.size)) i (by rw [HM.out]; omega))
        have KL := Lib.hid (law22_groups _ _ (rs.take i) (rs.take i) w4 hrg4 hv4 (by rw [HTL.out]; omega))
        rw [decide_eq_true rfl] at KL
        have HB4 := Lib.hid hb4
        rw [HTL.out] at KL
        rw [HTL.out]
        clear hg4 hb4 hrg4 hv4 HKG
        go_wp2_with fail
        refine KL.out.mono ?_
        rintro e w5 ⟨rfl, hb5⟩
        have HB5 := Lib.hid (HB4.out.trans (hb5.mono HB4.out.size))
        clear hb5 KL
        go_wp2_with fail
        go_ret
        exact ⟨rfl, HB1.out.trans ((HBL3.out.trans (HB5.out.mono HBL3.out.size)).mono HB1.out.size)⟩
end Go.Proofs.Ytmdecbockpgagaa
