import Derived.Test.YtmdecbockpgagaaWalHalf
import Derived.Test.YtmdecbockpgagaaWalTornW
/- hornbooklaw22.WalBroken. -/
namespace Go.Proofs.Ytmdecbockpgagaa
open Go.RowKit Go.Maps Go.Proofs.YtmdecbockpgagaaW.PrintWords Go.Proofs.YtmdecbockpgagaaW.PrintMore
variable {B p lb : Nat} {w0 : World} {G : DG} {d : DS} {w w' : World} {nm : Nm} {ng : Int} {br : Bool}

def rcE (i : Nat) : Rc := ⟨1, S [101, 110], S [UInt8.ofNat (97 + i)]⟩
def gsE (j : Nat) : List (List Rc) := (List.range j).map fun i => [rcE i]
theorem gsE_succ (j : Nat) : gsE (j + 1) = gsE j ++ [[rcE j]] := by unfold gsE; rw [List.range_succ, List.map_append]; rfl
theorem rcE_group1 (b : UInt8) : groupB [⟨1, S [101, 110], S [b]⟩] = true := by
  have h1 : (S [101, 110]).size = 2 := S_size _
  have h2 : (S [b]).size = 1 := S_size _
  simp [groupB, rightB, h1, h2]
theorem rcE_group (j : Nat) : groupB [rcE j] = true := rcE_group1 _
theorem gsE_group (j : Nat) : ∀ g ∈ gsE j, groupB g = true := fun g hg => by
  obtain ⟨i, _, rfl⟩ := List.mem_map.1 hg
  exact rcE_group i
theorem gsE_len (j : Nat) : (gsE j).length = j := by simp [gsE]
theorem gsE_one (j : Nat) : ∀ g ∈ gsE j, g.length ≤ 9223372036854775807 := fun g hg => by
  obtain ⟨i, _, rfl⟩ := List.mem_map.1 hg
  simp
theorem encE_len (j : Nat) : (encG [rcE j]).length = 26 := by
  rw [enc_one _ (rcE_group j)]
  show (S [101, 110]).size + (S [UInt8.ofNat (97 + j)]).size + 23 = _
  rw [S_size, S_size]
  rfl
theorem catE_len : ∀ j, (catG (gsE j)).length = 26 * j
  | 0 => rfl
  | j + 1 => by
    rw [gsE_succ, catG_snoc, List.length_append, catE_len j, encE_len]
    omega

def rcX : Rc := ⟨1, S [100, 101], S [120]⟩
theorem rcX_group : groupB [rcX] = true := by decide +kernel
theorem encX_len : (encG [rcX]).length = 26 := by
  rw [enc_one _ rcX_group]
  show (S [100, 101]).size + (S [120]).size + 23 = _
  rw [S_size, S_size]
  rfl
theorem held_sharp {P : Program} {ops : Array Oper} {Q : Exit → Act → World → Prop} {md : Region.Mode} {S S' : World → Prop} {fuel : Nat} {listed : Array Bool} {a : Act} {w : World} (hN : S' w) (hS : ∀ w, S' w → S w)
    (h : ∀ X, S' X → wpAnyH P md ops Q S' fuel listed a X) : wpAnyH P md ops Q S fuel listed a w := held_rebase hS fuel listed a w (h w hN)
/-- What may lie in the file behind a call: the old groups or the new ones. -/
def Good (ms ns : List (List Rc)) (b : List Int) : Prop := (gsOf b = ms ∨ gsOf b = ns) ∧ endOf b ≤ b.length ∧ b.length ≤ 45000
/-- What a call came to: of groups. -/
def After (ms ns : List (List Rc)) (st : Nat) (f : Int) (r : Int × DS) : Prop :=
  (r.1 = 0 ∧ ∃ i fs, r.2 = ld 100000 st f 0 i fs [(lgN, i)] [] ∧ fs[i]? = some ⟨catG ns, (catG ns).length⟩) ∨
  (r.1 = 202 ∧ ∃ i fs k kp si b', r.2 = ld 100000 st f 0 i fs kp si ∧ fs[i]? = some ⟨b', k⟩ ∧ Good ms ns b' ∧ Crashes 100000 st (Good ms ns) r.2)
theorem good_cat {ms ns gs : List (List Rc)} (hg : ∀ g ∈ gs, groupB g = true) (h : gs = ms ∨ gs = ns) (hl : (catG gs).length ≤ 45000) : Good ms ns (catG gs) := by
  obtain ⟨h1, h2⟩ := gB_cat gs hg
  exact ⟨by rw [h1]; exact h, by omega, hl⟩
theorem After.of_append {ms : List (List Rc)} {g : List Rc} {st : Nat} {f : Int} {r : Int × DS} (hms : ∀ x ∈ ms, groupB x = true) (hg : groupB g = true) (hl : (catG ms).length + (encG g).length ≤ 45000)
    (h : CallOut 100000 st f 0 (catG ms) (catG ms ++ encG g) (fun b' => ∃ c z, c + z ≤ (encG g).length ∧ b' = catG ms ++ left (encG g) c z) r) : After ms (ms ++ [g]) st f r := by
  have hall : ∀ x ∈ ms ++ [g], groupB x = true := fun x hx => by
    rcases List.mem_append.1 hx with h | h
    · exact hms x h
    · rw [List.mem_singleton] at h; rw [h]; exact hg
  have hlen : (catG (ms ++ [g])).length ≤ 45000 := by rw [catG_snoc, List.length_append]; omega
  rw [← catG_snoc] at h
  rcases h with ⟨h1, h2⟩ | ⟨-, h2, i, fs, k, kp, si, b', h3, h4, h5, h6⟩
  · exact .inl ⟨h1, h2⟩
  · refine .inr ⟨h2 rfl, i, fs, k, kp, si, b', h3, h4, ?_, h6.imp (fun b hb => ?_)⟩
    · rcases h5 with rfl | rfl
      · exact good_cat hms (.inl rfl) (by omega)
      · exact good_cat hall (.inr rfl) hlen
    · obtain ⟨c, z, hcz, rfl⟩ := hb
      have hll : (left (encG g) c z).length = c + z := left_length _ _ _ (by omega)
      have hend : endOf (catG ms ++ left (encG g) c z) ≤ (catG ms ++ left (encG g) c z).length := by
        obtain ⟨-, h2⟩ := gB_cat_app ms (left (encG g) c z) hms
        rw [h2, List.length_append]
        by_cases hc : c < (encG g).length
        · rw [(gsOf_none (gB_left hg c z hc)).2]; omega
        · have hc' : c = (encG g).length := by omega
          have hz : z = 0 := by omega
          subst hc' hz
          rw [left_all, (endOf_enc hg).2]
          omega
      refine ⟨?_, hend, by rw [List.length_append, hll]; omega⟩
      rcases left_groups hms hg c z hcz with ⟨h1, -⟩ | ⟨h1, -⟩
      · exact .inl h1
      · exact .inr h1
theorem After.of_clear {ms : List (List Rc)} {st : Nat} {f : Int} {r : Int × DS} (hms : ∀ x ∈ ms, groupB x = true) (hl : (catG ms).length ≤ 45000)
    (h : CallOut 100000 st f 0 (catG ms) [] (fun b' => b' = catG ms ∨ b' = []) r) : After ms [] st f r := by
  have h0 : Good ms [] ([] : List Int) := good_cat (gs := []) (fun x hx => by simp at hx) (.inr rfl) (by simp [catG])
  rcases h with ⟨h1, h2⟩ | ⟨-, h2, i, fs, k, kp, si, b', h3, h4, h5, h6⟩
  · exact .inl ⟨h1, h2⟩
  · refine .inr ⟨h2 rfl, i, fs, k, kp, si, b', h3, h4, ?_, h6.imp (fun b hb => ?_)⟩
    · rcases h5 with rfl | rfl
      · exact good_cat hms (.inl rfl) hl
      · exact h0
    · rcases hb with rfl | rfl
      · exact good_cat hms (.inl rfl) hl
      · exact h0
/-- What is held while the new row is laid. -/
def BrkS (w1 : World) (p lb : Nat) (G : DG) (d : DS) (ng : Int) (br : Bool) (Aw : Option Addr) (ms : List (List Rc)) (cw bw : Nat) (y : Value) (X : World) : Prop :=
  Ls w1.heap.size p lb w1 G d lgN ng br X ∧ (RdF G X (.slice Aw ms.length ms.length) ms ∧ RdR X y [rcX] ∧ Far G y) ∧ OwnA G X bw (.slice Aw ms.length cw) ms
theorem BrkS.below {w1 : World} {Aw : Option Addr} {ms : List (List Rc)} {cw bw : Nat} {y : Value} {X Y : World} (h : BrkS w1 p lb G d ng br Aw ms cw bw y X) (hb : Below X.heap.size X Y) : BrkS w1 p lb G d ng br Aw ms cw bw y Y :=
  ⟨h.1.below hb, ⟨h.2.1.1.tr (Tr.of_below hb G), h.2.1.2.1.below hb, h.2.1.2.2⟩, h.2.2.tr (Tr.of_below hb G)⟩
theorem fail_crash (d : DS) (a : Int) (cs : List Int) : (d.fail a).crash cs = d.crash cs := rfl
theorem ng_zero (ng n : Int) : ngOf 0 ng n = n := rfl
theorem br_zero (br : Bool) : brOf 0 br = br := rfl
theorem RdF.nil (G : DG) (w : World) : RdF G w (.slice none 0 0) [] := ⟨none, 0, [], rfl, rfl, fun h => absurd h (by simp), fun i u x hu => by simp at hu⟩
theorem RdF.below {v : Value} {gs : List (List Rc)} (h : RdF G w v gs) (hb : Below w.heap.size w w') : RdF G w' v gs := h.tr (Tr.of_below hb G)
set_option maxRecDepth 100000 in
set_option maxHeartbeats 8000000 in
theorem walBroken_walk (a b : Int) (cl : Bool) (v : Value) (cs : List Int) (cr : Bool) (w : World) (ha : 0 ≤ a ∧ a < 256) (hb : 0 ≤ b ∧ b < 256) (hv : RdB w v cs) (hcs : By cs) (_hz : cs.length ≤ 140737488351232) :
    Calls Try.prog 8 #[.int .u8 a, .int .u8 b, .bool cl, v, .bool cr] w fun e w' => e = .returned (.bool true) ∧ Below w.heap.size w w' := by
  obtain ⟨i0, hi, hz0, hz1, hz2⟩ := info_parts infoRs
  have K0 := Lib.hid (law22_known w)
  have HV := Lib.hid hv
  have HCS := Lib.hid hcs
  obtain ⟨A, c, rfl, -, -⟩ := hv
  clear hcs
  by_cases h10 : 10 < cs.length
  · have h10' : (10 : Int) < (cs.length : Int) := by omega
    go_enter Try.func8, Try.ntmps8
    go_wp2_with fail
    refine K0.out.mono ?_
    rintro e w1 ⟨rfl, hb1⟩
    have HB1 := Lib.hid hb1
    clear hb1 K0
    go_wp2_with fail
    go_ret
    exact ⟨rfl, HB1.out⟩
  have h10' : ¬ (10 : Int) < (cs.length : Int) := by omega
  obtain ⟨m, hm⟩ : ∃ n : Nat, a % 5 = (n : Int) := ⟨(a % 5).toNat, by omega⟩
  obtain ⟨t, ht⟩ : ∃ n : Nat, b % 6 = (n : Int) := ⟨(b % 6).toNat, by omega⟩
  have hm4 : m ≤ 4 := by omega
  have ht5 : t ≤ 5 := by omega
  go_enter Try.func8, Try.ntmps8
  go_wp2_with fail
  refine K0.out.mono ?_
  rintro e w1 ⟨rfl, hb1⟩
  have HB1 := Lib.hid hb1
  have HV1 := Lib.hid (RdB.below HV.out hb1)
  have K1 := Lib.hid (k_new w1 100000)
  have HTT := Lib.hid ht
  clear hb1 K0 HV ht
  go_wp2_with fail
  refine K1.out.mono ?_
  rintro e w2 ⟨p, G0, rfl, hp, hk⟩
  obtain ⟨f1, f2⟩ := newD_opens 100000
  have KO := wal_openF hk (by show (0 : Int) + 30 < 1000000000; omega) (nm := lgN) (by decide) (by decide) (by show -9223372036854775808 ≤ (100000 : Int) ∧ (100000 : Int) < 9223372036854775808; omega)
  rw [f2, f1] at KO
  have HKO := Lib.hid KO
  clear hk K1 hp f1 f2 KO
  go_wp2_with fail
  refine HKO.out.mono ?_
  rintro e w3 (⟨-, v2, lb, G2, rfl, -, hls, hag, -⟩ | ⟨hno, -⟩)
  case inr => exact absurd rfl hno
  rw [show gsOf ([] : List Int) = [] from congrArg (List.map _) gB_nil] at hag hls
  obtain ⟨A2, c2, rfl⟩ := hag.sl
  have HL3 : Hid (Ls w1.heap.size p lb w1 G2 (wdisk 100000 3 [] []) lgN 0 false w3) := Lib.hid hls
  clear hls hag HKO
  obtain ⟨bw, hbw⟩ : ∃ bw, w3.heap.size = bw := ⟨_, rfl⟩
  have HBW : Hid (w1.heap.size ≤ bw) := Lib.hid (by rw [← hbw]; exact HL3.out.dk.bel.size)
  have HA0 : Hid (OwnA G2 w3 bw (.slice none 0 0) (gsE 0)) := Lib.hid ⟨[], rfl, World.ownsRow_nil _ _ _ _, Apart.nil _, fun i y g hy => by simp at hy⟩
  go_wp2_with fail
  go_loopw [15, 16] (fun u i wr => ∃ (j : Nat) (G : DG) (d : DS), i = .int .i64 (j : Int) ∧ j ≤ m ∧ IsLog 100000 (3 + 2 * j) (catG (gsE j)) d ∧ Ls w1.heap.size p lb w1 G d lgN (j : Int) false wr ∧ OwnA G wr bw u (gsE j) ∧ bw ≤ wr.heap.size) (fun _ i _ => m - (intOf i).toNat)
  case atStart => exact ⟨0, G2, _, rfl, Nat.zero_le _, wd_isLog _ _ _ _, HL3.out, HA0.out, by omega⟩
  case round =>
    obtain ⟨j, G7, d7, rfl, hj, hil, hl, hag, hsz⟩ := hrel
    have HIL := Lib.hid hil
    have HL := Lib.hid hl
    have HA := Lib.hid hag
    clear hil hl hag hbw
    by_cases hlt : j < m
    · have hlt' : (j : Int) < (m : Int) := by omega
      obtain ⟨bt, hbt⟩ : ∃ bt : UInt8, UInt8.ofNat (97 + j) = bt := ⟨_, rfl⟩
      have hbn : (bt.toNat : Int) = 97 + (j : Int) := by
        rw [← hbt, UInt8.toNat_ofNat']
        omega
      have hrc : rcE j = ⟨1, S [101, 110], S [bt]⟩ := by unfold rcE; rw [hbt]
      have hcv := conv_oneB wr bt
      rw [hbn] at hcv
      have KR := Lib.hid (law_rec_own (S [101, 110]) (S [bt]) wr _ ((Below.refl wr.heap.size wr).alloc (Nat.le_refl _) (.cells #[.int .u8 (97 + (j : Int))] 5)))
      rw [← hrc] at KR
      obtain ⟨t1, ht1⟩ : ∃ t1, S [bt] = t1 := ⟨_, rfl⟩
      rw [ht1] at hcv KR
      clear hbt hbn ht1 hrc
      go_wp2_with fail
      refine KR.out.mono ?_
      rintro e w7 ⟨b7, rfl, ho7, hb7⟩
      have HO7 := Lib.hid ho7
      have HL7 := Lib.hid (HL.out.below hb7)
      have HA7 := Lib.hid (HA.out.tr (Tr.of_below hb7 G7))
      have ha7 := Apart.new HL.out.dk.at_ (Nat.le_refl _) ho7
      have HP7 := Lib.hid ha7
      obtain ⟨d8, hap, hil8⟩ := HIL.out.append [rcE j] (by rw [catE_len, encE_len]; omega) (by rw [catE_len, encE_len]; omega)
      rw [← catG_snoc, ← gsE_succ] at hil8
      have KA := Lib.hid (wal_append HL7.out (by rw [HIL.out.steps.1]; omega) (by decide) ho7.rd' (Far.own ha7) (rcE_group j) (by rw [HIL.out.steps.2]; omega) (by omega))
      rw [hap] at KA
      have HIL8 : Hid (IsLog 100000 (3 + 2 * (j + 1)) (catG (gsE (j + 1))) d8) := Lib.hid (by rw [show 3 + 2 * (j + 1) = 3 + 2 * j + 2 by omega]; exact hil8)
      have hs7 := hb7.size
      clear hap ho7 hb7 ha7 KR hcv HL HA hil8
      go_wp2_with fail
      refine KA.out.mono ?_
      rintro e w8 ⟨rfl, G8, hls, hlt8⟩
      have HL8 : Hid (Ls w1.heap.size p lb w1 G8 d8 lgN ((j : Int) + 1) false w8) := Lib.hid hls
      have HA8 := Lib.hid (HA7.out.lt HL7.out.lg hlt8)
      obtain ⟨hp8, ho8⟩ := own_lt HL7.out.lg HP7.out HO7.out (by decide) hlt8
      have hs8 := hlt8.size
      obtain ⟨us, hul, hus, hua, hup⟩ := HA8.out.push (own_weaken ho8 hsz) hp8 HL8.out.dk.at_
      have HUS := Lib.hid hus
      have HUA := Lib.hid hua
      have HUP := Lib.hid hup
      have hul5 : us.length = j := by rw [hul, gsE_len]
      clear hls hlt8 KA HL7 HA7 HP7 HO7 hp8 ho8 hul hus hua hup
      go_wp2_with (at_builtin; refine wpList_append_own_at _ rfl _ _ 27 rfl bw 32 i0 (.slice none 0 0) 1 24 Try.underlying27 hi hz0 hz1 hz2 rfl (by decide) _ _ _ rfl (World.ownsRow.alloc HUS.out _) ⟨_, 0, none⟩ 1 1 [.slice (some ⟨b7, 0, none⟩) 1 1] rfl rfl (cell_one_new _ _ _) (by simp [Value.oneCell']) (by have : maxLen = 9223372036854775807 := rfl; omega) (by omega) (by simp; omega) ?_; intro v' z1 hown' hgrow _ hat; have HW := Lib.hid hown'; have HG := Lib.hid hgrow; have HAT := Lib.hid hat; clear hown' hgrow hat)
      have HAz := Lib.hid (HUP.out _ z1 v' HW.out HG.out HAT.out)
      have HLz := Lib.hid ((HL8.out.below ((Below.refl w8.heap.size w8).alloc (Nat.le_refl _) _)).grown (World.ownsRow.alloc HUS.out _) HBW.out HG.out HUA.out (by decide))
      have hsz2 := HG.out.size
      simp only [World.size_alloc] at hsz2
      clear HW HG HAT
      go_roundw
      case rel => exact ⟨j + 1, G8, d8, by go_num, by omega, HIL8.out, HLz.out, by rw [gsE_succ]; exact HAz.out, by omega⟩
      case measure => simp [intOf]; omega
    · have hge : ¬ (j : Int) < (m : Int) := by omega
      obtain rfl : j = m := by omega
      obtain ⟨ms, hms⟩ : ∃ ms, gsE j = ms := ⟨_, rfl⟩
      have hmg : ∀ g ∈ ms, groupB g = true := by rw [← hms]; exact gsE_group j
      have hml : ms.length = j := by rw [← hms]; exact gsE_len j
      have hmc : (catG ms).length ≤ 104 := by rw [← hms, catE_len]; omega
      have hm1 : ∀ g ∈ ms, g.length ≤ 9223372036854775807 := fun g hg => by have := groupB_len (hmg g hg); omega
      rw [hms] at HIL HA
      obtain ⟨Aw, cw, rfl⟩ := HA.out.sl
      have HMG := Lib.hid hmg
      have HMC := Lib.hid hmc
      have HM1 := Lib.hid hm1
      have HML := Lib.hid hml
      obtain ⟨i7, fs7, hd7, hf7⟩ := HIL.out
      subst hd7
      have KF := k_fail HL.out.dk ((t : Int) + 1) (by omega)
      obtain ⟨f, hf⟩ := ld_fail (q := 100000) (st := 3 + 2 * j) (fa := 0) (oa := 0) (i := i7) (fs := fs7) (kp := [(lgN, i7)]) (si := []) ((t : Int) + 1)
      rw [hf] at KF
      have HKF := Lib.hid KF
      have HF7 := Lib.hid hf7
      have htt := HTT.out
      clear KF hf hf7 hms hmg hml hmc hm1
      go_wp2_with fail
      refine HKF.out.mono ?_
      rintro e w7 ⟨⟨u7, rfl⟩, hd8, ht8⟩
      have HL8 := Lib.hid (HL.out.tr hd8 ht8)
      have HA8 := Lib.hid (HA.out.tr ht8)
      clear hd8 ht8 HKF HL HA htt
      go_upto_if 63 with fail
      go_cut [18, 19] (fun s18 s19 wx => ∃ (r : Int × DS) (G : DG) (ns : List (List Rc)) (st : Nat), s18 = .int .i64 r.1 ∧ st ≤ 20 ∧ Ls w1.heap.size p lb w1 G r.2 lgN (ngOf r.1 (j : Int) (ns.length : Int)) (brOf r.1 false) wx ∧ RdF G wx s19 ns ∧ OwnA G wx bw (.slice Aw ms.length cw) ms ∧ After ms ns st f r ∧ ns.length ≤ 10 ∧ ∀ g ∈ ns, g.length ≤ 9223372036854775807)
      case first =>
        cases cl with
        | true =>
          have KC := Lib.hid (wal_clear HL8.out (by show (((3 + 2 * j : Nat) : Int)) + 30 < 1000000000; omega) (by decide))
          obtain ⟨st', hst', hco⟩ := clear_out (q := 100000) (st := 3 + 2 * j) (fa := f) (oa := 0) HF7.out
          obtain ⟨r, hr⟩ : ∃ r, freshW lgN (ld 100000 (3 + 2 * j) f 0 i7 fs7 [(lgN, i7)] []) = r := ⟨_, rfl⟩
          rw [hr] at hco KC
          have HCO := Lib.hid (After.of_clear HMG.out (by have := HMC.out; omega) hco)
          clear hco hr
          go_wp2_with fail
          refine KC.out.mono ?_
          rintro e w9 ⟨rfl, G9, hls, hlt⟩
          have HL9 := Lib.hid hls
          have HA9 := Lib.hid (HA8.out.lt HL8.out.lg hlt)
          clear hls hlt KC
          go_wp2_with fail
          go_meet
          exact ⟨r, G9, [], st', rfl, by omega, HL9.out, RdF.nil _ _, HA9.out, HCO.out, by simp, fun g hg => by simp at hg⟩
        | false =>
          have KR := Lib.hid (law_rec (S [100, 101]) (S [120]) w7)
          have hbn := (Below.refl w7.heap.size w7).alloc (Nat.le_refl _) (.cells #[.int .u8 1, .string (S [100, 101]), .string (S [120])] 50)
          obtain ⟨st', hst', hco⟩ := append_out (q := 100000) (st := 3 + 2 * j) (fa := f) (oa := 0) [rcX] HF7.out (by rw [encX_len]; have := HMC.out; omega) (by rw [encX_len]; have := HMC.out; omega)
          have KA := wal_append (HL8.out.below hbn) (by show (((3 + 2 * j : Nat) : Int)) + 15 < 1000000000; omega) (by decide) (OwnR.one w7 w7.heap.size (Nat.le_refl _) 1 (S [100, 101]) (S [120])).rd' (Far.new HL8.out.dk.at_) rcX_group (by show -9223372036854775808 ≤ (100000 : Int) ∧ (100000 : Int) < 9223372036854775808; omega) (by omega)
          obtain ⟨r, hr⟩ : ∃ r, appW lgN [rcX] (ld 100000 (3 + 2 * j) f 0 i7 fs7 [(lgN, i7)] []) = r := ⟨_, rfl⟩
          rw [show appW lgN [⟨1, S [100, 101], S [120]⟩] (ld 100000 (3 + 2 * j) f 0 i7 fs7 [(lgN, i7)] []) = r from hr] at KA
          rw [hr] at hco
          have HKA := Lib.hid KA
          have HCO := Lib.hid (After.of_append HMG.out rcX_group (by rw [encX_len]; have := HMC.out; omega) hco)
          have HL8n := Lib.hid (HL8.out.below hbn)
          have HA8n := Lib.hid (HA8.out.tr (Tr.of_below hbn G7))
          clear hbn hco hr KA
          go_wp2_with fail
          refine KR.out.mono ?_
          rintro e w8 ⟨rfl, rfl⟩
          clear KR
          go_wp2_with fail
          refine HKA.out.mono ?_
          rintro e w9 ⟨rfl, G9, hls, hlt⟩
          obtain ⟨nn, hnn⟩ : ∃ nn, ms ++ [[rcX]] = nn := ⟨_, rfl⟩
          have hnl : (nn.length : Int) = (j : Int) + 1 := by rw [← hnn, List.length_append]; have := HML.out; simp; omega
          rw [hnn] at HCO
          have HL9 : Hid (Ls w1.heap.size p lb w1 G9 r.2 lgN (ngOf r.1 (j : Int) (nn.length : Int)) (brOf r.1 false) w9) := Lib.hid (by rw [hnl]; exact hls)
          have HA9 := Lib.hid (HA8n.out.lt HL8n.out.lg hlt)
          have HNL := Lib.hid (show nn.length ≤ 10 by omega)
          have HNN := Lib.hid hnn
          have HN1 : Hid (∀ g ∈ nn, g.length ≤ 9223372036854775807) := Lib.hid (fun g hg => by
            rw [← hnn] at hg
            rcases List.mem_append.1 hg with h | h
            · exact HM1.out g h
            · rw [List.mem_singleton] at h; rw [h]; simp)
          obtain ⟨us, hsl1, hsl2, -⟩ := HA9.out
          have hcap : ms.length ≤ cw := by
            rcases hsl2.2 with ⟨he, h0⟩ | ⟨g', cap, cur, he, _, _, hc, _⟩
            · injection he with _ e2 e3
              omega
            · injection he with _ e2 e3
              omega
          have hsf := slice_full Aw ms.length cw hcap
          have HRF : Hid (RdF G9 w9 (.slice Aw ms.length ms.length) ms) := Lib.hid (HA9.out.rdF HM1.out).cap
          clear hls hlt hsl1 hsl2 HKA HL8 HA8 HL8n HA8n hnl hnn hcap
          go_wp2_with fail
          refine wp_region_noPanic ?_
          refine wp_region_held_drew (S := fun _ => True) (by kernel_rfl) trivial (fun hHeld => ?_)
          refine held_take (i := 0) (v := ?_) rfl (by kernel_rfl) (by kernel_rfl) (by kernel_rfl) (fun _ _ _ h => h) (by rfl) hHeld ?y23_0 ?_
          case y23_0 => (intro w hSw; (try dsimp only at hSw); go_simp; try with_reducible rfl)
          try simp only [Act.put, List.setIfInBounds_toArray, List.set_cons_zero, List.set_cons_succ]
          refine held_take (i := 1) (v := ?_) rfl (by kernel_rfl) (by kernel_rfl) (by kernel_rfl) (fun _ _ _ h => h) (by rfl) hHeld ?y23_1 ?_
          case y23_1 => (intro w hSw; (try dsimp only at hSw); go_simp; try with_reducible rfl)
          try simp only [Act.put, List.setIfInBounds_toArray, List.set_cons_zero, List.set_cons_succ]
          refine held_take (i := 2) (v := ?_) rfl (by kernel_rfl) (by kernel_rfl) (by kernel_rfl) (fun _ _ _ h => h) (by rfl) hHeld ?y23_2 ?_
          case y23_2 => (intro w hSw; (try dsimp only at hSw); go_simp; try with_reducible rfl)
          try simp only [Act.put, List.setIfInBounds_toArray, List.set_cons_zero, List.set_cons_succ]
          refine held_take (i := 3) (v := ?_) rfl (by kernel_rfl) (by kernel_rfl) (by kernel_rfl) (fun _ _ _ h => h) (by rfl) hHeld ?y23_3 ?_
          case y23_3 => (intro w hSw; (try dsimp only at hSw); go_simp; try with_reducible rfl)
          try simp only [Act.put, List.setIfInBounds_toArray, List.set_cons_zero, List.set_cons_succ]
          refine held_take (i := 4) (v := ?_) rfl (by kernel_rfl) (by kernel_rfl) (by kernel_rfl) (fun _ _ _ h => h) (by rfl) hHeld ?y23_4 ?_
          case y23_4 => (intro w hSw; (try dsimp only at hSw); go_simp; try with_reducible rfl)
          try simp only [Act.put, List.setIfInBounds_toArray, List.set_cons_zero, List.set_cons_succ]
          refine held_take (i := 5) (v := ?_) rfl (by kernel_rfl) (by kernel_rfl) (by kernel_rfl) (fun _ _ _ h => h) (by rfl) hHeld ?y23_5 ?_
          case y23_5 => (intro w hSw; (try dsimp only at hSw); go_simp; try with_reducible rfl)
          try simp only [Act.put, List.setIfInBounds_toArray, List.set_cons_zero, List.set_cons_succ]
          refine held_one (i := 6) (by kernel_rfl) rfl (fun K hK => ?_)
          (refine step_call (by rfl) _ _ (by rfl) Try.func14 (by kernel_rfl) (by kernel_rfl) (by simp only [List.map_toArray, List.map_cons, List.map_nil]; rfl) ((law_rec (S [100, 101]) (S [120]) _).mono ?_); rintro e wz ⟨rfl, rfl⟩; have hS6 : True := trivial; refine ⟨_, rfl, ?_⟩)
          refine hK.out _ _ ?_ (fun hHeld => ?_)
          · exact hS6
          clear hK K
          try simp only [Act.put, List.setIfInBounds_toArray, List.set_cons_zero, List.set_cons_succ]
          have hb6 : Below w9.heap.size w9 (w9.drew.alloc (.cells #[.int .u8 1, .string (S [100, 101]), .string (S [120])] 50)) := (Below.refl _ w9).drew.alloc (Nat.le_refl _) _
          have ho6 : OwnR (w9.drew.alloc (.cells #[.int .u8 1, .string (S [100, 101]), .string (S [120])] 50)) w9.heap.size (.slice (some ⟨w9.heap.size, 0, none⟩) 1 1) [rcX] := OwnR.one w9.drew w9.heap.size (Nat.le_refl _) 1 (S [100, 101]) (S [120])
          have hN : BrkS w1 p lb G9 r.2 (ngOf r.1 (j : Int) (nn.length : Int)) (brOf r.1 false) Aw ms cw bw (.slice (some ⟨w9.heap.size, 0, none⟩) 1 1) (w9.drew.alloc (.cells #[.int .u8 1, .string (S [100, 101]), .string (S [120])] 50)) := ⟨HL9.out.below hb6, ⟨HRF.out.tr (Tr.of_below hb6 G9), ho6.rd', Far.new HL9.out.dk.at_⟩, HA9.out.tr (Tr.of_below hb6 G9)⟩
          refine held_sharp hN (fun _ _ => trivial) (fun X hHeld => ?_)
          have hX := hHeld
          clear hN hb6 ho6
          refine held_one (i := 7) (by kernel_rfl) rfl (fun K hK => ?_)
          (have hS7 := hX.below ((Below.refl X.heap.size X).alloc (Nat.le_refl _) (.cells #[.slice (some ⟨w9.heap.size, 0, none⟩) 1 1] 32)); go_simp)
          refine hK.out _ _ ?_ (fun hHeld => ?_)
          · exact hS7
          clear hK K
          try simp only [Act.put, List.setIfInBounds_toArray, List.set_cons_zero, List.set_cons_succ]
          refine held_one (i := 8) (by kernel_rfl) rfl (fun K hK => ?_)
          (obtain ⟨va, wa, hrun, hrfa, hba⟩ := full_append (y := .slice (some ⟨w9.heap.size, 0, none⟩) 1 1) (g := [rcX]) hX.2.1.1 hX.1.dk.at_ hX.2.1.2.1 hX.2.1.2.2 (by have := HML.out; omega) 27; have hS8 := hX.below hba; refine step_append_run rfl _ _ 27 rfl _ _ va wa rfl rfl hrun ?_)
          refine hK.out _ _ ?_ (fun hHeld => ?_)
          · exact hS8
          clear hK K
          try simp only [Act.put, List.setIfInBounds_toArray, List.set_cons_zero, List.set_cons_succ]
          refine held_take (i := 9) (v := ?_) rfl (by kernel_rfl) (by kernel_rfl) (by kernel_rfl) (fun _ _ _ h => h) (by rfl) hHeld ?y23_9 ?_
          case y23_9 => (intro w hSw; (try dsimp only at hSw); go_simp; try with_reducible rfl)
          try simp only [Act.put, List.setIfInBounds_toArray, List.set_cons_zero, List.set_cons_succ]
          refine wpAnyH_done (by kernel_rfl) ?_ _
          refine NoPanic.normal ?_
          have HRX : Hid (RdF G9 wa va nn) := Lib.hid (by rw [← HNN.out]; exact hrfa)
          have HLX := Lib.hid hHeld.1
          have HAX := Lib.hid hHeld.2.2
          clear hHeld hrfa hba hrun hX
          go_wp2_with fail
          go_meet
          exact ⟨r, G9, nn, st', rfl, by omega, HLX.out, HRX.out, HAX.out, HCO.out, HNL.out, HN1.out⟩
      case rest =>
        obtain ⟨r, G9, ns, st9, rfl, hst9, hl9, hr9, ha9, hcall, hn10, hn1⟩ := hcut
        have HN1 := Lib.hid hn1
        have HL9 := Lib.hid hl9
        have HR9 := Lib.hid hr9
        have HA9 := Lib.hid ha9
        have HCALL := Lib.hid hcall
        obtain ⟨An, cn, rfl⟩ := hr9.sl
        have KF := Lib.hid (k_fail hl9.dk 0 (by omega))
        clear hl9 hr9 ha9 hcall hn1
        obtain ⟨er, d9⟩ := r
        go_wp2_with fail
        refine KF.out.mono ?_
        rintro e w10 ⟨⟨u10, rfl⟩, hd10, ht10⟩
        have HL10 := Lib.hid (HL9.out.tr hd10 ht10)
        have HR10 := Lib.hid (HR9.out.tr ht10)
        have HM10 := Lib.hid ((HA9.out.tr ht10).rdF HM1.out)
        clear hd10 ht10 KF HL9 HR9 HA9
        rcases HCALL.out with ⟨he, -⟩ | ⟨he, i9, fs9, k9, kp9, si9, b9, e1, e2, e3, e4⟩
        · dsimp only at he
          subst he
          rw [ng_zero, br_zero] at HL10
          have KB := Lib.hid (wal_broken lb lgN (ns.length : Int) false w10 HL10.out.lg)
          have KL := Lib.hid (wal_len lb lgN (ns.length : Int) false w10 HL10.out.lg)
          have HBL := Lib.hid HL10.out.dk.bel
          go_wp2_with fail
          refine KB.out.mono ?_
          rintro e w11 ⟨rfl, rfl⟩
          clear KB
          go_wp2_with fail
          refine KL.out.mono ?_
          rintro e w12 ⟨rfl, rfl⟩
          clear KL
          go_wp2_with fail
          go_ret
          exact ⟨rfl, HB1.out.trans (HBL.out.mono HB1.out.size)⟩
        · dsimp only at he e1 e4
          subst he
          have HE1 := Lib.hid e1
          have HE2 := Lib.hid e2
          have HE3 := Lib.hid e3
          have HE4 := Lib.hid e4
          have HLt : Hid (Ls w1.heap.size p lb w1 G9 (d9.fail 0) lgN (j : Int) true w10) := Lib.hid HL10.out
          clear e1 e2 e3 e4 HL10
          have KB := Lib.hid (wal_broken lb lgN (j : Int) true w10 HLt.out.lg)
          have KR := Lib.hid (law_rec (S [102, 114]) (S [121]) w10)
          have hb11 := (Below.refl w10.heap.size w10).alloc (Nat.le_refl _) (.cells #[.int .u8 1, .string (S [102, 114]), .string (S [121])] 50)
          have KA := Lib.hid (wal_append_broken (HLt.out.below hb11) (some ⟨w10.heap.size, 0, none⟩) 1 1)
          have HB11 := Lib.hid hb11
          clear hb11
          go_wp2_with fail
          refine KB.out.mono ?_
          rintro e w11 ⟨rfl, rfl⟩
          clear KB
          go_wp2_with fail
          refine KR.out.mono ?_
          rintro e w12 ⟨rfl, rfl⟩
          clear KR
          go_wp2_with fail
          refine KA.out.mono ?_
          rintro e w13 ⟨rfl, hb13⟩
          have hb := HB11.out.trans (hb13.mono HB11.out.size)
          have HL13 := Lib.hid (HLt.out.below hb)
          have HR13 := Lib.hid (HR10.out.below hb)
          have HM13 := Lib.hid (HM10.out.below hb)
          have KC := Lib.hid (wal_clear_no HL13.out)
          clear hb hb13 KA HLt HR10 HM10 HB11
          go_wp2_with fail
          refine KC.out.mono ?_
          rintro e w14 ⟨rfl, rfl⟩
          clear KC
          cases cr with
          | false =>
            have HD := Lib.hid HL13.out.dk
            have HLO : Hid (Loose 100000 st9 b9 (d9.fail 0)) := Lib.hid ⟨i9, fs9, k9, kp9, si9, by rw [HE1.out]; rfl, HE2.out⟩
            have HGB := Lib.hid HE3.out
            obtain ⟨d20, st20, -, h20, -⟩ := HLO.out.opens (by have := HGB.out.2.2; omega) (by have := HGB.out.2.2; omega) HGB.out.2.1
            have KO := wal_openF HD.out (by rw [HLO.out.steps.1]; omega) (nm := lgN) (by decide) (by decide) (by rw [HLO.out.steps.2]; omega)
            rw [h20, HLO.out.read] at KO
            dsimp only at KO
            obtain ⟨g9, hg9⟩ : ∃ g9, gsOf b9 = g9 := ⟨_, rfl⟩
            have HG9 : Hid (g9 = ms ∨ g9 = ns) := Lib.hid (by rw [← hg9]; exact HGB.out.1)
            rw [hg9] at KO
            have HKO := Lib.hid KO
            have HGL : Hid (g9.length ≤ 10 ∧ ∀ g ∈ g9, g.length ≤ 9223372036854775807) := Lib.hid (by
              rcases HG9.out with h | h
              · rw [h]; exact ⟨by have := HML.out; omega, HM1.out⟩
              · rw [h]; exact ⟨hn10, HN1.out⟩)
            clear KO hg9 h20
            go_wp2_with fail
            refine HKO.out.mono ?_
            rintro e w20 (⟨-, v20, lb20, G20, rfl, -, hls, hag, ht⟩ | ⟨hno, -⟩)
            case inr => exact absurd rfl hno
            have HM20 := Lib.hid (HM13.out.tr ht)
            have HR20 := Lib.hid (HR13.out.tr ht)
            have HX20 := Lib.hid (hag.rdF HGL.out.2)
            obtain ⟨A20, c20, rfl⟩ := hag.sl
            have KB := Lib.hid (wal_broken lb20 lgN (g9.length : Int) false w20 hls.lg)
            have HBL := Lib.hid hls.dk.bel
            have KG := Lib.hid (law22_groups _ _ g9 ms w20 HX20.out.rdG HM20.out.rdG (by have := HGL.out.1; omega))
            have KG2 := Lib.hid (fun W (hb : Below w20.heap.size w20 W) => law22_groups _ _ g9 ns W (HX20.out.rdG.below hb) (HR20.out.rdG.below hb) (by have := HGL.out.1; omega))
            clear hls hag ht HKO
            go_wp2_with fail
            refine KB.out.mono ?_
            rintro e w21 ⟨rfl, rfl⟩
            clear KB
            by_cases heq : g9 = ms
            · rw [decide_eq_true heq] at KG
              clear heq
              go_wp2_with fail
              refine KG.out.mono ?_
              rintro e w22 ⟨rfl, hb22⟩
              have HB22 := Lib.hid hb22
              clear hb22 KG KG2
              go_wp2_with fail
              go_ret
              exact ⟨rfl, HB1.out.trans ((HBL.out.trans (HB22.out.mono HBL.out.size)).mono HB1.out.size)⟩
            · rw [decide_eq_false heq] at KG
              have HNE := Lib.hid heq
              clear heq
              go_wp2_with fail
              refine KG.out.mono ?_
              rintro e w22 ⟨rfl, hb22⟩
              have HB22 := Lib.hid hb22
              have K2 := KG2.out w22 hb22
              rw [decide_eq_true (HG9.out.resolve_left HNE.out)] at K2
              have HK2 := Lib.hid K2
              clear hb22 KG KG2 K2
              go_wp2_with fail
              refine HK2.out.mono ?_
              rintro e w23 ⟨rfl, hb23⟩
              have HB23 := Lib.hid hb23
              clear hb23 HK2
              go_wp2_with fail
              go_ret
              exact ⟨rfl, HB1.out.trans ((HBL.out.trans ((HB22.out.trans (HB23.out.mono HB22.out.size)).mono HBL.out.size)).mono HB1.out.size)⟩
          | true =>
            have KX := Lib.hid (k_crash HL13.out.dk (.slice A cs.length c) cs (RdB.below HV1.out HL13.out.dk.bel) HCS.out (Far.old HL13.out.dk.at_ HV1.out))
            go_wp2_with fail
            refine KX.out.mono ?_
            rintro e w15 ⟨⟨u15, rfl⟩, G15, hd15, ht15⟩
            rw [fail_crash] at hd15
            obtain ⟨bc, hil, hgood⟩ := HE4.out cs
            have HD := Lib.hid hd15
            have HLO := Lib.hid hil.loose
            have HGB := Lib.hid hgood
            have HM13c := Lib.hid (HM13.out.tr ht15)
            have HR13c := Lib.hid (HR13.out.tr ht15)
            clear hd15 ht15 KX hil hgood
            obtain ⟨d20, st20, -, h20, -⟩ := HLO.out.opens (by have := HGB.out.2.2; omega) (by have := HGB.out.2.2; omega) HGB.out.2.1
            have KO := wal_openF HD.out (by rw [HLO.out.steps.1]; omega) (nm := lgN) (by decide) (by decide) (by rw [HLO.out.steps.2]; omega)
            rw [h20, HLO.out.read] at KO
            dsimp only at KO
            obtain ⟨g9, hg9⟩ : ∃ g9, gsOf bc = g9 := ⟨_, rfl⟩
            have HG9 : Hid (g9 = ms ∨ g9 = ns) := Lib.hid (by rw [← hg9]; exact HGB.out.1)
            rw [hg9] at KO
            have HKO := Lib.hid KO
            have HGL : Hid (g9.length ≤ 10 ∧ ∀ g ∈ g9, g.length ≤ 9223372036854775807) := Lib.hid (by
              rcases HG9.out with h | h
              · rw [h]; exact ⟨by have := HML.out; omega, HM1.out⟩
              · rw [h]; exact ⟨hn10, HN1.out⟩)
            clear KO hg9 h20
            go_wp2_with fail
            refine HKO.out.mono ?_
            rintro e w20 (⟨-, v20, lb20, G20, rfl, -, hls, hag, ht⟩ | ⟨hno, -⟩)
            case inr => exact absurd rfl hno
            have HM20 := Lib.hid (HM13c.out.tr ht)
            have HR20 := Lib.hid (HR13c.out.tr ht)
            have HX20 := Lib.hid (hag.rdF HGL.out.2)
            obtain ⟨A20, c20, rfl⟩ := hag.sl
            have KB := Lib.hid (wal_broken lb20 lgN (g9.length : Int) false w20 hls.lg)
            have HBL := Lib.hid hls.dk.bel
            have KG := Lib.hid (law22_groups _ _ g9 ms w20 HX20.out.rdG HM20.out.rdG (by have := HGL.out.1; omega))
            have KG2 := Lib.hid (fun W (hb : Below w20.heap.size w20 W) => law22_groups _ _ g9 ns W (HX20.out.rdG.below hb) (HR20.out.rdG.below hb) (by have := HGL.out.1; omega))
            clear hls hag ht HKO
            go_wp2_with fail
            refine KB.out.mono ?_
            rintro e w21 ⟨rfl, rfl⟩
            clear KB
            by_cases heq : g9 = ms
            · rw [decide_eq_true heq] at KG
              clear heq
              go_wp2_with fail
              refine KG.out.mono ?_
              rintro e w22 ⟨rfl, hb22⟩
              have HB22 := Lib.hid hb22
              clear hb22 KG KG2
              go_wp2_with fail
              go_ret
              exact ⟨rfl, HB1.out.trans ((HBL.out.trans (HB22.out.mono HBL.out.size)).mono HB1.out.size)⟩
            · rw [decide_eq_false heq] at KG
              have HNE := Lib.hid heq
              clear heq
              go_wp2_with fail
              refine KG.out.mono ?_
              rintro e w22 ⟨rfl, hb22⟩
              have HB22 := Lib.hid hb22
              have K2 := KG2.out w22 hb22
              rw [decide_eq_true (HG9.out.resolve_left HNE.out)] at K2
              have HK2 := Lib.hid K2
              clear hb22 KG KG2 K2
              go_wp2_with fail
              refine HK2.out.mono ?_
              rintro e w23 ⟨rfl, hb23⟩
              have HB23 := Lib.hid hb23
              clear hb23 HK2
              go_wp2_with fail
              go_ret
              exact ⟨rfl, HB1.out.trans ((HBL.out.trans ((HB22.out.trans (HB23.out.mono HB22.out.size)).mono HBL.out.size)).mono HB1.out.size)⟩
end Go.Proofs.Ytmdecbockpgagaa
