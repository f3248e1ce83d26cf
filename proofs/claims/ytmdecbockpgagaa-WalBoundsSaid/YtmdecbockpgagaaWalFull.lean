import Derived.Test.YtmdecbockpgagaaWalClears
/- hornbooklaw22.WalFull. -/
namespace Go.Proofs.Ytmdecbockpgagaa
open Go.RowKit Go.Maps Go.Proofs.YtmdecbockpgagaaW.PrintWords Go.Proofs.YtmdecbockpgagaaW.PrintMore
variable {B p lb : Nat} {w0 : World} {G : DG} {d : DS} {w w' : World} {nm : Nm} {ng : Int} {br : Bool}

def zs (n : Nat) : ByteArray := strOfNums (List.replicate n 0)
theorem zs_size (n : Nat) : (zs n).size = n := by
  unfold zs strOfNums
  rw [ByteArray.size]
  simp
theorem conv_zs (W : World) (n : Nat) (hn : n ≤ 1000000) : (convert 22 9 (.slice (some ⟨W.heap.size, 0, none⟩) n n)).run Try.prog (W.alloc (.cells (madeCells #[.int .u8 0] n) 5)) = .ok (.string (zs n)) (W.alloc (.cells (madeCells #[.int .u8 0] n) 5)) := by
  have hown := own_made W W.heap.size 5 .u8 n (Nat.le_refl _) (by omega)
  have hrd : RdB (W.alloc (.cells (madeCells #[.int .u8 0] n) 5)) (.slice (some ⟨W.heap.size, 0, none⟩) n n) (List.replicate n 0) := by
    have : OwnB (W.alloc (.cells (madeCells #[.int .u8 0] n) 5)) W.heap.size (.slice (some ⟨W.heap.size, 0, none⟩) n n) (List.replicate n 0) := by
      unfold OwnB
      rw [List.length_replicate]
      exact hown
    exact this.rd
  have hr := hrd.reads
  have := conv_bytes_string (P := Try.prog) 22 5 9 Try.underlying22 Try.underlying5 Try.underlying9 hr n
  rw [show strOfNums (List.replicate n 0) = zs n from rfl, List.length_replicate] at this
  exact this
def rcZ (k : Nat) : Rc := ⟨1, S [101, 110], zs k⟩
theorem rcZ_group (k : Nat) (hk : k ≤ 1000) : groupB [rcZ k] = true := by
  have h1 : (S [101, 110]).size = 2 := S_size _
  have h2 : (rcZ k).text.size = k := zs_size k
  have h3 : (rcZ k).tag.size = 2 := h1
  have h4 : (rcZ k).kind = 1 := rfl
  simp [groupB, rightB, h2, h3, h4]
  omega
theorem encZ_len (k : Nat) (hk : k ≤ 1000) : (encG [rcZ k]).length = k + 25 := by
  rw [enc_one _ (rcZ_group k hk)]
  show (S [101, 110]).size + (zs k).size + 23 = _
  rw [S_size, zs_size]
  show 2 + k + 23 = _
  omega
/-- A group that the disk has no room for. -/
theorem wd_full {q : Int} {st : Nat} {old : List Fl} {b : List Int} (rs : List Rc) (hq : q < ((b.length + (encG rs).length : Nat) : Int)) : appW lgN rs (wdisk q st old b) = (201, wdisk q (st + 1) old b) := by
  have h1 : (wdisk q st old b).append lgN (encG rs) = (201, wdisk q (st + 1) old b) := by
    rw [append_no _ lgN (encG rs) old.length ⟨b, b.length⟩ (wd_open rfl rfl (by show (0 : Int) ≤ (st : Int); omega) (mlk_lg _)) (mlk_lg _) (wd_file q st old b) (by
      rw [wd_used]
      show q < (b.length : Int) ∨ q - (b.length : Int) < ((encG rs).length : Int) ∨ 400000 - (b.length : Int) < ((encG rs).length : Int)
      omega)]
    unfold DS.tick wdisk
    simp
  unfold appW
  simp [runL, h1]
theorem four_rd (W : World) : RdB (W.alloc (.cells #[.int .u8 1, .int .u8 2, .int .u8 3, .int .u8 4] 5)) (.slice (some ⟨W.heap.size, 0, none⟩) 4 4) [1, 2, 3, 4] := by
  refine ⟨_, 4, rfl, by decide, rfl, by decide, fun _ => ⟨_, rfl, fun j hj => ?_⟩⟩
  rw [add_plain]
  refine cells_blk (alloc_new W _) j _ ?_
  match j, hj with
  | 0, _ => rfl
  | 1, _ => rfl
  | 2, _ => rfl
  | 3, _ => rfl
set_option maxRecDepth 100000 in
set_option maxHeartbeats 4000000 in
theorem walFull_walk (a b : Int) (w : World) (ha : 0 ≤ a ∧ a < 65536) (hb : 0 ≤ b ∧ b < 256) :
    Calls Try.prog 7 #[.int .u16 a, .int .u8 b] w fun e w' => e = .returned (.bool true) ∧ Below w.heap.size w w' := by
  obtain ⟨i0, hi, hz0, hz1, hz2⟩ := info_parts infoRs
  have K0 := Lib.hid (law22_known w)
  obtain ⟨q, hq⟩ : ∃ q : Nat, a % 3000 = (q : Int) := ⟨(a % 3000).toNat, by omega⟩
  obtain ⟨n, hn⟩ : ∃ n : Nat, b % 60 = (n : Int) := ⟨(b % 60).toNat, by omega⟩
  have hq3 : q < 3000 := by omega
  have hn60 : n < 60 := by omega
  go_enter Try.func7, Try.ntmps7
  go_wp2_with fail
  refine K0.out.mono ?_
  rintro e w1 ⟨rfl, hb1⟩
  have HB1 := Lib.hid hb1
  have K1 := Lib.hid (k_new w1 ((q : Int) + 600))
  clear hb1 K0
  go_wp2_with fail
  refine K1.out.mono ?_
  rintro e w2 ⟨p, G0, rfl, hp, hk⟩
  obtain ⟨qq, hqq⟩ : ∃ qq : Int, (q : Int) + 600 = qq := ⟨_, rfl⟩
  rw [hqq] at hk
  have HQQ : Hid (600 ≤ qq ∧ qq < 3600) := Lib.hid (by omega)
  obtain ⟨f1, f2⟩ := wd_first (q := qq)
  have KO := Lib.hid (wal_open hk (by show (0 : Int) + 30 < 1000000000; omega) (nm := lgN) (by decide) (fun h => by rw [f1] at h; exact absurd h (by decide)))
  rw [f2, f1] at KO
  clear hk K1 hp f1 f2 hq hqq ha
  go_wp2_with fail
  refine KO.out.mono ?_
  rintro e w3 (⟨-, v2, lb, G2, rfl, hlb, hls, hag, ht⟩ | ⟨hno, -⟩)
  case inr => exact absurd rfl hno
  rw [show gsOf ([] : List Int) = [] from congrArg (List.map _) gB_nil] at hag hls
  obtain ⟨A2, c2, rfl⟩ := hag.sl
  have HL3 : Hid (Ls w1.heap.size p lb w1 G2 (wdisk qq 3 [] []) lgN 0 false w3) := Lib.hid hls
  obtain ⟨bw, hbw⟩ : ∃ bw, w3.heap.size = bw := ⟨_, rfl⟩
  have HBW : Hid (w1.heap.size ≤ bw) := Lib.hid (by rw [← hbw]; exact HL3.out.dk.bel.size)
  have HA0 : Hid (OwnA G2 w3 bw (.slice none 0 0) []) := Lib.hid ⟨[], rfl, World.ownsRow_nil _ _ _ _, Apart.nil _, fun i y g hy => by simp at hy⟩
  clear hls hag ht KO hlb
  go_wp2_with fail
  go_loopw [9, 10] (fun u i wr => ∃ (j st : Nat) (G : DG) (gs : List (List Rc)), i = .int .i64 (j : Int) ∧ j ≤ n ∧ st ≤ 3 + 2 * j ∧ gs.length ≤ j ∧ (catG gs).length ≤ 225 * j ∧ (∀ g ∈ gs, groupB g = true ∧ g.length = 1) ∧ Ls w1.heap.size p lb w1 G (wdisk qq st [] (catG gs)) lgN (gs.length : Int) false wr ∧ OwnA G wr bw u gs ∧ bw ≤ wr.heap.size) (fun _ i _ => n - (intOf i).toNat)
  case atStart => exact ⟨0, 3, G2, [], rfl, Nat.zero_le _, by omega, Nat.le_refl _, by simp [catG], fun g hg => by simp at hg, HL3.out, HA0.out, by omega⟩
  case round =>
    obtain ⟨j, st, G7, gs, rfl, hj, hst, hgl, hcl, hgg, hl, ha, hsz⟩ := hrel
    have HL := Lib.hid hl
    have HA := Lib.hid ha
    have HGG := Lib.hid hgg
    obtain ⟨Au, cu, rfl⟩ := HA.out.sl
    clear hl ha hgg hbw
    by_cases hlt : j < n
    · have hlt' : (j : Int) < (n : Int) := by omega
      obtain ⟨k, hk⟩ : ∃ k : Nat, (j : Int) * 7 % 200 = (k : Int) := ⟨((j : Int) * 7 % 200).toNat, by omega⟩
      have hkt : ((j : Int) * 7).tmod 200 = (k : Int) := by rw [Int.tmod_eq_emod_of_nonneg (by omega)]; exact hk
      have hk200 : k < 200 := by omega
      have hmk : ∀ W : World, (Instr.makeSlice 22 (.int .i64 (k : Int)) (.int .i64 (k : Int))).run Try.prog W = .ok (.slice (some ⟨W.heap.size, 0, none⟩) k k) (W.alloc (.cells (madeCells #[.int .u8 0] k) 5)) :=
        print_make 22 5 .u8 1 Try.underlying22 info8 (by omega) k (by omega)
      have hcv := conv_zs wr k (by omega)
      have hb6 := (Below.refl wr.heap.size wr).alloc (Nat.le_refl _) (.cells (madeCells #[.int .u8 0] k) 5)
      have hb7 := hb6.alloc (by simp) (.cells #[.int .u8 1, .string (S [101, 110]), .string (zs k)] 50)
      have ho7 : OwnR _ wr.heap.size _ [rcZ k] := OwnR.one (wr.alloc (.cells (madeCells #[.int .u8 0] k) 5)) wr.heap.size (by simp) 1 (S [101, 110]) (zs k)
      have ha7 := Apart.new HL.out.dk.at_ (Nat.le_refl _) ho7
      have hgZ := rcZ_group k (by omega)
      have heZ := encZ_len k (by omega)
      have KA := Lib.hid (wal_append (HL.out.below hb7) (by show ((st : Nat) : Int) + 15 < 1000000000; omega) (by decide) ho7.rd' (Far.own ha7) hgZ (by have := HQQ.out; show -9223372036854775808 ≤ qq ∧ qq < 9223372036854775808; omega) (by omega))
      have HL7 := Lib.hid (HL.out.below hb7)
      have HA7 := Lib.hid (HA.out.tr (Tr.of_below hb7 G7))
      have HO7 := Lib.hid ho7
      have HP7 := Lib.hid ha7
      have hs7 := hb7.size
      simp only [World.size_alloc] at KA HO7 HP7
      clear hb6 hb7 ho7 ha7 HL HA hs7
      by_cases hfit : (((catG gs).length + (encG [rcZ k]).length : Nat) : Int) ≤ qq
      · have hap := wd_append (q := qq) (st := st) (old := []) (b := catG gs) [rcZ k] hfit (by rw [heZ]; omega)
        rw [← catG_snoc] at hap
        have hnew : (catG (gs ++ [[rcZ k]])).length = (catG gs).length + (k + 25) := by rw [catG_snoc, List.length_append, heZ]
        obtain ⟨gs2, hg2⟩ : ∃ gs2, gs ++ [[rcZ k]] = gs2 := ⟨_, rfl⟩
        have hl2 : gs2.length = gs.length + 1 := by rw [← hg2]; simp
        have hl2' : (gs.length : Int) + 1 = (gs2.length : Int) := by omega
        have HGG2 : Hid (∀ g ∈ gs2, groupB g = true ∧ g.length = 1) := Lib.hid (by
          rw [← hg2]
          intro g hg
          rcases List.mem_append.1 hg with h | h
          · exact HGG.out g h
          · rw [List.mem_singleton] at h
            subst h
            exact ⟨hgZ, rfl⟩)
        rw [hg2] at hap hnew
        rw [hap] at KA
        have HL2 := Lib.hid hl2
        have HL2' := Lib.hid hl2'
        have HNEW := Lib.hid hnew
        clear hap hgZ heZ hfit hl2 hl2' hnew
        go_wp2_with fail
        refine KA.out.mono ?_
        rintro e w8 ⟨rfl, G8, hls, hlt8⟩
        have HL8 : Hid (Ls w1.heap.size p lb w1 G8 (wdisk qq (st + 2) [] (catG gs2)) lgN (gs2.length : Int) false w8) := Lib.hid (by rw [← HL2'.out]; exact hls)
        have HA8 := Lib.hid (HA7.out.lt HL7.out.lg hlt8)
        obtain ⟨hp8, ho8⟩ := own_lt HL7.out.lg HP7.out HO7.out (by decide) hlt8
        have hs8 := hlt8.size
        simp only [World.size_alloc] at hs8
        obtain ⟨us, hul, hus, hua, hup⟩ := HA8.out.push (own_weaken ho8 hsz) hp8 HL8.out.dk.at_
        rw [hg2] at hup
        have HUS := Lib.hid hus
        have HUA := Lib.hid hua
        have HUP := Lib.hid hup
        have KB := Lib.hid (wal_broken lb lgN (gs2.length : Int) false w8 HL8.out.lg)
        clear hls hlt8 KA HL7 HA7 HP7 HO7 hp8 ho8 hus hua hup
        go_wp2_with fail
        refine KB.out.mono ?_
        rintro e w9 ⟨rfl, rfl⟩
        clear KB
        go_wp2_with (at_builtin; refine wpList_append_own_at _ rfl _ _ 27 rfl bw 32 i0 (.slice none 0 0) 1 24 Try.underlying27 hi hz0 hz1 hz2 rfl (by decide) _ _ _ rfl (World.ownsRow.alloc HUS.out _) ⟨_, 0, none⟩ 1 1 [.slice (some ⟨wr.heap.size + 1, 0, none⟩) 1 1] rfl rfl (cell_one_new _ _ _) (by simp [Value.oneCell']) (by have : maxLen = 9223372036854775807 := rfl; omega) (by omega) (by simp; omega) ?_; intro v' z1 hown' hgrow _ hat; have HAz := Lib.hid (HUP.out _ z1 v' hown' hgrow hat); have HLz := Lib.hid ((HL8.out.below ((Below.refl w9.heap.size w9).alloc (Nat.le_refl _) _)).grown (World.ownsRow.alloc HUS.out _) HBW.out hgrow HUA.out (by decide)); have hsz2 := hgrow.size; simp only [World.size_alloc] at hsz2; have KL := Lib.hid (wal_len lb lgN (gs2.length : Int) false z1 HLz.out.lg); obtain ⟨Av, cv, hv⟩ := HAz.out.sl; subst hv; clear hown' hgrow hat)
        refine KL.out.mono ?_
        rintro e w10 ⟨rfl, rfl⟩
        clear KL
        go_wp2_with fail
        go_roundw
        case rel => exact ⟨j + 1, st + 2, G8, gs2, by go_num, by omega, by omega, by have := HL2.out; omega, by have := HNEW.out; omega, HGG2.out, HLz.out, HAz.out, by omega⟩
        case measure => simp [intOf]; omega
      · have hap := wd_full (q := qq) (st := st) (old := []) (b := catG gs) [rcZ k] (by omega)
        rw [hap] at KA
        clear hap hgZ heZ hfit
        go_wp2_with fail
        refine KA.out.mono ?_
        rintro e w8 ⟨rfl, G8, hls, hlt8⟩
        have HL8 : Hid (Ls w1.heap.size p lb w1 G8 (wdisk qq (st + 1) [] (catG gs)) lgN (gs.length : Int) false w8) := Lib.hid hls
        have HA8 := Lib.hid (HA7.out.lt HL7.out.lg hlt8)
        have hs8 := hlt8.size
        simp only [World.size_alloc] at hs8
        have KB := Lib.hid (wal_broken lb lgN (gs.length : Int) false w8 HL8.out.lg)
        clear hls hlt8 KA HL7 HA7 HP7 HO7
        go_wp2_with fail
        refine KB.out.mono ?_
        rintro e w9 ⟨rfl, rfl⟩
        have KL := Lib.hid (wal_len lb lgN (gs.length : Int) false _ HL8.out.lg)
        clear KB
        go_wp2_with fail
        refine KL.out.mono ?_
        rintro e w10 ⟨rfl, rfl⟩
        clear KL
        go_wp2_with fail
        go_roundw
        case rel => exact ⟨j + 1, st + 1, G8, gs, by go_num, by omega, by omega, by omega, by omega, HGG.out, HL8.out, HA8.out, by omega⟩
        case measure => simp [intOf]; omega
    · have hge : ¬ (j : Int) < (n : Int) := by omega
      obtain rfl : j = n := by omega
      have hrd4 := four_rd wr
      have hb4 := (Below.refl wr.heap.size wr).alloc (Nat.le_refl _) (.cells #[.int .u8 1, .int .u8 2, .int .u8 3, .int .u8 4] 5)
      have KC := Lib.hid (k_crash (HL.out.below hb4).dk _ [1, 2, 3, 4] hrd4 (by intro y hy; simp at hy; omega) (Far.new HL.out.dk.at_))
      have HA4 := Lib.hid (HA.out.tr (Tr.of_below hb4 G7))
      clear hrd4 hb4
      go_wp2_with fail
      refine KC.out.mono ?_
      rintro e w7 ⟨⟨u7, rfl⟩, G8, hd, ht⟩
      rw [wd_crash] at hd
      have hgb : ∀ g ∈ gs, groupB g = true := fun g hg => (HGG.out g hg).1
      have hgo : ∀ g ∈ gs, g.length ≤ 9223372036854775807 := fun g hg => by have := (HGG.out g hg).2; omega
      have HA8 := Lib.hid (HA4.out.tr ht)
      have KO := Lib.hid (wal_open hd (by show ((st : Nat) : Int) + 30 < 1000000000; omega) (nm := lgN) (by decide) (fun _ => by rw [wd_read]; exact (gB_cat _ hgb).2))
      rw [wd_again, wd_read] at KO
      have HGO := Lib.hid hgo
      have HGB := Lib.hid hgb
      clear hd ht KC HL HA HA4 hgo hgb
      go_wp2_with fail
      refine KO.out.mono ?_
      rintro e w8 (⟨-, v8, lb8, G9, rfl, hlb8, hls, hag, ht⟩ | ⟨hno, -⟩)
      case inr => exact absurd rfl hno
      rw [show gsOf (catG gs) = gs from (gB_cat _ HGB.out).1] at hag
      have HW8 := Lib.hid (HA8.out.tr ht)
      have HX8 := Lib.hid hag
      have HBL := Lib.hid hls.dk.bel
      obtain ⟨Ax, cx, rfl⟩ := hag.sl
      have KG := Lib.hid (law22_groups _ _ gs gs w8 (HX8.out.rdG HGO.out) (HW8.out.rdG HGO.out) (by omega))
      rw [decide_eq_true rfl] at KG
      clear hls hag ht KO hlb8
      go_wp2_with fail
      refine KG.out.mono ?_
      rintro e w9 ⟨rfl, hb9⟩
      have HB9 := Lib.hid hb9
      clear hb9 KG
      go_wp2_with fail
      go_ret
      exact ⟨rfl, (HB1.out.trans (HBL.out.mono HB1.out.size)).trans (HB9.out.mono (Nat.le_trans HB1.out.size HBL.out.size))⟩
end Go.Proofs.Ytmdecbockpgagaa
