import Derived.Test.YtbooiaaejhbbkaaDiskPowers
/- DiskDirs: names that were not synced are kept in their order. -/
namespace Go.Proofs.Ytbooiaaejhbbkaa
open Go.RowKit Go.Maps Go.Proofs.YtbooiaaejhbbkaaW.PrintWords Go.Proofs.YtbooiaaejhbbkaaW.PrintMore

def nmF (i : Nat) : Nm := [102, UInt8.ofNat (97 + i)]
def ddN (i : Nat) : NM := (List.range i).map fun t => (nmF t, t)
def ddC (lo i : Nat) : List Chg := ((List.range i).drop lo).map fun t => ⟨some t, [], nmF t⟩
/-- The disk behind i files, the names kept behind lo of them; st steps. -/
def dd (lo i st : Nat) : DS := ⟨1000, ddN i, ddN lo, ddC lo i, (st : Int), 0, 0, List.replicate i ⟨[], 0⟩⟩
theorem ddN_put (i : Nat) (h : i < 10) : mput (ddN i) (nmF i) i = ddN (i + 1) := by
  have : i = 0 ∨ i = 1 ∨ i = 2 ∨ i = 3 ∨ i = 4 ∨ i = 5 ∨ i = 6 ∨ i = 7 ∨ i = 8 ∨ i = 9 := by omega
  rcases this with rfl | rfl | rfl | rfl | rfl | rfl | rfl | rfl | rfl | rfl <;> decide +kernel
theorem nmF_ok (i : Nat) (h : i < 10) : nameB (nmF i) = true := by
  have : i = 0 ∨ i = 1 ∨ i = 2 ∨ i = 3 ∨ i = 4 ∨ i = 5 ∨ i = 6 ∨ i = 7 ∨ i = 8 ∨ i = 9 := by omega
  rcases this with rfl | rfl | rfl | rfl | rfl | rfl | rfl | rfl | rfl | rfl <;> decide +kernel
theorem ddN_length (i : Nat) : (ddN i).length = i := by simp [ddN]
theorem ddC_succ (lo i : Nat) (h : lo ≤ i) : ddC lo (i + 1) = ddC lo i ++ [⟨some i, [], nmF i⟩] := by
  unfold ddC
  rw [List.range_succ, List.drop_append_of_le_length (by simpa using h), List.map_append]
  rfl
theorem ddC_length (lo i : Nat) : (ddC lo i).length = i - lo := by simp [ddC]
theorem dd_off (lo i st : Nat) : (dd lo i st).off = false := rfl
theorem dd_create (lo i st : Nat) (hi : i < 10) (hlo : lo ≤ i) : (dd lo i st).create (nmF i) = (0, dd lo (i + 1) (st + 1)) := by
  rw [create_done (d := dd lo i st) (s := nmF i) rfl (show ¬ ((st : Int) + 1 = 0) by omega) (nmF_ok i hi) (by show (ddN i).length < 200; rw [ddN_length]; omega)]
  have hl : (dd lo i st).files.length = i := by
    show (List.replicate i (⟨[], 0⟩ : Fl)).length = i
    exact List.length_replicate
  rw [hl]
  unfold dd
  simp only [DS.tick, Prod.mk.injEq, true_and]
  rw [ddN_put i hi, ddC_succ lo i hlo, ← List.replicate_succ']
  rfl
theorem dd_sync (lo i st : Nat) : (dd lo i st).syncDir = (0, dd i i (st + 1)) := by
  have hc : (dd lo i st).tick.code [] = 0 := by
    unfold DS.code
    rw [show (dd lo i st).tick.off = false from rfl, if_neg (by decide), if_neg (show ¬ (dd lo i st).tick.steps = (dd lo i st).tick.failAt from by show ¬ ((st : Int) + 1 = 0); omega)]
    rfl
  unfold DS.syncDir
  simp only
  rw [if_neg (by rw [hc]; simp)]
  unfold dd ddC
  simp only [DS.tick, Prod.mk.injEq, true_and]
  rw [List.drop_of_length_le (by simp)]
  rfl
theorem dd_replay (lo k : Nat) (hk : k ≤ 10) : ∀ (a : Nat), lo + a ≤ k → replay (ddN lo) ((ddC lo k).take a) = some (ddN (lo + a))
  | 0, _ => by rw [List.take_zero]; rfl
  | a + 1, h => by
    have hl : a < (ddC lo k).length := by rw [ddC_length]; omega
    rw [List.take_succ_eq_append_getElem hl, replay_snoc, dd_replay lo k hk a (by omega)]
    have hg : (ddC lo k)[a] = ⟨some (lo + a), [], nmF (lo + a)⟩ := by
      simp [ddC]
    rw [hg]
    show does ⟨some (lo + a), [], nmF (lo + a)⟩ (ddN (lo + a)) = _
    rw [does_new (nameB_ne (nmF_ok (lo + a) (by omega))), ddN_put (lo + a) (by omega)]
    rfl
/-- The names behind the crash. -/
theorem dd_crash (lo k st : Nat) (c : Int) (hk : k ≤ 10) (hlo : lo ≤ k) : ((dd lo k st).crash [c]).list = (List.range (lo + c.toNat % (k - lo + 1))).map nmF := by
  have ha : c.toNat % (k - lo + 1) ≤ k - lo := Nat.le_of_lt_succ (Nat.mod_lt _ (Nat.succ_pos _))
  have hp : pick1 [c] (dd lo k st).since.length = (c.toNat % (k - lo + 1), []) := by
    show (c.toNat % ((ddC lo k).length + 1), []) = _
    rw [ddC_length]
  have hn : ((dd lo k st).crash [c]).names = ddN (lo + c.toNat % (k - lo + 1)) := by
    unfold DS.crash
    simp only
    rw [hp]
    show ((replay (ddN lo) ((ddC lo k).take (c.toNat % (k - lo + 1)))).getD []) = _
    rw [dd_replay lo k hk _ (by omega)]
    rfl
  unfold DS.list
  rw [show ((dd lo k st).crash [c]).off = false from rfl, if_neg (by simp), hn]
  unfold ddN
  rw [List.map_map]
  rfl
def loJ (s j : Nat) : Nat := if 1 ≤ s ∧ s ≤ j then s else 0
theorem loJ_le (s j : Nat) : loJ s j ≤ j := by
  unfold loJ
  split <;> omega
theorem loJ_same {s j : Nat} (h : ¬ j + 1 = s) : loJ s (j + 1) = loJ s j := by
  unfold loJ
  split <;> split <;> omega
theorem loJ_hit {s j : Nat} (h : j + 1 = s) : loJ s (j + 1) = j + 1 := by
  unfold loJ
  rw [if_pos (by omega)]
  exact h.symm

set_option maxRecDepth 100000 in
set_option maxHeartbeats 4000000 in
theorem diskDirs_walk (a c b : Int) (w : World) (ha : 0 ≤ a ∧ a < 256) (hc : 0 ≤ c ∧ c < 256) (hb : 0 ≤ b ∧ b < 256) :
    Calls Try.prog 3 #[.int .u8 a, .int .u8 c, .int .u8 b] w fun e w' => e = .returned (.bool true) ∧ Below w.heap.size w w' := by
  obtain ⟨k, hka⟩ : ∃ k : Nat, a % 10 = (k : Int) := ⟨(a % 10).toNat, by omega⟩
  obtain ⟨s, hsb⟩ : ∃ s : Nat, b % 10 = (s : Int) := ⟨(b % 10).toNat, by omega⟩
  have hk0 : k < 10 := by omega
  have hs0 : s < 10 := by omega
  have K0 := Lib.hid (law20_known w)
  go_enter Try.func3, Try.ntmps3
  go_wp2_with fail
  refine K0.out.mono ?_
  rintro e w1 ⟨rfl, hb1⟩
  have HB1 := Lib.hid hb1
  have K1 := Lib.hid (k_new w1 1000)
  clear hb1 K0
  go_wp2_with fail
  refine K1.out.mono ?_
  rintro e w2 ⟨p, G0, rfl, hp, hk⟩
  have HK : Hid (Dk w1.heap.size p w1 G0 (dd (loJ s 0) 0 0) w2) := Lib.hid (by
    have h0 : loJ s 0 = 0 := Nat.le_zero.1 (loJ_le s 0)
    rw [h0]
    exact hk)
  clear hk K1
  go_wp2_with fail
  clear hka hsb
  go_loopw [10] (fun i wr => ∃ (j st : Nat) (G : DG), i = .int .i64 (j : Int) ∧ j ≤ k ∧ st ≤ 2 * j ∧ Hid (Dk w1.heap.size p w1 G (dd (loJ s j) j st) wr)) (fun i _ => k - (intOf i).toNat)
  case atStart => exact ⟨0, 0, G0, rfl, Nat.zero_le _, Nat.le_refl _, Lib.hid HK.out⟩
  case round =>
    obtain ⟨j, st, G, rfl, hj2, hst, HR⟩ := hrel
    by_cases hlt : j < k
    · obtain ⟨bt, hbt⟩ : ∃ bt : UInt8, UInt8.ofNat (97 + j) = bt := ⟨_, rfl⟩
      have hbn : (bt.toNat : Int) = 97 + (j : Int) := by
        rw [← hbt, UInt8.toNat_ofNat']
        omega
      have hnm : nmF j = [102, bt] := by unfold nmF; rw [hbt]
      have hcv := conv_one wr bt
      rw [hbn] at hcv
      obtain ⟨t1, ht1⟩ : ∃ t1, S [bt] = t1 := ⟨_, rfl⟩
      have hcat : (⟨#[102]⟩ : ByteArray) ++ t1 = S [102, bt] := by rw [← ht1]; rfl
      have hno : ¬ 9223372036854775807 < (⟨#[102]⟩ : ByteArray).size + t1.size := by rw [← ht1, S_size]; show ¬ 9223372036854775807 < 1 + 1; omega
      rw [ht1] at hcv
      have hB := (Below.refl wr.heap.size wr).alloc (Nat.le_refl _) (.cells #[.int .u8 (97 + (j : Int))] 5)
      have KC := k_create (HR.out.below hB) (by show (st : Int) < 1000000000; omega) (nmF j) (by unfold nmF; simp)
      rw [dd_create _ _ _ (by omega) (loJ_le s j), hnm] at KC
      have HKC := Lib.hid KC
      clear KC hB HR hbt hbn ht1 hnm
      go_wp2_with fail
      refine HKC.out.mono ?_
      rintro e w5 ⟨rfl, G', hk, -⟩
      have HK5 : Hid (Dk w1.heap.size p w1 G' (dd (loJ s j) (j + 1) (st + 1)) w5) := Lib.hid hk
      clear hk HKC hcv hcat hno
      by_cases hjs : j + 1 = s
      · have KS := k_syncDir HK5.out (by show ((st + 1 : Nat) : Int) < 1000000000; omega)
        rw [dd_sync] at KS
        have HKS := Lib.hid KS
        have HJ := Lib.hid (loJ_hit hjs)
        have hjs2 : (j : Int) + 1 = (s : Int) := by omega
        clear KS
        go_wp2_with fail
        refine HKS.out.mono ?_
        rintro e w6 ⟨rfl, G6, hk, -⟩
        have HK6 : Hid (Dk w1.heap.size p w1 G6 (dd (loJ s (j + 1)) (j + 1) (st + 1 + 1)) w6) := Lib.hid (by rw [HJ.out]; exact hk)
        clear hk HKS
        go_wp2_with fail
        go_roundw
        case rel => exact ⟨j + 1, st + 1 + 1, G6, by go_num, by omega, by omega, Lib.hid HK6.out⟩
        case measure => simp [intOf]; omega
      · have HJ := Lib.hid (loJ_same hjs)
        have hjs2 : ¬ (j : Int) + 1 = (s : Int) := by omega
        go_wp2_with fail
        go_roundw
        case rel => exact ⟨j + 1, st + 1, G', by go_num, by omega, by omega, Lib.hid (by rw [HJ.out]; exact HK5.out)⟩
        case measure => simp [intOf]; omega
    · obtain rfl : j = k := by omega
      obtain ⟨lo, hlo⟩ : ∃ lo, loJ s j = lo := ⟨_, rfl⟩
      have hlj : lo ≤ j := by rw [← hlo]; exact loJ_le s j
      have hcr := dd_crash lo j st c (by omega) hlj
      rw [hlo] at HR
      have HK := Lib.hid HR.out
      have hB := (Below.refl wr.heap.size wr).alloc (Nat.le_refl _) (.cells #[.int .u8 c] 5)
      have KCR := Lib.hid (k_crash (HK.out.below hB) (.slice (some ⟨wr.heap.size, 0, none⟩) 1 1) [c] (own_litB wr wr.heap.size [c] (Nat.le_refl _) (by simp)).rd (by intro y hy; rw [List.mem_singleton.1 hy]; exact hc) (Far.new HK.out.at_))
      clear HR hB
      go_wp2_with fail
      refine KCR.out.mono ?_
      rintro e w6 ⟨⟨u6, rfl⟩, G6, hk, -⟩
      have KL := Lib.hid (k_list hk)
      rw [hcr] at KL
      clear hk KCR
      obtain ⟨n, hn⟩ : ∃ n, lo + c.toNat % (j - lo + 1) = n := ⟨_, rfl⟩
      rw [hn] at KL
      have hnk : n ≤ j := by
        have := Nat.mod_lt c.toNat (Nat.succ_pos (j - lo))
        have h2 : c.toNat % (j - lo + 1) < j - lo + 1 := this
        omega
      have hrem : c.tmod ((j : Int) - (lo : Int) + 1) = ((c.toNat % (j - lo + 1) : Nat) : Int) := by
        obtain ⟨q, rfl⟩ := Int.eq_ofNat_of_zero_le hc.1
        rw [Int.toNat_natCast, show (j : Int) - (lo : Int) + 1 = ((j - lo + 1 : Nat) : Int) by omega]
        rfl
      go_wp2_with fail
      refine KL.out.mono ?_
      rintro e w7 ⟨v7, rfl, ho7, hk, -⟩
      have hss : ((List.range n).map nmF).length = n := by simp
      have HSH : Hid (0 < n → ∃ g, True) := Lib.hid (fun _ => ⟨0, trivial⟩)
      clear HSH
      obtain ⟨A7, c7, hv7, -⟩ := own_shape ho7
      rw [hss] at hv7
      subst hv7
      have HSH : Hid (0 < n → ∃ g, A7 = some ⟨g, 0, none⟩ ∧ ∀ t, t < n → w7.cell? ⟨g, t, none⟩ = some (.string (S (nmF t)))) := Lib.hid (fun h0 => by
        obtain ⟨g, cap, he, -, -, -, hcell⟩ := ho7.shape (by intro e; rw [e] at hss; simp at hss; omega)
        injection he with e1
        refine ⟨g, e1, fun t ht => hcell t _ ?_⟩
        rw [List.getElem?_map, List.getElem?_range ht]
        rfl)
      have HK7 := Lib.hid hk
      clear hk ho7 KL hss hcr HK
      obtain ⟨r, hr⟩ : ∃ r : Nat, c.toNat % (j - lo + 1) = r := ⟨_, rfl⟩
      rw [hr] at hrem hn
      clear hr
      by_cases hs1 : 1 ≤ s ∧ s ≤ j
      · have hls : lo = s := by rw [← hlo]; unfold loJ; rw [if_pos hs1]
        subst hls
        have hsa : (0 : Int) < (lo : Int) := by omega
        have hsb : (lo : Int) ≤ (j : Int) := by omega
        clear hs1
        have hwn : (lo : Int) + (r : Int) = (n : Int) := by omega
        have hrq := hrem
        clear hlo hn hrem
        go_wp2_with fail
        clear hwn hrq hsa hsb
        go_loopw [14] (fun i wr => ∃ t : Nat, i = .int .i64 (t : Int) ∧ t ≤ n ∧ Hid (Below w7.heap.size w7 wr)) (fun i _ => n - (intOf i).toNat)
        case atStart => exact ⟨0, rfl, Nat.zero_le _, Lib.hid (Below.refl _ _)⟩
        case round =>
          obtain ⟨t, rfl, htn, HT⟩ := hrel
          by_cases htl : t < n
          · obtain ⟨g, hg⟩ := HSH.out (by omega)
            have hA7 : A7 = some ⟨g, 0, none⟩ := hg.1
            have hcl := pw_cell_below HT.out (hg.2 t htl)
            have hix : ∀ W, (Instr.indexAt 30 (.slice A7 n c7) (.int .i64 (t : Int))).run Try.prog W = .ok (.pointer (some ⟨g, t, none⟩)) W := fun W => by
              rw [hA7]
              have h2 : 0 ≤ (t : Int) ∧ (t : Int) < (n : Int) := ⟨by omega, by omega⟩
              have h3 : ({ block := g, off := 0, spot := none } : Addr).add t = ⟨g, t, none⟩ := add_plain _ _
              go_simp
            obtain ⟨bt, hbt⟩ : ∃ bt : UInt8, UInt8.ofNat (97 + t) = bt := ⟨_, rfl⟩
            have hbn : (bt.toNat : Int) = 97 + (t : Int) := by
              rw [← hbt, UInt8.toNat_ofNat']
              omega
            have hnm : nmF t = [102, bt] := by unfold nmF; rw [hbt]
            rw [hnm] at hcl
            obtain ⟨t1, ht1⟩ : ∃ t1, S [bt] = t1 := ⟨_, rfl⟩
            have hcat : (⟨#[102]⟩ : ByteArray) ++ t1 = S [102, bt] := by rw [← ht1]; rfl
            have hno : ¬ 9223372036854775807 < 1 + t1.size := by rw [← ht1, S_size]; show ¬ 9223372036854775807 < 1 + 1; omega
            have hcv0 : ∀ W : World, (convert 27 9 (.slice (some ⟨W.heap.size, 0, none⟩) 1 1)).run Try.prog (W.alloc (.cells #[.int .u8 (97 + (t : Int))] 5)) = .ok (.string t1) (W.alloc (.cells #[.int .u8 (97 + (t : Int))] 5)) := fun W => by
              have := conv_one W bt
              rw [hbn, ht1] at this
              exact this
            have hwrap : IntKind.u8.wrap (97 + (t : Int)) = 97 + (t : Int) := by rw [IntKind.wrap_u8]; omega
            have hwrap2 : IntKind.u8.wrap (t : Int) = (t : Int) := by rw [IntKind.wrap_u8]; omega
            have SC := fun W (h : Below wr.heap.size wr W) => (⟨h, pw_cell_below h hcl⟩ : Below wr.heap.size wr W ∧ W.cell? ⟨g, t, none⟩ = some (.string (S [102, bt])))
            clear hcl hbt hbn hnm hA7 ht1 hg
            go_wp2_with fail
            refine wp_region_noPanic ?_
            refine wp_region_held_drew (S := fun W => Below wr.heap.size wr W ∧ W.cell? ⟨g, t, none⟩ = some (.string (S [102, bt]))) (by kernel_rfl) (SC _ (Below.refl _ _).drew) (fun hHeld => ?_)
            have hcv := hcv0 wr.drew
            generalize wr.drew = W5 at *
            refine held_take (i := 0) (v := ?_) rfl (by kernel_rfl) (by kernel_rfl) (by kernel_rfl) (fun _ _ _ h => h) (by rfl) hHeld ?y23_0 ?_
            case y23_0 => (intro w hSw; (try dsimp only at hSw); go_simp; try with_reducible rfl)
            try simp only [Act.put, List.setIfInBounds_toArray, List.set_cons_zero, List.set_cons_succ]
            refine held_take (i := 1) (v := ?_) rfl (by kernel_rfl) (by kernel_rfl) (by kernel_rfl) (fun _ _ _ h => h) (by rfl) hHeld ?y23_1 ?_
            case y23_1 => (intro w hSw; (try dsimp only at hSw); go_simp; try with_reducible rfl)
            try simp only [Act.put, List.setIfInBounds_toArray, List.set_cons_zero, List.set_cons_succ]
            refine held_take (i := 2) (v := ?_) rfl (by kernel_rfl) (by kernel_rfl) (by kernel_rfl) (fun _ _ _ h => h) (by rfl) hHeld ?y23_2 ?_
            case y23_2 => (intro w hSw; (try dsimp only at hSw); go_simp; try with_reducible rfl)
            try simp only [Act.put, List.setIfInBounds_toArray, List.set_cons_zero, List.set_cons_succ]
            refine held_take (i := 3) (v := ?_) rfl (by kernel_rfl) (by kernel_rfl) (by kernel_rfl) (fun _ _ _ h => h) (by rfl) hHeld ?y23_3 ?_
            case y23_3 => (intro w hSw; (try dsimp only at hSw); go_simp; try with_reducible rfl)
            try simp only [Act.put, List.setIfInBounds_toArray, List.set_cons_zero, List.set_cons_succ]
            refine held_take (i := 4) (v := ?_) rfl (by kernel_rfl) (by kernel_rfl) (by kernel_rfl) (fun _ _ _ h => h) (by rfl) hHeld ?y23_4 ?_
            case y23_4 => (intro w hSw; (try dsimp only at hSw); go_simp; try with_reducible rfl)
            try simp only [Act.put, List.setIfInBounds_toArray, List.set_cons_zero, List.set_cons_succ]
            refine held_take (i := 5) (v := ?_) rfl (by kernel_rfl) (by kernel_rfl) (by kernel_rfl) (fun _ _ _ h => h) (by rfl) hHeld ?y23_5 ?_
            case y23_5 => (intro w hSw; (try dsimp only at hSw); go_simp; try with_reducible rfl)
            try simp only [Act.put, List.setIfInBounds_toArray, List.set_cons_zero, List.set_cons_succ]
            refine held_take (i := 6) (v := ?_) rfl (by kernel_rfl) (by kernel_rfl) (by kernel_rfl) (fun _ _ _ h => h) (by rfl) hHeld ?y23_6 ?_
            case y23_6 => (intro w hSw; (try dsimp only at hSw); go_simp; try with_reducible rfl)
            try simp only [Act.put, List.setIfInBounds_toArray, List.set_cons_zero, List.set_cons_succ]
            refine held_one (i := 7) (by kernel_rfl) rfl (fun K hK => ?_)
            (have hS7 := SC (W5.alloc (.cells #[.int .u8 (97 + (t : Int))] 5)) (hHeld.1.trans ((Below.refl W5.heap.size W5).alloc (Nat.le_refl _) _ |>.mono hHeld.1.size)); go_simp)
            refine hK.out _ _ ?_ (fun hHeld => ?_)
            · exact hS7
            clear hK K
            try simp only [Act.put, List.setIfInBounds_toArray, List.set_cons_zero, List.set_cons_succ]
            refine held_one (i := 8) (by kernel_rfl) rfl (fun K hK => ?_)
            go_simp
            refine hK.out _ _ ?_ (fun hHeld => ?_)
            · exact hHeld
            clear hK K
            try simp only [Act.put, List.setIfInBounds_toArray, List.set_cons_zero, List.set_cons_succ]
            refine held_one (i := 9) (by kernel_rfl) rfl (fun K hK => ?_)
            go_simp
            refine hK.out _ _ ?_ (fun hHeld => ?_)
            · exact hHeld
            clear hK K
            try simp only [Act.put, List.setIfInBounds_toArray, List.set_cons_zero, List.set_cons_succ]
            refine held_one (i := 10) (by kernel_rfl) rfl (fun K hK => ?_)
            go_simp
            refine hK.out _ _ ?_ (fun hHeld => ?_)
            · exact hHeld
            clear hK K
            try simp only [Act.put, List.setIfInBounds_toArray, List.set_cons_zero, List.set_cons_succ]
            refine wpAnyH_done (by kernel_rfl) ?_ _
            refine NoPanic.normal ?_
            have HT5 := Lib.hid (HT.out.trans (hHeld.1.mono HT.out.size))
            go_wp2_with fail
            go_roundw
            case rel => exact ⟨t + 1, by go_num, by omega, HT5⟩
            case measure => simp [intOf]; omega
          · obtain rfl : t = n := by omega
            have HBE := Lib.hid (HB1.out.trans ((HK7.out.bel.trans (HT.out.mono (by have := HK7.out.bel.size; omega))).mono HB1.out.size))
            go_wp2_with fail
            go_ret
            exact ⟨rfl, HBE.out⟩
      · have hls : lo = 0 := by rw [← hlo]; unfold loJ; rw [if_neg hs1]
        subst hls
        have hrq : c.tmod ((j : Int) + 1) = (r : Int) := by
          rw [show ((0 : Nat) : Int) = 0 from rfl, Int.sub_zero] at hrem
          exact hrem
        have hwn : (r : Int) = (n : Int) := by omega
        clear hlo hn hrem
        have hs2 : (s : Int) ≤ 0 ∨ (j : Int) < (s : Int) := by omega
        by_cases hs3 : (0 : Int) < (s : Int)
        · have hs4 : (j : Int) < (s : Int) := by omega
          have hs5 : ¬ s ≤ j := by omega
          clear hs2 hs1
          go_wp2_with fail
          clear hwn hrq hs3 hs4
          go_loopw [14] (fun i wr => ∃ t : Nat, i = .int .i64 (t : Int) ∧ t ≤ n ∧ Hid (Below w7.heap.size w7 wr)) (fun i _ => n - (intOf i).toNat)
          case atStart => exact ⟨0, rfl, Nat.zero_le _, Lib.hid (Below.refl _ _)⟩
          case round =>
            obtain ⟨t, rfl, htn, HT⟩ := hrel
            by_cases htl : t < n
            · obtain ⟨g, hg⟩ := HSH.out (by omega)
              have hA7 : A7 = some ⟨g, 0, none⟩ := hg.1
              have hcl := pw_cell_below HT.out (hg.2 t htl)
              have hix : ∀ W, (Instr.indexAt 30 (.slice A7 n c7) (.int .i64 (t : Int))).run Try.prog W = .ok (.pointer (some ⟨g, t, none⟩)) W := fun W => by
                rw [hA7]
                have h2 : 0 ≤ (t : Int) ∧ (t : Int) < (n : Int) := ⟨by omega, by omega⟩
                have h3 : ({ block := g, off := 0, spot := none } : Addr).add t = ⟨g, t, none⟩ := add_plain _ _
                go_simp
              obtain ⟨bt, hbt⟩ : ∃ bt : UInt8, UInt8.ofNat (97 + t) = bt := ⟨_, rfl⟩
              have hbn : (bt.toNat : Int) = 97 + (t : Int) := by
                rw [← hbt, UInt8.toNat_ofNat']
                omega
              have hnm : nmF t = [102, bt] := by unfold nmF; rw [hbt]
              rw [hnm] at hcl
              obtain ⟨t1, ht1⟩ : ∃ t1, S [bt] = t1 := ⟨_, rfl⟩
              have hcat : (⟨#[102]⟩ : ByteArray) ++ t1 = S [102, bt] := by rw [← ht1]; rfl
              have hno : ¬ 9223372036854775807 < 1 + t1.size := by rw [← ht1, S_size]; show ¬ 9223372036854775807 < 1 + 1; omega
              have hcv0 : ∀ W : World, (convert 27 9 (.slice (some ⟨W.heap.size, 0, none⟩) 1 1)).run Try.prog (W.alloc (.cells #[.int .u8 (97 + (t : Int))] 5)) = .ok (.string t1) (W.alloc (.cells #[.int .u8 (97 + (t : Int))] 5)) := fun W => by
                have := conv_one W bt
                rw [hbn, ht1] at this
                exact this
              have hwrap : IntKind.u8.wrap (97 + (t : Int)) = 97 + (t : Int) := by rw [IntKind.wrap_u8]; omega
              have hwrap2 : IntKind.u8.wrap (t : Int) = (t : Int) := by rw [IntKind.wrap_u8]; omega
              have SC := fun W (h : Below wr.heap.size wr W) => (⟨h, pw_cell_below h hcl⟩ : Below wr.heap.size wr W ∧ W.cell? ⟨g, t, none⟩ = some (.string (S [102, bt])))
              clear hcl hbt hbn hnm hA7 ht1 hg
              go_wp2_with fail
              refine wp_region_noPanic ?_
              refine wp_region_held_drew (S := fun W => Below wr.heap.size wr W ∧ W.cell? ⟨g, t, none⟩ = some (.string (S [102, bt]))) (by kernel_rfl) (SC _ (Below.refl _ _).drew) (fun hHeld => ?_)
              have hcv := hcv0 wr.drew
              generalize wr.drew = W5 at *
              refine held_take (i := 0) (v := ?_) rfl (by kernel_rfl) (by kernel_rfl) (by kernel_rfl) (fun _ _ _ h => h) (by rfl) hHeld ?y23_0 ?_
              case y23_0 => (intro w hSw; (try dsimp only at hSw); go_simp; try with_reducible rfl)
              try simp only [Act.put, List.setIfInBounds_toArray, List.set_cons_zero, List.set_cons_succ]
              refine held_take (i := 1) (v := ?_) rfl (by kernel_rfl) (by kernel_rfl) (by kernel_rfl) (fun _ _ _ h => h) (by rfl) hHeld ?y23_1 ?_
              case y23_1 => (intro w hSw; (try dsimp only at hSw); go_simp; try with_reducible rfl)
              try simp only [Act.put, List.setIfInBounds_toArray, List.set_cons_zero, List.set_cons_succ]
              refine held_take (i := 2) (v := ?_) rfl (by kernel_rfl) (by kernel_rfl) (by kernel_rfl) (fun _ _ _ h => h) (by rfl) hHeld ?y23_2 ?_
              case y23_2 => (intro w hSw; (try dsimp only at hSw); go_simp; try with_reducible rfl)
              try simp only [Act.put, List.setIfInBounds_toArray, List.set_cons_zero, List.set_cons_succ]
              refine held_take (i := 3) (v := ?_) rfl (by kernel_rfl) (by kernel_rfl) (by kernel_rfl) (fun _ _ _ h => h) (by rfl) hHeld ?y23_3 ?_
              case y23_3 => (intro w hSw; (try dsimp only at hSw); go_simp; try with_reducible rfl)
              try simp only [Act.put, List.setIfInBounds_toArray, List.set_cons_zero, List.set_cons_succ]
              refine held_take (i := 4) (v := ?_) rfl (by kernel_rfl) (by kernel_rfl) (by kernel_rfl) (fun _ _ _ h => h) (by rfl) hHeld ?y23_4 ?_
              case y23_4 => (intro w hSw; (try dsimp only at hSw); go_simp; try with_reducible rfl)
              try simp only [Act.put, List.setIfInBounds_toArray, List.set_cons_zero, List.set_cons_succ]
              refine held_take (i := 5) (v := ?_) rfl (by kernel_rfl) (by kernel_rfl) (by kernel_rfl) (fun _ _ _ h => h) (by rfl) hHeld ?y23_5 ?_
              case y23_5 => (intro w hSw; (try dsimp only at hSw); go_simp; try with_reducible rfl)
              try simp only [Act.put, List.setIfInBounds_toArray, List.set_cons_zero, List.set_cons_succ]
              refine held_take (i := 6) (v := ?_) rfl (by kernel_rfl) (by kernel_rfl) (by kernel_rfl) (fun _ _ _ h => h) (by rfl) hHeld ?y23_6 ?_
              case y23_6 => (intro w hSw; (try dsimp only at hSw); go_simp; try with_reducible rfl)
              try simp only [Act.put, List.setIfInBounds_toArray, List.set_cons_zero, List.set_cons_succ]
              refine held_one (i := 7) (by kernel_rfl) rfl (fun K hK => ?_)
              (have hS7 := SC (W5.alloc (.cells #[.int .u8 (97 + (t : Int))] 5)) (hHeld.1.trans ((Below.refl W5.heap.size W5).alloc (Nat.le_refl _) _ |>.mono hHeld.1.size)); go_simp)
              refine hK.out _ _ ?_ (fun hHeld => ?_)
              · exact hS7
              clear hK K
              try simp only [Act.put, List.setIfInBounds_toArray, List.set_cons_zero, List.set_cons_succ]
              refine held_one (i := 8) (by kernel_rfl) rfl (fun K hK => ?_)
              go_simp
              refine hK.out _ _ ?_ (fun hHeld => ?_)
              · exact hHeld
              clear hK K
              try simp only [Act.put, List.setIfInBounds_toArray, List.set_cons_zero, List.set_cons_succ]
              refine held_one (i := 9) (by kernel_rfl) rfl (fun K hK => ?_)
              go_simp
              refine hK.out _ _ ?_ (fun hHeld => ?_)
              · exact hHeld
              clear hK K
              try simp only [Act.put, List.setIfInBounds_toArray, List.set_cons_zero, List.set_cons_succ]
              refine held_one (i := 10) (by kernel_rfl) rfl (fun K hK => ?_)
              go_simp
              refine hK.out _ _ ?_ (fun hHeld => ?_)
              · exact hHeld
              clear hK K
              try simp only [Act.put, List.setIfInBounds_toArray, List.set_cons_zero, List.set_cons_succ]
              refine wpAnyH_done (by kernel_rfl) ?_ _
              refine NoPanic.normal ?_
              have HT5 := Lib.hid (HT.out.trans (hHeld.1.mono HT.out.size))
              go_wp2_with fail
              go_roundw
              case rel => exact ⟨t + 1, by go_num, by omega, HT5⟩
              case measure => simp [intOf]; omega
            · obtain rfl : t = n := by omega
              have HBE := Lib.hid (HB1.out.trans ((HK7.out.bel.trans (HT.out.mono (by have := HK7.out.bel.size; omega))).mono HB1.out.size))
              go_wp2_with fail
              go_ret
              exact ⟨rfl, HBE.out⟩
        · have hs4 : ¬ (0 : Int) < (s : Int) := hs3
          clear hs2 hs1
          go_wp2_with fail
          clear hwn hrq hs3 hs4
          go_loopw [14] (fun i wr => ∃ t : Nat, i = .int .i64 (t : Int) ∧ t ≤ n ∧ Hid (Below w7.heap.size w7 wr)) (fun i _ => n - (intOf i).toNat)
          case atStart => exact ⟨0, rfl, Nat.zero_le _, Lib.hid (Below.refl _ _)⟩
          case round =>
            obtain ⟨t, rfl, htn, HT⟩ := hrel
            by_cases htl : t < n
            · obtain ⟨g, hg⟩ := HSH.out (by omega)
              have hA7 : A7 = some ⟨g, 0, none⟩ := hg.1
              have hcl := pw_cell_below HT.out (hg.2 t htl)
              have hix : ∀ W, (Instr.indexAt 30 (.slice A7 n c7) (.int .i64 (t : Int))).run Try.prog W = .ok (.pointer (some ⟨g, t, none⟩)) W := fun W => by
                rw [hA7]
                have h2 : 0 ≤ (t : Int) ∧ (t : Int) < (n : Int) := ⟨by omega, by omega⟩
                have h3 : ({ block := g, off := 0, spot := none } : Addr).add t = ⟨g, t, none⟩ := add_plain _ _
                go_simp
              obtain ⟨bt, hbt⟩ : ∃ bt : UInt8, UInt8.ofNat (97 + t) = bt := ⟨_, rfl⟩
              have hbn : (bt.toNat : Int) = 97 + (t : Int) := by
                rw [← hbt, UInt8.toNat_ofNat']
                omega
              have hnm : nmF t = [102, bt] := by unfold nmF; rw [hbt]
              rw [hnm] at hcl
              obtain ⟨t1, ht1⟩ : ∃ t1, S [bt] = t1 := ⟨_, rfl⟩
              have hcat : (⟨#[102]⟩ : ByteArray) ++ t1 = S [102, bt] := by rw [← ht1]; rfl
              have hno : ¬ 9223372036854775807 < 1 + t1.size := by rw [← ht1, S_size]; show ¬ 9223372036854775807 < 1 + 1; omega
              have hcv0 : ∀ W : World, (convert 27 9 (.slice (some ⟨W.heap.size, 0, none⟩) 1 1)).run Try.prog (W.alloc (.cells #[.int .u8 (97 + (t : Int))] 5)) = .ok (.string t1) (W.alloc (.cells #[.int .u8 (97 + (t : Int))] 5)) := fun W => by
                have := conv_one W bt
                rw [hbn, ht1] at this
                exact this
              have hwrap : IntKind.u8.wrap (97 + (t : Int)) = 97 + (t : Int) := by rw [IntKind.wrap_u8]; omega
              have hwrap2 : IntKind.u8.wrap (t : Int) = (t : Int) := by rw [IntKind.wrap_u8]; omega
              have SC := fun W (h : Below wr.heap.size wr W) => (⟨h, pw_cell_below h hcl⟩ : Below wr.heap.size wr W ∧ W.cell? ⟨g, t, none⟩ = some (.string (S [102, bt])))
              clear hcl hbt hbn hnm hA7 ht1 hg
              go_wp2_with fail
              refine wp_region_noPanic ?_
              refine wp_region_held_drew (S := fun W => Below wr.heap.size wr W ∧ W.cell? ⟨g, t, none⟩ = some (.string (S [102, bt]))) (by kernel_rfl) (SC _ (Below.refl _ _).drew) (fun hHeld => ?_)
              have hcv := hcv0 wr.drew
              generalize wr.drew = W5 at *
              refine held_take (i := 0) (v := ?_) rfl (by kernel_rfl) (by kernel_rfl) (by kernel_rfl) (fun _ _ _ h => h) (by rfl) hHeld ?y23_0 ?_
              case y23_0 => (intro w hSw; (try dsimp only at hSw); go_simp; try with_reducible rfl)
              try simp only [Act.put, List.setIfInBounds_toArray, List.set_cons_zero, List.set_cons_succ]
              refine held_take (i := 1) (v := ?_) rfl (by kernel_rfl) (by kernel_rfl) (by kernel_rfl) (fun _ _ _ h => h) (by rfl) hHeld ?y23_1 ?_
              case y23_1 => (intro w hSw; (try dsimp only at hSw); go_simp; try with_reducible rfl)
              try simp only [Act.put, List.setIfInBounds_toArray, List.set_cons_zero, List.set_cons_succ]
              refine held_take (i := 2) (v := ?_) rfl (by kernel_rfl) (by kernel_rfl) (by kernel_rfl) (fun _ _ _ h => h) (by rfl) hHeld ?y23_2 ?_
              case y23_2 => (intro w hSw; (try dsimp only at hSw); go_simp; try with_reducible rfl)
              try simp only [Act.put, List.setIfInBounds_toArray, List.set_cons_zero, List.set_cons_succ]
              refine held_take (i := 3) (v := ?_) rfl (by kernel_rfl) (by kernel_rfl) (by kernel_rfl) (fun _ _ _ h => h) (by rfl) hHeld ?y23_3 ?_
              case y23_3 => (intro w hSw; (try dsimp only at hSw); go_simp; try with_reducible rfl)
              try simp only [Act.put, List.setIfInBounds_toArray, List.set_cons_zero, List.set_cons_succ]
              refine held_take (i := 4) (v := ?_) rfl (by kernel_rfl) (by kernel_rfl) (by kernel_rfl) (fun _ _ _ h => h) (by rfl) hHeld ?y23_4 ?_
              case y23_4 => (intro w hSw; (try dsimp only at hSw); go_simp; try with_reducible rfl)
              try simp only [Act.put, List.setIfInBounds_toArray, List.set_cons_zero, List.set_cons_succ]
              refine held_take (i := 5) (v := ?_) rfl (by kernel_rfl) (by kernel_rfl) (by kernel_rfl) (fun _ _ _ h => h) (by rfl) hHeld ?y23_5 ?_
              case y23_5 => (intro w hSw; (try dsimp only at hSw); go_simp; try with_reducible rfl)
              try simp only [Act.put, List.setIfInBounds_toArray, List.set_cons_zero, List.set_cons_succ]
              refine held_take (i := 6) (v := ?_) rfl (by kernel_rfl) (by kernel_rfl) (by kernel_rfl) (fun _ _ _ h => h) (by rfl) hHeld ?y23_6 ?_
              case y23_6 => (intro w hSw; (try dsimp only at hSw); go_simp; try with_reducible rfl)
              try simp only [Act.put, List.setIfInBounds_toArray, List.set_cons_zero, List.set_cons_succ]
              refine held_one (i := 7) (by kernel_rfl) rfl (fun K hK => ?_)
              (have hS7 := SC (W5.alloc (.cells #[.int .u8 (97 + (t : Int))] 5)) (hHeld.1.trans ((Below.refl W5.heap.size W5).alloc (Nat.le_refl _) _ |>.mono hHeld.1.size)); go_simp)
              refine hK.out _ _ ?_ (fun hHeld => ?_)
              · exact hS7
              clear hK K
              try simp only [Act.put, List.setIfInBounds_toArray, List.set_cons_zero, List.set_cons_succ]
              refine held_one (i := 8) (by kernel_rfl) rfl (fun K hK => ?_)
              go_simp
              refine hK.out _ _ ?_ (fun hHeld => ?_)
              · exact hHeld
              clear hK K
              try simp only [Act.put, List.setIfInBounds_toArray, List.set_cons_zero, List.set_cons_succ]
              refine held_one (i := 9) (by kernel_rfl) rfl (fun K hK => ?_)
              go_simp
              refine hK.out _ _ ?_ (fun hHeld => ?_)
              · exact hHeld
              clear hK K
              try simp only [Act.put, List.setIfInBounds_toArray, List.set_cons_zero, List.set_cons_succ]
              refine held_one (i := 10) (by kernel_rfl) rfl (fun K hK => ?_)
              go_simp
              refine hK.out _ _ ?_ (fun hHeld => ?_)
              · exact hHeld
              clear hK K
              try simp only [Act.put, List.setIfInBounds_toArray, List.set_cons_zero, List.set_cons_succ]
              refine wpAnyH_done (by kernel_rfl) ?_ _
              refine NoPanic.normal ?_
              have HT5 := Lib.hid (HT.out.trans (hHeld.1.mono HT.out.size))
              go_wp2_with fail
              go_roundw
              case rel => exact ⟨t + 1, by go_num, by omega, HT5⟩
              case measure => simp [intOf]; omega
            · obtain rfl : t = n := by omega
              have HBE := Lib.hid (HB1.out.trans ((HK7.out.bel.trans (HT.out.mono (by have := HK7.out.bel.size; omega))).mono HB1.out.size))
              go_wp2_with fail
              go_ret
              exact ⟨rfl, HBE.out⟩
end Go.Proofs.Ytbooiaaejhbbkaa
