import Derived.Test.YtaccjifhgohfpaaDoorTagBuilt
/- The walk of the law TagRefuses. -/
namespace Go.Proofs.YtaccjifhgohfpaaDoor
open Go.RowKit Go.Shelf Go.Proofs.YtaccjifhgohfpaaDoorW.PrintWords Go.Proofs.YtaccjifhgohfpaaDoorW.PrintMore

/-- What is no tag. -/
def badsL (l : List UInt8) : List (List UInt8) := [[], l ++ [45], [45] ++ l, l ++ [45, 45, 85, 83], l ++ [45, 97, 98, 99, 100, 101, 102, 103, 104, 105], l ++ [32, 85, 83], l ++ [45, 97], [97, 98, 99, 100]]
theorem bad_tail {l : List UInt8} (h : lows l) (h2 : l.length = 2) (r : List UInt8) (hr : r.length ≤ 20) (hs : loopC 1 [l] (splitL (normL r)) = none) : canonL (l ++ 45 :: r) = none := by
  rw [canon_norm]
  have hn : normL (l ++ 45 :: r) = l ++ 45 :: normL r := by
    have e1 : l.map lowU = l := h.small
    have e2 : l.map dashU = l := by
      conv => rhs; rw [← List.map_id l]
      refine List.map_congr_left (fun b hb => ?_)
      have := (hy_is b).1 (h.hy b hb)
      unfold dashU
      rw [if_neg this.2]
      rfl
    unfold normL smallL
    rw [List.map_append, e1, List.map_append, e2]
    rfl
  rw [hn]
  unfold canonN
  rw [if_neg (by rw [List.length_append, List.length_cons, normL_length]; omega)]
  by_cases hr : l ++ 45 :: normL r = rootL
  · exfalso
    have : (45 : UInt8) ∈ rootL := by rw [← hr]; simp
    revert this
    decide
  · rw [if_neg hr, splitL_cons (noHy_45 h.hy), loop_one 0 [] l _ 1 l (st_lang h (by omega) (by omega) []), List.nil_append, hs]
    rfl
theorem bads_none {l : List UInt8} (h : lows l) (h2 : l.length = 2) (x : List UInt8) (hx : x ∈ badsL l) : canonL x = none := by
  have hm : x = [] ∨ x = l ++ [45] ∨ x = [45] ++ l ∨ x = l ++ [45, 45, 85, 83] ∨ x = l ++ [45, 97, 98, 99, 100, 101, 102, 103, 104, 105] ∨ x = l ++ [32, 85, 83] ∨ x = l ++ [45, 97] ∨ x = [97, 98, 99, 100] := by simpa [badsL] using hx
  rcases hm with rfl | rfl | rfl | rfl | rfl | rfl | rfl | rfl
  · decide +kernel
  · exact bad_tail h h2 [] (by decide) rfl
  · match l, h2 with
    | [a, b], _ =>
      rw [canon_norm]
      unfold canonN
      have hn : normL ([45] ++ [a, b]) = 45 :: normL [a, b] := rfl
      rw [hn, if_neg (by rw [List.length_cons, normL_length]; simp), if_neg (by intro e; injection e with e1 e2; revert e1; decide)]
      have hs : splitL (45 :: normL [a, b]) = [] :: splitL (normL [a, b]) := rfl
      rw [hs, loop_stop _ _ _ _ (st_nolang (by decide) _)]
      rfl
  · exact bad_tail h h2 [45, 85, 83] (by decide) rfl
  · exact bad_tail h h2 [97, 98, 99, 100, 101, 102, 103, 104, 105] (by decide) rfl
  · match l, h2 with
    | [a, b], _ =>
      unfold canonL
      rw [if_neg (by simp), if_neg (by intro e; have := congrArg List.length e; rw [small_len] at this; simp [rootL] at this)]
      have hy : noHy ([a, b] ++ [32, 85, 83]) := fun c hc => by
        rcases List.mem_append.1 hc with hc | hc
        · exact h.hy c hc
        · have : c = 32 ∨ c = 85 ∨ c = 83 := by simpa using hc
          rcases this with rfl | rfl | rfl <;> decide
      rw [splitR_small, splitR_none hy, List.map_cons, loop_stop]
      · rfl
      · refine st_nolang ?_ _
        unfold allP
        rw [small_len]
        simp
  · exact bad_tail h h2 [97] (by decide) rfl
  · decide +kernel
theorem isC_no {l : List UInt8} (h : canonL l = none) : isC l = false := by unfold isC; rw [h]; simp

/-- The long ones. -/
def partAt (i : Nat) : List UInt8 := partL (UInt8.ofNat i) 97 8
def longU (l : List UInt8) (k : Nat) : List (List UInt8) := l :: (List.range k).map partAt
def longL (l : List UInt8) (k : Nat) : List UInt8 := joinL (longU l k)
theorem longL_succ (l : List UInt8) (k : Nat) : longL l (k + 1) = longL l k ++ 45 :: partAt k := by
  unfold longL longU
  rw [List.range_succ, List.map_append, ← List.cons_append]
  exact joinL_snoc _ _ (by simp)
theorem longL_len (l : List UInt8) (h2 : l.length = 2) (k : Nat) : (longL l k).length = 2 + 9 * k := by
  induction k with
  | zero => exact h2
  | succ k ih =>
    rw [longL_succ, List.length_append, List.length_cons, ih]
    have : (partAt k).length = 8 := partL_length _ _ _
    omega
theorem long_some {l : List UInt8} (h : lows l) (h2 : l.length = 2) (k : Nat) (hk : k ≤ 4) : canonL (longL l k) = some (longL l k) := by
  have hp : ∀ i, lows (partAt i) := fun i => part_low _ _
  have hT : Tg (longU l k) := by
    refine ⟨by simp [longU], fun p hp' => ?_, ?_, by have := longL_len l h2 k; unfold longL at this; omega⟩
    · unfold longU at hp'
      rcases List.mem_cons.1 hp' with rfl | hp'
      · exact h.hy
      · obtain ⟨i, _, rfl⟩ := List.mem_map.1 hp'
        exact (hp i).hy
    · have sL := st_lang h (by omega) (by omega) []
      have hsm : (longU l k).map smallL = longU l k := by
        unfold longU
        rw [List.map_cons, h.small, List.map_map]
        congr 1
        exact List.map_congr_left (fun i _ => (hp i).small)
      have sv : ∀ (n i : Nat) (out : List (List UInt8)), (n = 1 ∨ n = 2 ∨ n = 3) → (out.drop 1).contains (partAt i) = false → stepC n out (partAt i) = some (3, partAt i) := fun n i out hn hc =>
        st_variant hn (hp i) (by rw [show (partAt i).length = 8 from partL_length _ _ _]; decide) (by rw [show (partAt i).length = 8 from partL_length _ _ _]; decide) out hc
      rw [hsm]
      have hcc : ∀ (m : Nat), m ≤ 4 → loopC 0 [] (longU l m) = some (if m = 0 then 1 else 3, longU l m) := fun m => by
        induction m with
        | zero =>
          intro _
          unfold longU
          rw [List.range_zero, List.map_nil, loop_one 0 [] l _ 1 l sL]
          rfl
        | succ m ih =>
          intro hm
          have e : longU l (m + 1) = longU l m ++ [partAt m] := by unfold longU; rw [List.range_succ, List.map_append]; rfl
          rw [e, loopC_append, ih (by omega)]
          have hc : ((longU l m).drop 1).contains (partAt m) = false := by
            show ((List.range m).map partAt).contains (partAt m) = false
            match m, hm with
            | 0, _ => decide +kernel
            | 1, _ => decide +kernel
            | 2, _ => decide +kernel
            | 3, _ => decide +kernel
          show loopC (if m = 0 then 1 else 3) (longU l m) [partAt m] = _
          rw [loop_one _ _ _ _ 3 _ (sv _ m _ (by split <;> simp) hc), if_neg (by omega)]
          rfl
      exact ⟨_, hcc k hk⟩
  exact hT.canon
theorem long_none {l : List UInt8} (h2 : l.length = 2) (k : Nat) (hk : 4 < k) : canonL (longL l k) = none := by
  unfold canonL
  rw [if_pos (by rw [longL_len l h2]; omega)]

theorem bads_cells (w2 : World) {l : List UInt8} {sl x1 x2 x3 x4 x5 x6 : ByteArray} (_ : S l = sl) (e1 : S (l ++ [45]) = x1) (e2 : S ([45] ++ l) = x2) (e3 : S (l ++ [45, 45, 85, 83]) = x3) (e4 : S (l ++ [45, 97, 98, 99, 100, 101, 102, 103, 104, 105]) = x4) (e5 : S (l ++ [32, 85, 83]) = x5) (e6 : S (l ++ [45, 97]) = x6)
    {k : Nat} {y : List UInt8} (h : (badsL l)[k]? = some y) :
    (w2.alloc (.cells #[.string (ByteArray.mk #[]), .string x1, .string x2, .string x3, .string x4, .string x5, .string x6, .string (ByteArray.mk #[97, 98, 99, 100])] 49)).cell? ⟨w2.heap.size, k, none⟩ = some (.string (S y)) := by
  unfold World.cell?
  rw [World.alloc_heap_new]
  subst e1 e2 e3 e4 e5 e6
  have hk : k < 8 := (List.getElem?_eq_some_iff.1 h).1
  match k, hk with
  | 0, _ => cases h; rfl
  | 1, _ => cases h; rfl
  | 2, _ => cases h; rfl
  | 3, _ => cases h; rfl
  | 4, _ => cases h; rfl
  | 5, _ => cases h; rfl
  | 6, _ => cases h; rfl
  | 7, _ => cases h; rfl
theorem idx_arr8 (g k : Nat) (x : Int) (hk : (k : Int) = x) (h8 : x < 8) (W : World) : (Instr.indexAt 49 (.pointer (some ⟨g, 0, none⟩)) (.int .u8 x)).run Tryd.prog W = .ok (.pointer (some ⟨g, k, none⟩)) W := by
  subst hk
  have h2 : 0 ≤ (k : Int) ∧ (k : Int) < ((8 : Nat) : Int) := ⟨by omega, by omega⟩
  have h3 : ({ block := g, off := 0, spot := none } : Addr).add k = ⟨g, k, none⟩ := by
    unfold Addr.add; split <;> simp_all
  have hu := Tryd.underlying49
  go_simp

set_option maxRecDepth 100000 in
set_option maxHeartbeats 4000000 in
theorem tagRefuses_walk (a0 a1 a2 : Int) (w : World) (hM : ML w) (h0 : 0 ≤ a0 ∧ a0 < 256) (h1 : 0 ≤ a1 ∧ a1 < 256) (h2 : 0 ≤ a2 ∧ a2 < 256) :
    Calls Tryd.prog 11 #[.int .u8 a0, .int .u8 a1, .int .u8 a2] w fun e w' => e = .returned (.bool true) ∧ Below w.heap.size w w' := by
  have HM := Lib.hid hM
  have KN := Lib.hid (law9_known w hM)
  obtain ⟨l, hL, hl, kl⟩ := part_lowc a0 2 h0 (by omega)
  have hl2 : l.length = 2 := by omega
  have KL := Lib.hid kl
  obtain ⟨sl, e_sl⟩ : ∃ x, S l = x := ⟨_, rfl⟩
  have hz : sl.size = 2 := by rw [← e_sl, S_size, hl2]
  obtain ⟨x1, e_1⟩ : ∃ x, S (l ++ [45]) = x := ⟨_, rfl⟩
  obtain ⟨x2, e_2⟩ : ∃ x, S ([45] ++ l) = x := ⟨_, rfl⟩
  obtain ⟨x3, e_3⟩ : ∃ x, S (l ++ [45, 45, 85, 83]) = x := ⟨_, rfl⟩
  obtain ⟨x4, e_4⟩ : ∃ x, S (l ++ [45, 97, 98, 99, 100, 101, 102, 103, 104, 105]) = x := ⟨_, rfl⟩
  obtain ⟨x5, e_5⟩ : ∃ x, S (l ++ [32, 85, 83]) = x := ⟨_, rfl⟩
  obtain ⟨x6, e_6⟩ : ∃ x, S (l ++ [45, 97]) = x := ⟨_, rfl⟩
  have q1 : sl ++ ByteArray.mk #[45] = x1 := by rw [← e_sl, ← e_1]; rfl
  have q2 : ByteArray.mk #[45] ++ sl = x2 := by rw [← e_sl, ← e_2]; rfl
  have q3 : sl ++ ByteArray.mk #[45, 45, 85, 83] = x3 := by rw [← e_sl, ← e_3]; rfl
  have q4 : sl ++ ByteArray.mk #[45, 97, 98, 99, 100, 101, 102, 103, 104, 105] = x4 := by rw [← e_sl, ← e_4]; rfl
  have q5 : sl ++ ByteArray.mk #[32, 85, 83] = x5 := by rw [← e_sl, ← e_5]; rfl
  have q6 : sl ++ ByteArray.mk #[45, 97] = x6 := by rw [← e_sl, ← e_6]; rfl
  rw [e_sl] at KL
  obtain ⟨h00, h01⟩ := h0
  obtain ⟨h10, h11⟩ := h1
  obtain ⟨h20, h21⟩ := h2
  have E := Lib.hid (And.intro e_sl (And.intro e_1 (And.intro e_2 (And.intro e_3 (And.intro e_4 (And.intro e_5 e_6))))))
  clear hM hl kl e_sl e_1 e_2 e_3 e_4 e_5 e_6
  go_enter Tryd.func11, Tryd.ntmps11
  go_wp2_with fail
  refine KN.out.mono ?_
  rintro e w1 ⟨rfl, hb⟩
  have HB1 := Lib.hid hb
  clear hb
  go_wp2_with fail
  refine (KL.out w1).mono ?_
  rintro e w2 ⟨rfl, hb⟩
  have HB2 := Lib.hid (HB1.out.trans (hb.mono HB1.out.size))
  clear hb
  go_wp2_with fail
  obtain ⟨k, hk⟩ : ∃ k : Nat, (k : Int) = a1 % 8 := ⟨(a1 % 8).toNat, by omega⟩
  obtain ⟨m, hm⟩ : ∃ m : Nat, (m : Int) = a2 % 8 := ⟨(a2 % 8).toNat, by omega⟩
  have hk8 : k < 8 := by omega
  obtain ⟨y, hy⟩ : ∃ y, (badsL l)[k]? = some y := ⟨_, List.getElem?_eq_getElem (by show k < 8; exact hk8)⟩
  have hyn := bads_none hL hl2 y (List.mem_of_getElem? hy)
  have hcell := bads_cells w2 E.out.1 E.out.2.1 E.out.2.2.1 E.out.2.2.2.1 E.out.2.2.2.2.1 E.out.2.2.2.2.2.1 E.out.2.2.2.2.2.2 hy
  have HB3 := Lib.hid (HB2.out.alloc HB2.out.size (.cells #[.string (ByteArray.mk #[]), .string x1, .string x2, .string x3, .string x4, .string x5, .string x6, .string (ByteArray.mk #[97, 98, 99, 100])] 49))
  have HI := Lib.hid (fun W => idx_arr8 w2.heap.size k (a1 % 8) hk (by omega) W)
  generalize w2.alloc (.cells #[.string (ByteArray.mk #[]), .string x1, .string x2, .string x3, .string x4, .string x5, .string x6, .string (ByteArray.mk #[97, 98, 99, 100])] 49) = W3 at hcell HB3 ⊢
  have HC := Lib.hid hcell
  have K1 := Lib.hid (fun W h => canon_no hyn W h)
  have K2 := Lib.hid (fun W h => is_no (isC_no hyn) W h)
  have e0 : sl = S (longL l 0) := E.out.1.symm
  have E0 := Lib.hid e0
  have Hm := Lib.hid hm
  have hm7 : m ≤ 7 := by omega
  have HLo := Lib.hid hL
  have Hl2 := Lib.hid hl2
  clear hcell hy hyn q1 q2 q3 q4 q5 q6 e0 hm hk hL hl2
  go_loopw [9, 10] (fun t i wr => ∃ j : Nat, j ≤ m ∧ i = .int .i64 (j : Int) ∧ t = .string (S (longL l j)) ∧ Below w.heap.size w wr ∧ Below W3.heap.size W3 wr) (fun _ i _ => m - (intOf i).toNat)
  case atStart => exact ⟨0, Nat.zero_le _, rfl, by rw [E0.out], HB3.out, Below.refl _ _⟩
  case round =>
    obtain ⟨j, hj, rfl, rfl, hB, hB3⟩ := hrel
    have HB := Lib.hid hB
    have HD := Lib.hid hB3
    clear hB hB3
    have hlen := longL_len l Hl2.out j
    by_cases hlt : j < m
    · have hlt2 : (j : Int) < a2 % 8 := by have := Hm.out; omega
      have hj7 : (j : Int) ≤ 7 := by omega
      have hj8 : (j : Int) < 256 := by omega
      have kp := law_part (UInt8.ofNat j) 97 8 (by decide) (by decide) wr
      rw [show ((UInt8.ofNat j).toNat : Int) = (j : Int) from by rw [UInt8.toNat_ofNat']; omega, show ((97 : UInt8).toNat : Int) = 97 from rfl, show ((8 : Nat) : Int) = 8 from rfl] at kp
      have hs := longL_succ l j
      obtain ⟨t0, f0⟩ : ∃ x, S (longL l j) = x := ⟨_, rfl⟩
      obtain ⟨t1, f1⟩ : ∃ x, S (longL l j ++ [45]) = x := ⟨_, rfl⟩
      obtain ⟨tp, fp⟩ : ∃ x, S (partAt j) = x := ⟨_, rfl⟩
      obtain ⟨t2, f2⟩ : ∃ x, S (longL l (j + 1)) = x := ⟨_, rfl⟩
      have z0 : ¬ 9223372036854775807 < t0.size + 1 := by rw [← f0, S_size, hlen]; omega
      have z1 : ¬ 9223372036854775807 < t1.size + tp.size := by rw [← f1, ← fp, S_size, S_size, List.length_append, hlen, show (partAt j).length = 8 from partL_length _ _ _]; simp; omega
      have r0 : t0 ++ ByteArray.mk #[45] = t1 := by rw [← f0, ← f1]; rfl
      have r1 : t1 ++ tp = t2 := by rw [← f1, ← fp, ← f2, hs]; show S (longL l j ++ [45] ++ partAt j) = _; rw [List.append_assoc]; rfl
      have hp2 : S (partL (UInt8.ofNat j) 97 8) = tp := fp
      rw [hp2] at kp
      have KP := Lib.hid kp
      have F2 := Lib.hid f2
      rw [f0]
      clear kp f0 f1 fp f2 hs hlen hp2
      go_wp2_with fail
      refine KP.out.mono ?_
      rintro e v1 ⟨rfl, hb⟩
      have HV1 := Lib.hid (HB.out.trans (hb.mono HB.out.size))
      have HV2 := Lib.hid (HD.out.trans (hb.mono HD.out.size))
      clear hb
      go_wp2_with fail
      go_roundw
      case rel => exact ⟨j + 1, by omega, by go_num, by rw [F2.out], HV1.out, HV2.out⟩
      case measure => simp [intOf]; omega
    · obtain rfl : j = m := by omega
      have hlt2 : ¬ (j : Int) < a2 % 8 := by have := Hm.out; omega
      have hi0 := HI.out
      have hc1 := pw_cell_below HD.out HC.out
      have hlen2 : (S (longL l j)).size = 2 + 9 * j := by rw [S_size]; exact hlen
      by_cases h4 : j ≤ 4
      · have K3 := Lib.hid (fun W h => canon_yes (long_some HLo.out Hl2.out j h4) W h)
        have hz1 : ((S (longL l j)).size : Int) ≤ 40 := by rw [hlen2]; omega
        clear hlen hlen2
        go_wp2_with fail
        refine (K1.out wr (HM.out.below HB.out)).mono ?_
        rintro e v1 ⟨rfl, hb⟩
        have HV1 := Lib.hid (HB.out.trans (hb.mono HB.out.size))
        have HD1 := Lib.hid (HD.out.trans (hb.mono HD.out.size))
        clear hb hc1
        go_wp2_with fail
        refine (K3.out v1 (HM.out.below HV1.out)).mono ?_
        rintro e v2 ⟨rfl, hb⟩
        have HV2 := Lib.hid (HV1.out.trans (hb.mono HV1.out.size))
        have HD2 := Lib.hid (HD1.out.trans (hb.mono HD1.out.size))
        have hc2 := pw_cell_below HD2.out HC.out
        clear hb
        go_wp2_with fail
        refine (K2.out v2 (HM.out.below HV2.out)).mono ?_
        rintro e v3 ⟨rfl, hb⟩
        have HV3 := Lib.hid (HV2.out.trans (hb.mono HV2.out.size))
        clear hb
        go_wp2
        go_ret
        exact ⟨rfl, HV3.out⟩
      · have K3 := Lib.hid (fun W h => canon_no (long_none Hl2.out j (by omega)) W h)
        have hz1 : decide (((S (longL l j)).size : Int) ≤ 40) = false := decide_eq_false (by rw [hlen2]; omega)
        clear hlen hlen2
        go_wp2_with fail
        refine (K1.out wr (HM.out.below HB.out)).mono ?_
        rintro e v1 ⟨rfl, hb⟩
        have HV1 := Lib.hid (HB.out.trans (hb.mono HB.out.size))
        have HD1 := Lib.hid (HD.out.trans (hb.mono HD.out.size))
        clear hb hc1
        go_wp2_with fail
        refine (K3.out v1 (HM.out.below HV1.out)).mono ?_
        rintro e v2 ⟨rfl, hb⟩
        have HV2 := Lib.hid (HV1.out.trans (hb.mono HV1.out.size))
        have HD2 := Lib.hid (HD1.out.trans (hb.mono HD1.out.size))
        have hc2 := pw_cell_below HD2.out HC.out
        clear hb
        go_wp2_with fail
        refine (K2.out v2 (HM.out.below HV2.out)).mono ?_
        rintro e v3 ⟨rfl, hb⟩
        have HV3 := Lib.hid (HV2.out.trans (hb.mono HV2.out.size))
        clear hb
        go_wp2
        go_ret
        exact ⟨rfl, HV3.out⟩
end Go.Proofs.YtaccjifhgohfpaaDoor
