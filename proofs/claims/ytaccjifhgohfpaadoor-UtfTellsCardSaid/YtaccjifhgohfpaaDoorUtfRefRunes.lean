import Derived.Test.YtaccjifhgohfpaaDoorUtfRefOne
/- The document's UTF-8: the code points of bytes. -/
namespace Go.Proofs.YtaccjifhgohfpaaDoor
open Go.RowKit Go.Shelf Go.Proofs.YtaccjifhgohfpaaDoorW.PrintWords Go.Proofs.YtaccjifhgohfpaaDoorW.PrintMore

theorem RdB.reads {w : World} {A : Option Addr} {n c : Nat} {xs : List Int} (h : RdB w (.slice A n c) xs) : ReadsInt w .u8 A xs.length xs := by
  obtain ⟨A', c', e, _, hr⟩ := h
  injection e with e1 e2 e3
  rw [e1]; exact hr
theorem one_reads (k : IntKind) (W : World) (x : Int) (t : TypeId) (fz : Nat × Nat) : ReadsInt (W.alloc (.cells #[.int k x] t fz)) k (some ⟨W.heap.size, 0, none⟩) 1 [x] := by
  obtain ⟨A, c, h1, -, h3⟩ := rd_oneN k W x t fz
  injection h1 with e1 e2 e3
  subst e1
  exact h3
theorem oneR_cases {D : List Int} (hne : D ≠ []) : (isGood (dec D) = true ∧ oneR D = (((dec D).1 : Int), ((dec D).2 : Int))) ∨ (isGood (dec D) = false ∧ oneR D = (0, 0) ∧ dec D = (65533, 1)) := by
  have hw := dec_width hne
  cases h : isGood (dec D) with
  | true => exact .inl ⟨rfl, by unfold oneR; rw [if_pos h]⟩
  | false =>
    refine .inr ⟨rfl, by unfold oneR; rw [h]; rfl, ?_⟩
    unfold isGood at h
    rw [decide_eq_false_iff_not] at h
    exact Prod.ext (by simp only; omega) (by simp only; omega)

set_option maxHeartbeats 8000000 in
set_option maxRecDepth 100000 in
theorem ref_runes (A : Option Addr) (c : Nat) (bs : List Int) (w : World) (hr : RdB w (.slice A bs.length c) bs) (hby : By bs) (hlen : bs.length ≤ 1000000) :
    Calls Tryd.prog 15 #[.slice A bs.length c] w fun e w' => ∃ u v, e = .returned (.tuple #[u, v, .bool (allGood bs)]) ∧ OwnN .i32 21 w' w.heap.size u (runes bs) ∧ OwnN .i64 3 w' w.heap.size v (places bs) ∧ Below w.heap.size w w' := by
  have hcap : bs.length ≤ c := by
    obtain ⟨A', c', h1, h2, -⟩ := hr
    injection h1 with e1 e2 e3
    omega
  have Hr := Lib.hid hr
  clear hr
  have HBY := Lib.hid hby
  clear hby
  go_enter Tryd.func15, Tryd.ntmps15
  go_wp2_with fail
  go_loopw [5, 6, 7, 8] (fun u v ok i wr => ∃ (pre : List Stp) (j : Nat), j ≤ bs.length ∧ pre.length ≤ j ∧ ok = .bool (pre.all (·.2.2)) ∧ i = .int .i64 (j : Int) ∧ Hid (steps 0 bs = pre ++ steps j (bs.drop j)) ∧
    Hid (OwnN .i32 21 wr w.heap.size u (pre.map (·.1))) ∧ Hid (OwnN .i64 3 wr w.heap.size v (pre.map fun s => (s.2.1 : Int))) ∧ Below w.heap.size w wr) (fun _ _ _ i _ => bs.length - (intOf i).toNat)
  case atStart => exact ⟨[], 0, Nat.zero_le _, Nat.le_refl _, rfl, rfl, Lib.hid rfl, Lib.hid (World.ownsRow_nil _ _ _ _), Lib.hid (World.ownsRow_nil _ _ _ _), Below.refl _ _⟩
  case round =>
    obtain ⟨pre, j, hj, hpl, rfl, rfl, HS, HO, HP, hB⟩ := hrel
    have HB := Lib.hid hB
    clear hB
    obtain ⟨us, hus⟩ : ∃ us : List Int, pre.map (·.1) = us := ⟨_, rfl⟩
    obtain ⟨ps, hps⟩ : ∃ ps : List Int, (pre.map fun s => (s.2.1 : Int)) = ps := ⟨_, rfl⟩
    rw [hus] at HO
    rw [hps] at HP
    have hul : us.length = pre.length := by rw [← hus, List.length_map]
    have hpsl : ps.length = pre.length := by rw [← hps, List.length_map]
    have HUS := Lib.hid hus
    have HPS := Lib.hid hps
    clear hus hps
    obtain ⟨ok, hok⟩ : ∃ ok, pre.all (·.2.2) = ok := ⟨_, rfl⟩
    rw [hok]
    have HOK := Lib.hid hok
    clear hok
    by_cases hlt : j < bs.length
    · obtain ⟨D, A', c', hds, hd1, hd2, hd3⟩ := cut_fromT (A := A) hcap .i64 (j : Int) (by omega) (by omega)
      rw [Int.toNat_natCast] at hds
      have hDne : D ≠ [] := fun h => by rw [h] at hd3; simp at hd3; omega
      have hDl : 0 < D.length := List.length_pos_iff.2 hDne
      have hw := dec_width hDne
      have hDb : By D := by rw [hds]; exact HBY.out.drop j
      have hst := steps_cons j hDne
      rw [hds, List.drop_drop, ← hds] at hst
      have HST := Lib.hid hst
      have hN1 : 1 ≤ (dec D).2 := hw.1
      have hN2 : (dec D).2 + j ≤ bs.length := by omega
      have hxb : ((dec D).1 : Int) ≤ 2147483647 := by
        have := runes_i32 _ D rfl hDb ((dec D).1 : Int) (by rw [runes_cons hDne]; exact List.mem_cons_self)
        omega
      have HD2 := Lib.hid (hd2 wr ((Hr.out.below HB.out).reads))
      have hcases := oneR_cases hDne
      obtain ⟨g, hg⟩ : ∃ g, isGood (dec D) = g := ⟨_, rfl⟩
      obtain ⟨x, hx⟩ : ∃ x, (dec D).1 = x := ⟨_, rfl⟩
      obtain ⟨N, hN⟩ : ∃ N, (dec D).2 = N := ⟨_, rfl⟩
      rw [hg, hx, hN] at HST
      rw [hN] at hN1 hN2
      rw [hx] at hxb
      have hpair : dec D = (x, N) := Prod.ext hx hN
      rw [hg, hpair] at hcases
      have HDS := Lib.hid hds
      have HDb := Lib.hid hDb
      have HDl := Lib.hid hDl
      have HCS := Lib.hid hcases
      have hl1 : (us.length + 1) * 4 ≤ 140737488355328 := by omega
      have hl2 : (ps.length + 1) * 8 ≤ 140737488355328 := by omega
      have Hl1 := Lib.hid hl1
      have Hl2 := Lib.hid hl2
      clear hul hpsl hds hDne hDl hw hDb hst hg hx hN hpair hd2 hd3 hl1 hl2 hcases
      go_wp2_with fail
      refine (ref_one A' c' D wr HD2.out HDb.out HDl.out).mono ?_
      rintro e w1 ⟨rfl, rfl⟩
      rcases HCS.out with ⟨hgt, hone⟩ | ⟨hgf, hone, hxn⟩
      · rw [hone]
        have hn0 : ((N : Int) == 0) = false := by rw [beq_eq_false_iff_ne]; omega
        have hn1 : ¬ N = 0 := by omega
        have HGT := Lib.hid hgt
        clear hone hgt HCS
        go_wp2_with (first
          | (at_builtin; refine print_append_row (w0 := wr) w.heap.size rfl _ _ _ _ .i32 4 rfl Tryd.underlying23 info32 (by omega) _ us [(x : Int)] (some ⟨wr.heap.size, 0, none⟩) 1 1 rfl rfl (pw_own_below HO.out (below_alloc (Below.refl _ _) _)) (one_reads .i32 wr (x : Int) 21 (0, 0)) ((Below.refl _ _).alloc HB.out.size _) (Nat.le_trans HB.out.size ((Below.refl wr.heap.size wr).alloc (Nat.le_refl _) (.cells #[.int .i32 (x : Int)] 21)).size) Hl1.out ?_; intro u1 w1 ho1 hb1 hg1 hat1;
              have HO1 := Lib.hid ho1; have HB1 := Lib.hid hb1; have HP0 := Lib.hid (pw_own_below HP.out (below_alloc (Below.refl _ wr) (.cells #[.int .i32 (x : Int)] 21))); have HP1 := Lib.hid (own_other HP0.out hg1 (own_type_ne HP0.out (pw_own_below HO.out (below_alloc (Below.refl _ wr) (.cells #[.int .i32 (x : Int)] 21))) (by decide))); clear ho1 hb1 hg1 hat1)
          | (at_builtin; refine print_append_row (w0 := wr) w.heap.size rfl _ _ _ _ .i64 8 rfl Tryd.underlying25 info64 (by omega) _ ps [(j : Int)] (some ⟨w1.heap.size, 0, none⟩) 1 1 rfl rfl (pw_own_below HP1.out (below_alloc (Below.refl _ _) _)) (one_reads .i64 w1 (j : Int) 3 (0, 0)) (HB1.out.alloc (Nat.le_trans HB.out.size HB1.out.size) _) (Nat.le_trans (Nat.le_trans HB.out.size HB1.out.size) ((Below.refl w1.heap.size w1).alloc (Nat.le_refl _) (.cells #[.int .i64 (j : Int)] 3)).size) Hl2.out ?_; intro v2 w2 ho2 hb2 hg2 hat2;
              have HO2 := Lib.hid ho2; have HB2 := Lib.hid hb2; have HU0 := Lib.hid (pw_own_below HO1.out (below_alloc (Below.refl _ w1) (.cells #[.int .i64 (j : Int)] 3))); have HU2 := Lib.hid (own_other HU0.out hg2 (own_type_ne HU0.out (pw_own_below HP1.out (below_alloc (Below.refl _ w1) (.cells #[.int .i64 (j : Int)] 3))) (by decide))); clear ho2 hb2 hg2 hat2))
        go_roundw
        case rel => exact ⟨pre ++ [((x : Int), j, true)], j + N, by omega, by rw [List.length_append, List.length_singleton]; omega, by rw [List.all_append, HOK.out]; simp, by go_num, Lib.hid (by rw [HS.out, ← HDS.out, HST.out, HGT.out, List.append_assoc]; rfl),
          Lib.hid (by rw [List.map_append, HUS.out]; exact HU2.out), Lib.hid (by rw [List.map_append, HPS.out]; exact HO2.out), HB.out.trans HB2.out⟩
        case measure => simp [intOf]; omega
      · rw [hone]
        injection hxn with hx hN
        subst hx
        subst hN
        have HGT := Lib.hid hgf
        clear hone hgf HCS
        go_wp2_with (first
          | (at_builtin; refine print_append_row (w0 := wr) w.heap.size rfl _ _ _ _ .i32 4 rfl Tryd.underlying23 info32 (by omega) _ us [65533] (some ⟨wr.heap.size, 0, none⟩) 1 1 rfl rfl (pw_own_below HO.out (below_alloc (Below.refl _ _) _)) (one_reads .i32 wr 65533 21 (0, 0)) ((Below.refl _ _).alloc HB.out.size _) (Nat.le_trans HB.out.size ((Below.refl wr.heap.size wr).alloc (Nat.le_refl _) (.cells #[.int .i32 65533] 21)).size) Hl1.out ?_; intro u1 w1 ho1 hb1 hg1 hat1;
              have HO1 := Lib.hid ho1; have HB1 := Lib.hid hb1; have HP0 := Lib.hid (pw_own_below HP.out (below_alloc (Below.refl _ wr) (.cells #[.int .i32 65533] 21))); have HP1 := Lib.hid (own_other HP0.out hg1 (own_type_ne HP0.out (pw_own_below HO.out (below_alloc (Below.refl _ wr) (.cells #[.int .i32 65533] 21))) (by decide))); clear ho1 hb1 hg1 hat1)
          | (at_builtin; refine print_append_row (w0 := wr) w.heap.size rfl _ _ _ _ .i64 8 rfl Tryd.underlying25 info64 (by omega) _ ps [(j : Int)] (some ⟨w1.heap.size, 0, none⟩) 1 1 rfl rfl (pw_own_below HP1.out (below_alloc (Below.refl _ _) _)) (one_reads .i64 w1 (j : Int) 3 (0, 0)) (HB1.out.alloc (Nat.le_trans HB.out.size HB1.out.size) _) (Nat.le_trans (Nat.le_trans HB.out.size HB1.out.size) ((Below.refl w1.heap.size w1).alloc (Nat.le_refl _) (.cells #[.int .i64 (j : Int)] 3)).size) Hl2.out ?_; intro v2 w2 ho2 hb2 hg2 hat2;
              have HO2 := Lib.hid ho2; have HB2 := Lib.hid hb2; have HU0 := Lib.hid (pw_own_below HO1.out (below_alloc (Below.refl _ w1) (.cells #[.int .i64 (j : Int)] 3))); have HU2 := Lib.hid (own_other HU0.out hg2 (own_type_ne HU0.out (pw_own_below HP1.out (below_alloc (Below.refl _ w1) (.cells #[.int .i64 (j : Int)] 3))) (by decide))); clear ho2 hb2 hg2 hat2))
        go_roundw
        case rel => exact ⟨pre ++ [((65533 : Int), j, false)], j + 1, by omega, by rw [List.length_append, List.length_singleton]; omega, by rw [List.all_append]; simp, by go_num, Lib.hid (by rw [HS.out, ← HDS.out, HST.out, HGT.out, List.append_assoc]; rfl),
          Lib.hid (by rw [List.map_append, HUS.out]; exact HU2.out), Lib.hid (by rw [List.map_append, HPS.out]; exact HO2.out), HB.out.trans HB2.out⟩
        case measure => simp [intOf]; omega
    · have hjn : j = bs.length := by omega
      subst hjn
      clear hul hpsl
      have hst := HS.out
      rw [List.drop_length, steps_nil, List.append_nil] at hst
      have HST := Lib.hid hst
      clear hst
      go_wp2_with fail
      go_ret3
      have hA : allGood bs = ok := by unfold allGood; rw [HST.out, HOK.out]
      have h1 : OwnN .i32 21 wr w.heap.size u5 (runes bs) := by unfold runes; rw [HST.out, HUS.out]; exact HO.out
      have h2 : OwnN .i64 3 wr w.heap.size u6 (places bs) := by unfold places; rw [HST.out, HPS.out]; exact HP.out
      rw [hA]
      exact ⟨_, _, rfl, h1, h2, HB.out⟩
end Go.Proofs.YtaccjifhgohfpaaDoor
